/- Lists in which some things are others. -/
import Derived.Test.YtbdhhedfplkidaaGreatC10
import Derived.Test.YtbdhhedfplkidaaGreatC11
namespace Go.Proofs.YtbdhhedfplkidaaGreat
open Go
open M (Str)
set_option maxHeartbeats 400000
set_option maxRecDepth 2000
section
variable {c : World} {Q : Exit → Act → World → Prop} {n : Nat} {l : List (Nat × Value)} {H R : HProp} {ks : List Kn}
variable {q q1 q2 : Md} {all : Array Oper} {o : Oper} {rest : List Oper} {d : Nat} {v : Value}
/-- xs[:j] of an owned slice -/
theorem W.sltk [hNL : NL q1 q2] {t e : TypeId} {x y : Operand} {z : Value} {s : Nat} {ag : Bool} {a : Option Nat} {m cp : Nat} {kd : IntKind} {i : Int} (hg : o.guard = none) (hd : o.dst = some d) (hn : Nat.blt d n = true) (ho : o.op = .slice t x none (some y) none) [ht : TD t (.slice e)] [ti : TI e z s ag]
    (hx : ev l x = some (sv a m cp)) (hy : ev l y = some (.int kd i)) (h0 : 0 ≤ i) (h1 : i ≤ cp)
    (k : WS c Q n (.ops q2 all rest ks) ((d, sv a i.toNat cp) :: l) H) : WS c Q n (.ops q1 all (o :: rest) ks) l H := by
  refine W.val hg hd hn (fun ac w hf _ => ?_) k
  by_cases hc : cp = 0
  · subst hc
    obtain rfl : i = 0 := by omega
    simp [execOp, ho, hf.eval hx, hf.eval hy, Instr.sliceAt, Instr.slice, run_underlying ht.eq, Instr.sliceBounds, Instr.sliceBound, asIntOf, ti.size]
  · cases a <;> simp [execOp, ho, hf.eval hx, hf.eval hy, Instr.sliceAt, Instr.slice, run_underlying ht.eq, Instr.sliceBounds, Instr.sliceBound, asIntOf, h0, h1, ti.size, hc, add_none]
/-- xs[i:] of an owned slice -/
theorem W.slfk [hNL : NL q1 q2] {t e : TypeId} {x y : Operand} {z : Value} {s : Nat} {ag : Bool} {a : Option Nat} {m cp : Nat} {kd : IntKind} {i : Int} (hg : o.guard = none) (hd : o.dst = some d) (hn : Nat.blt d n = true) (ho : o.op = .slice t x (some y) none none) [ht : TD t (.slice e)] [ti : TI e z s ag]
    (hx : ev l x = some (sv a m cp)) (hy : ev l y = some (.int kd i)) (h0 : 0 ≤ i) (h1 : i ≤ m)
    (k : WS c Q n (.ops q2 all rest ks) ((d, .slice (a.map fun g => ⟨g, if cp = i.toNat then 0 else i.toNat * s, none⟩) (m - i.toNat) (cp - i.toNat)) :: l) H) : WS c Q n (.ops q1 all (o :: rest) ks) l H := by
  refine W.val hg hd hn (fun ac w hf _ => ?_) k
  cases a with
  | none => simp [execOp, ho, hf.eval hx, hf.eval hy, Instr.sliceAt, Instr.slice, run_underlying ht.eq, Instr.sliceBounds, Instr.sliceBound, asIntOf, h0, h1, ti.size]
  | some g =>
    by_cases hc : cp = i.toNat
    · simp [execOp, ho, hf.eval hx, hf.eval hy, Instr.sliceAt, Instr.slice, run_underlying ht.eq, Instr.sliceBounds, Instr.sliceBound, asIntOf, h0, h1, ti.size, hc]
    · simp [execOp, ho, hf.eval hx, hf.eval hy, Instr.sliceAt, Instr.slice, run_underlying ht.eq, Instr.sliceBounds, Instr.sliceBound, asIntOf, h0, h1, ti.size, hc, add_none]
/-- What an owned slice says by itself. -/
theorem W.skf {s : Ctl} (a : Option Nat) (E : TypeId) {kk m cap : Nat} {xs : List Value} [hk : Sk H a E kk m cap xs R]
    (k : xs.length = m * kk → m ≤ cap → cap ≤ maxLen → (a = none → m = 0 ∧ cap = 0) → WS c Q n s l H) : WS c Q n s l H := by
  intro ac w hf hs
  have hs2 := hs
  rw [hk.eq] at hs2
  obtain ⟨h0, h1, h2, h3⟩ := hs2.skv
  refine k h0 h1 h2 (fun ha => ?_) ac w hf hs
  rcases h3 with ⟨_, hz, hc⟩ | ⟨g, sp, hb, _, _⟩
  · exact ⟨hz, hc⟩
  · rw [ha] at hb; cases hb
end
theorem reads_sk {F : HProp} {E : TypeId} {a n cap : Nat} {xs : List Value} {R : HProp} [hk : Sk F (some a) E 1 n cap xs R] (o k : Nat) : Reads F a o ((xs.drop o).take k) := by
  intro c w hs j u hj
  rw [hk.eq] at hs
  have h1 : xs[o + j]? = some u := by
    rw [List.getElem?_take] at hj
    split at hj
    · simpa using hj
    · cases hj
  have := hs.sk_cell (o + j) u h1
  simpa using this
/-- What a text of three parts is. -/
theorem laid_eq (xs more : List Value) (at' gone : Nat) : M.laid xs (at' : Int) gone more = xs.take (min at' xs.length) ++ more ++ xs.drop (min (min at' xs.length + gone) xs.length) := by
  simp only [M.laid]
  congr 2
  · congr 1; omega
  · congr 1; omega
theorem laid_map {α : Type} (f : α → Value) (xs more : List α) (at' gone : Int) : M.laid (xs.map f) at' gone (more.map f) = (M.laid xs at' gone more).map f := by
  simp [M.laid, List.map_take, List.map_drop]
theorem laid_u64 (a : Option Nat) (n cap : Nat) (xs : List Value) (at' gone : Nat) (mo : Part) (Mh : HProp) (hm : mo.ok Mh) (hmo : ∀ u ∈ mo.xs, u.oneCell' = true) (hml : mo.xs.length ≤ 8) (hxo : ∀ u ∈ xs, u.oneCell' = true) (hx : n ≤ 8192) (ha : at' ≤ 100000) (hg : gone ≤ 100000) :
    CS 113 [sv a n cap, int at', int gone, mo.v] (slck 1 35 (sv a n cap) n xs • Mh)
      fun v H' => ∃ a' cap', v = sv a' (M.laid xs at' gone mo.xs).length cap' ∧ H' = (slck 1 35 (sv a' (M.laid xs at' gone mo.xs).length cap') (M.laid xs at' gone mo.xs).length (M.laid xs at' gone mo.xs) • slck 1 35 (sv a n cap) n xs • Mh) := by
  refine CS.walk Tryz.func113 rfl Tryz.ntmps113 rfl fun c R => ?_
  simp only [sep_assoc']
  refine W.skf a 35 (fun f1 f2 f3 f4 => ?_)
  rw [Nat.mul_one] at f1
  (repeat (first | refine W.ctl rfl ?_ | refine W.op rfl rfl rfl rfl ?_ | refine W.skip rfl rfl ?_ | refine W.fld rfl rfl rfl rfl rfl ?_ | refine W.ld rfl rfl rfl rfl rfl ?_))
  refine W.len rfl rfl rfl rfl rfl ?_
  refine W.mn rfl rfl rfl rfl rfl rfl ?_
  rw [show (if (n : Int) < at' then (n : Int) else at') = ((min at' n : Nat) : Int) by split <;> omega]
  (repeat (first | refine W.ctl rfl ?_ | refine W.op rfl rfl rfl rfl ?_ | refine W.skip rfl rfl ?_ | refine W.fld rfl rfl rfl rfl rfl ?_ | refine W.ld rfl rfl rfl rfl rfl ?_))
  refine W.anyq (f := 3) (fun j => !Nat.beq j 13 && !Nat.beq j 14) [0, 1, 2, 3, 4, 5, 6, 7, 8, 9, 10, 11] (by kernel_rfl) (by kernel_rfl) (by kernel_rfl) (by kernel_rfl) rfl ?_
  (repeat (first | refine W.ctl rfl ?_ | refine W.op rfl rfl rfl rfl ?_ | refine W.skip rfl rfl ?_ | refine W.fld rfl rfl rfl rfl rfl ?_ | refine W.ld rfl rfl rfl rfl rfl ?_))
  refine W.sltk rfl rfl rfl rfl rfl rfl (by omega) (by omega) ?_
  (repeat (first | refine W.ctl rfl ?_ | refine W.op rfl rfl rfl rfl ?_ | refine W.skip rfl rfl ?_ | refine W.fld rfl rfl rfl rfl rfl ?_ | refine W.ld rfl rfl rfl rfl rfl ?_))
  refine W.ar (r := ((min at' n + gone : Nat) : Int)) rfl rfl rfl rfl rfl rfl rfl (wrap_i64 (by omega) (by omega)) ?_
  (repeat (first | refine W.ctl rfl ?_ | refine W.op rfl rfl rfl rfl ?_ | refine W.skip rfl rfl ?_ | refine W.fld rfl rfl rfl rfl rfl ?_ | refine W.ld rfl rfl rfl rfl rfl ?_))
  refine W.len rfl rfl rfl rfl rfl ?_
  refine W.mn rfl rfl rfl rfl rfl rfl ?_
  rw [show (if (n : Int) < ((min at' n + gone : Nat) : Int) then (n : Int) else ((min at' n + gone : Nat) : Int)) = ((min (min at' n + gone) n : Nat) : Int) by split <;> omega]
  refine W.slfk rfl rfl rfl rfl rfl rfl (by omega) (by omega) ?_
  obtain ⟨j, hj⟩ : ∃ j, min at' n = j := ⟨_, rfl⟩
  obtain ⟨k, hk⟩ : ∃ k, min (min at' n + gone) n = k := ⟨_, rfl⟩
  have hjn : j ≤ n := by omega
  have hkn : k ≤ n := by omega
  obtain ⟨ps, hps⟩ : ∃ ps : List Part, ps = [⟨a.map fun g => (g, 0), cap, xs.take j⟩, mo, ⟨a.map fun g => (g, if cap = k then 0 else k), cap - k, xs.drop k⟩] := ⟨_, rfl⟩
  have hl : M.laid xs at' gone mo.xs = (ps.map Part.xs).flatten := by
    rw [laid_eq, hps, f1, hj, ← hj, hk]; simp
  have hv : ps.map Part.v = [sv a j cap, mo.v, .slice (a.map fun g => ⟨g, if cap = k then 0 else k, none⟩) (n - k) (cap - k)] := by
    rw [hps]
    cases a <;> simp [Part.v, f1] <;> omega
  have hln : ps.length = 3 := by rw [hps]; rfl
  have hok : ∀ x ∈ ps, x.ok (slck 1 35 (sv a n cap) n xs • Mh • R) ∧ (∀ u ∈ x.xs, u.oneCell' = true) ∧ x.xs.length ≤ 8192 := by
    intro x hx
    rw [hps] at hx
    simp only [List.mem_cons, List.not_mem_nil, or_false] at hx
    rcases hx with rfl | rfl | rfl
    · refine ⟨?_, fun u hu => hxo u (List.mem_of_mem_take hu), by simp; omega⟩
      cases a with
      | none => left; dsimp only; obtain ⟨h, _⟩ := f4 rfl; rw [List.eq_nil_of_length_eq_zero (by omega : xs.length = 0)]; simp
      | some g => right; exact ⟨g, 0, rfl, by simpa using reads_sk (F := slck 1 35 (sv (some g) n cap) n xs • Mh • R) (E := 35) (xs := xs) 0 j⟩
    · refine ⟨?_, hmo, by omega⟩
      rcases hm with h | ⟨b, o, h1, h2⟩
      · exact .inl h
      · exact .inr ⟨b, o, h1, fun c w hs => h2 c w (hs.imp Imp.all)⟩
    · refine ⟨?_, fun u hu => hxo u (List.mem_of_mem_drop hu), by simp; omega⟩
      cases a with
      | none => left; dsimp only; obtain ⟨h, _⟩ := f4 rfl; rw [List.eq_nil_of_length_eq_zero (by omega : xs.length = 0)]; simp
      | some g =>
        by_cases hc : cap = k
        · left; dsimp only; exact List.drop_eq_nil_of_le (by omega)
        · right
          refine ⟨g, k, by simp [hc], ?_⟩
          have := reads_sk (a := g) (F := slck 1 35 (sv (some g) n cap) n xs • Mh • R) (E := 35) (xs := xs) k (xs.drop k).length
          rwa [List.take_length] at this
  refine W.tdn ?_
  refine W.ald1 12 (by kernel_rfl) rfl ?_
  refine W.bsl (h1 := ⟨fun u hu => by obtain ⟨p, _, rfl⟩ := List.mem_map.1 hu; rfl⟩) (vs := ps.map Part.v) rfl rfl rfl rfl (by rw [hv]; simp only [Int.toNat_natCast, Nat.mul_one, ← hj, ← hk]; exact ⟨rfl, rfl, rfl, rfl, rfl, rfl, trivial⟩) (by rw [List.length_map, hln]) rfl rfl fun g => ?_
  refine W.aft Imp.all ?_
  refine W.ald1 13 (by kernel_rfl) rfl ?_
  have hcc := concat_u64 (slck 1 35 (sv a n cap) n xs • Mh • R) g ps hok (by omega)
  rw [hln] at hcc
  rw [hl]
  refine W.call hcc rfl rfl rfl rfl Tryz.call151 ⟨rfl, trivial⟩ ?_
  rintro _ _ ⟨a', cap', rfl, rfl⟩
  simp only [sep_assoc']
  refine W.afb ?_
  refine W.ald1 14 (by kernel_rfl) rfl ?_
  (repeat (first | refine W.ctl rfl ?_ | refine W.op rfl rfl rfl rfl ?_ | refine W.skip rfl rfl ?_ | refine W.fld rfl rfl rfl rfl rfl ?_ | refine W.ld rfl rfl rfl rfl rfl ?_))
  refine W.afb (W.adn (by kernel_rfl) ?_)
  (repeat (first | refine W.ctl rfl ?_ | refine W.op rfl rfl rfl rfl ?_ | refine W.skip rfl rfl ?_ | refine W.fld rfl rfl rfl rfl rfl ?_ | refine W.ld rfl rfl rfl rfl rfl ?_))
  exact W.ret1 (.inr rfl) rfl rfl _ ⟨a', cap', rfl, rfl⟩ Imp.all
theorem laid_str (a : Option Nat) (n cap : Nat) (xs : List Value) (at' gone : Nat) (mo : Part) (Mh : HProp) (hm : mo.ok Mh) (hmo : ∀ u ∈ mo.xs, u.oneCell' = true) (hml : mo.xs.length ≤ 8) (hxo : ∀ u ∈ xs, u.oneCell' = true) (hx : n ≤ 8192) (ha : at' ≤ 100000) (hg : gone ≤ 100000) :
    CS 114 [sv a n cap, int at', int gone, mo.v] (slck 1 9 (sv a n cap) n xs • Mh)
      fun v H' => ∃ a' cap', v = sv a' (M.laid xs at' gone mo.xs).length cap' ∧ H' = (slck 1 9 (sv a' (M.laid xs at' gone mo.xs).length cap') (M.laid xs at' gone mo.xs).length (M.laid xs at' gone mo.xs) • slck 1 9 (sv a n cap) n xs • Mh) := by
  refine CS.walk Tryz.func114 rfl Tryz.ntmps114 rfl fun c R => ?_
  simp only [sep_assoc']
  refine W.skf a 9 (fun f1 f2 f3 f4 => ?_)
  rw [Nat.mul_one] at f1
  (repeat (first | refine W.ctl rfl ?_ | refine W.op rfl rfl rfl rfl ?_ | refine W.skip rfl rfl ?_ | refine W.fld rfl rfl rfl rfl rfl ?_ | refine W.ld rfl rfl rfl rfl rfl ?_))
  refine W.len rfl rfl rfl rfl rfl ?_
  refine W.mn rfl rfl rfl rfl rfl rfl ?_
  rw [show (if (n : Int) < at' then (n : Int) else at') = ((min at' n : Nat) : Int) by split <;> omega]
  (repeat (first | refine W.ctl rfl ?_ | refine W.op rfl rfl rfl rfl ?_ | refine W.skip rfl rfl ?_ | refine W.fld rfl rfl rfl rfl rfl ?_ | refine W.ld rfl rfl rfl rfl rfl ?_))
  refine W.anyq (f := 3) (fun j => !Nat.beq j 13 && !Nat.beq j 14) [0, 1, 2, 3, 4, 5, 6, 7, 8, 9, 10, 11] (by kernel_rfl) (by kernel_rfl) (by kernel_rfl) (by kernel_rfl) rfl ?_
  (repeat (first | refine W.ctl rfl ?_ | refine W.op rfl rfl rfl rfl ?_ | refine W.skip rfl rfl ?_ | refine W.fld rfl rfl rfl rfl rfl ?_ | refine W.ld rfl rfl rfl rfl rfl ?_))
  refine W.sltk rfl rfl rfl rfl rfl rfl (by omega) (by omega) ?_
  (repeat (first | refine W.ctl rfl ?_ | refine W.op rfl rfl rfl rfl ?_ | refine W.skip rfl rfl ?_ | refine W.fld rfl rfl rfl rfl rfl ?_ | refine W.ld rfl rfl rfl rfl rfl ?_))
  refine W.ar (r := ((min at' n + gone : Nat) : Int)) rfl rfl rfl rfl rfl rfl rfl (wrap_i64 (by omega) (by omega)) ?_
  (repeat (first | refine W.ctl rfl ?_ | refine W.op rfl rfl rfl rfl ?_ | refine W.skip rfl rfl ?_ | refine W.fld rfl rfl rfl rfl rfl ?_ | refine W.ld rfl rfl rfl rfl rfl ?_))
  refine W.len rfl rfl rfl rfl rfl ?_
  refine W.mn rfl rfl rfl rfl rfl rfl ?_
  rw [show (if (n : Int) < ((min at' n + gone : Nat) : Int) then (n : Int) else ((min at' n + gone : Nat) : Int)) = ((min (min at' n + gone) n : Nat) : Int) by split <;> omega]
  refine W.slfk rfl rfl rfl rfl rfl rfl (by omega) (by omega) ?_
  obtain ⟨j, hj⟩ : ∃ j, min at' n = j := ⟨_, rfl⟩
  obtain ⟨k, hk⟩ : ∃ k, min (min at' n + gone) n = k := ⟨_, rfl⟩
  have hjn : j ≤ n := by omega
  have hkn : k ≤ n := by omega
  obtain ⟨ps, hps⟩ : ∃ ps : List Part, ps = [⟨a.map fun g => (g, 0), cap, xs.take j⟩, mo, ⟨a.map fun g => (g, if cap = k then 0 else k), cap - k, xs.drop k⟩] := ⟨_, rfl⟩
  have hl : M.laid xs at' gone mo.xs = (ps.map Part.xs).flatten := by
    rw [laid_eq, hps, f1, hj, ← hj, hk]; simp
  have hv : ps.map Part.v = [sv a j cap, mo.v, .slice (a.map fun g => ⟨g, if cap = k then 0 else k, none⟩) (n - k) (cap - k)] := by
    rw [hps]
    cases a <;> simp [Part.v, f1] <;> omega
  have hln : ps.length = 3 := by rw [hps]; rfl
  have hok : ∀ x ∈ ps, x.ok (slck 1 9 (sv a n cap) n xs • Mh • R) ∧ (∀ u ∈ x.xs, u.oneCell' = true) ∧ x.xs.length ≤ 8192 := by
    intro x hx
    rw [hps] at hx
    simp only [List.mem_cons, List.not_mem_nil, or_false] at hx
    rcases hx with rfl | rfl | rfl
    · refine ⟨?_, fun u hu => hxo u (List.mem_of_mem_take hu), by simp; omega⟩
      cases a with
      | none => left; dsimp only; obtain ⟨h, _⟩ := f4 rfl; rw [List.eq_nil_of_length_eq_zero (by omega : xs.length = 0)]; simp
      | some g => right; exact ⟨g, 0, rfl, by simpa using reads_sk (F := slck 1 9 (sv (some g) n cap) n xs • Mh • R) (E := 9) (xs := xs) 0 j⟩
    · refine ⟨?_, hmo, by omega⟩
      rcases hm with h | ⟨b, o, h1, h2⟩
      · exact .inl h
      · exact .inr ⟨b, o, h1, fun c w hs => h2 c w (hs.imp Imp.all)⟩
    · refine ⟨?_, fun u hu => hxo u (List.mem_of_mem_drop hu), by simp; omega⟩
      cases a with
      | none => left; dsimp only; obtain ⟨h, _⟩ := f4 rfl; rw [List.eq_nil_of_length_eq_zero (by omega : xs.length = 0)]; simp
      | some g =>
        by_cases hc : cap = k
        · left; dsimp only; exact List.drop_eq_nil_of_le (by omega)
        · right
          refine ⟨g, k, by simp [hc], ?_⟩
          have := reads_sk (a := g) (F := slck 1 9 (sv (some g) n cap) n xs • Mh • R) (E := 9) (xs := xs) k (xs.drop k).length
          rwa [List.take_length] at this
  refine W.tdn ?_
  refine W.ald1 12 (by kernel_rfl) rfl ?_
  refine W.bsl (h1 := ⟨fun u hu => by obtain ⟨p, _, rfl⟩ := List.mem_map.1 hu; rfl⟩) (vs := ps.map Part.v) rfl rfl rfl rfl (by rw [hv]; simp only [Int.toNat_natCast, Nat.mul_one, ← hj, ← hk]; exact ⟨rfl, rfl, rfl, rfl, rfl, rfl, trivial⟩) (by rw [List.length_map, hln]) rfl rfl fun g => ?_
  refine W.aft Imp.all ?_
  refine W.ald1 13 (by kernel_rfl) rfl ?_
  have hcc := concat_str (slck 1 9 (sv a n cap) n xs • Mh • R) g ps hok (by omega)
  rw [hln] at hcc
  rw [hl]
  refine W.call hcc rfl rfl rfl rfl Tryz.call152 ⟨rfl, trivial⟩ ?_
  rintro _ _ ⟨a', cap', rfl, rfl⟩
  simp only [sep_assoc']
  refine W.afb ?_
  refine W.ald1 14 (by kernel_rfl) rfl ?_
  (repeat (first | refine W.ctl rfl ?_ | refine W.op rfl rfl rfl rfl ?_ | refine W.skip rfl rfl ?_ | refine W.fld rfl rfl rfl rfl rfl ?_ | refine W.ld rfl rfl rfl rfl rfl ?_))
  refine W.afb (W.adn (by kernel_rfl) ?_)
  (repeat (first | refine W.ctl rfl ?_ | refine W.op rfl rfl rfl rfl ?_ | refine W.skip rfl rfl ?_ | refine W.fld rfl rfl rfl rfl rfl ?_ | refine W.ld rfl rfl rfl rfl rfl ?_))
  exact W.ret1 (.inr rfl) rfl rfl _ ⟨a', cap', rfl, rfl⟩ Imp.all
theorem laid_int (a : Option Nat) (n cap : Nat) (xs : List Value) (at' gone : Nat) (mo : Part) (Mh : HProp) (hm : mo.ok Mh) (hmo : ∀ u ∈ mo.xs, u.oneCell' = true) (hml : mo.xs.length ≤ 8) (hxo : ∀ u ∈ xs, u.oneCell' = true) (hx : n ≤ 8192) (ha : at' ≤ 100000) (hg : gone ≤ 100000) :
    CS 116 [sv a n cap, int at', int gone, mo.v] (slck 1 3 (sv a n cap) n xs • Mh)
      fun v H' => ∃ a' cap', v = sv a' (M.laid xs at' gone mo.xs).length cap' ∧ H' = (slck 1 3 (sv a' (M.laid xs at' gone mo.xs).length cap') (M.laid xs at' gone mo.xs).length (M.laid xs at' gone mo.xs) • slck 1 3 (sv a n cap) n xs • Mh) := by
  refine CS.walk Tryz.func116 rfl Tryz.ntmps116 rfl fun c R => ?_
  simp only [sep_assoc']
  refine W.skf a 3 (fun f1 f2 f3 f4 => ?_)
  rw [Nat.mul_one] at f1
  (repeat (first | refine W.ctl rfl ?_ | refine W.op rfl rfl rfl rfl ?_ | refine W.skip rfl rfl ?_ | refine W.fld rfl rfl rfl rfl rfl ?_ | refine W.ld rfl rfl rfl rfl rfl ?_))
  refine W.len rfl rfl rfl rfl rfl ?_
  refine W.mn rfl rfl rfl rfl rfl rfl ?_
  rw [show (if (n : Int) < at' then (n : Int) else at') = ((min at' n : Nat) : Int) by split <;> omega]
  (repeat (first | refine W.ctl rfl ?_ | refine W.op rfl rfl rfl rfl ?_ | refine W.skip rfl rfl ?_ | refine W.fld rfl rfl rfl rfl rfl ?_ | refine W.ld rfl rfl rfl rfl rfl ?_))
  refine W.anyq (f := 3) (fun j => !Nat.beq j 13 && !Nat.beq j 14) [0, 1, 2, 3, 4, 5, 6, 7, 8, 9, 10, 11] (by kernel_rfl) (by kernel_rfl) (by kernel_rfl) (by kernel_rfl) rfl ?_
  (repeat (first | refine W.ctl rfl ?_ | refine W.op rfl rfl rfl rfl ?_ | refine W.skip rfl rfl ?_ | refine W.fld rfl rfl rfl rfl rfl ?_ | refine W.ld rfl rfl rfl rfl rfl ?_))
  refine W.sltk rfl rfl rfl rfl rfl rfl (by omega) (by omega) ?_
  (repeat (first | refine W.ctl rfl ?_ | refine W.op rfl rfl rfl rfl ?_ | refine W.skip rfl rfl ?_ | refine W.fld rfl rfl rfl rfl rfl ?_ | refine W.ld rfl rfl rfl rfl rfl ?_))
  refine W.ar (r := ((min at' n + gone : Nat) : Int)) rfl rfl rfl rfl rfl rfl rfl (wrap_i64 (by omega) (by omega)) ?_
  (repeat (first | refine W.ctl rfl ?_ | refine W.op rfl rfl rfl rfl ?_ | refine W.skip rfl rfl ?_ | refine W.fld rfl rfl rfl rfl rfl ?_ | refine W.ld rfl rfl rfl rfl rfl ?_))
  refine W.len rfl rfl rfl rfl rfl ?_
  refine W.mn rfl rfl rfl rfl rfl rfl ?_
  rw [show (if (n : Int) < ((min at' n + gone : Nat) : Int) then (n : Int) else ((min at' n + gone : Nat) : Int)) = ((min (min at' n + gone) n : Nat) : Int) by split <;> omega]
  refine W.slfk rfl rfl rfl rfl rfl rfl (by omega) (by omega) ?_
  obtain ⟨j, hj⟩ : ∃ j, min at' n = j := ⟨_, rfl⟩
  obtain ⟨k, hk⟩ : ∃ k, min (min at' n + gone) n = k := ⟨_, rfl⟩
  have hjn : j ≤ n := by omega
  have hkn : k ≤ n := by omega
  obtain ⟨ps, hps⟩ : ∃ ps : List Part, ps = [⟨a.map fun g => (g, 0), cap, xs.take j⟩, mo, ⟨a.map fun g => (g, if cap = k then 0 else k), cap - k, xs.drop k⟩] := ⟨_, rfl⟩
  have hl : M.laid xs at' gone mo.xs = (ps.map Part.xs).flatten := by
    rw [laid_eq, hps, f1, hj, ← hj, hk]; simp
  have hv : ps.map Part.v = [sv a j cap, mo.v, .slice (a.map fun g => ⟨g, if cap = k then 0 else k, none⟩) (n - k) (cap - k)] := by
    rw [hps]
    cases a <;> simp [Part.v, f1] <;> omega
  have hln : ps.length = 3 := by rw [hps]; rfl
  have hok : ∀ x ∈ ps, x.ok (slck 1 3 (sv a n cap) n xs • Mh • R) ∧ (∀ u ∈ x.xs, u.oneCell' = true) ∧ x.xs.length ≤ 8192 := by
    intro x hx
    rw [hps] at hx
    simp only [List.mem_cons, List.not_mem_nil, or_false] at hx
    rcases hx with rfl | rfl | rfl
    · refine ⟨?_, fun u hu => hxo u (List.mem_of_mem_take hu), by simp; omega⟩
      cases a with
      | none => left; dsimp only; obtain ⟨h, _⟩ := f4 rfl; rw [List.eq_nil_of_length_eq_zero (by omega : xs.length = 0)]; simp
      | some g => right; exact ⟨g, 0, rfl, by simpa using reads_sk (F := slck 1 3 (sv (some g) n cap) n xs • Mh • R) (E := 3) (xs := xs) 0 j⟩
    · refine ⟨?_, hmo, by omega⟩
      rcases hm with h | ⟨b, o, h1, h2⟩
      · exact .inl h
      · exact .inr ⟨b, o, h1, fun c w hs => h2 c w (hs.imp Imp.all)⟩
    · refine ⟨?_, fun u hu => hxo u (List.mem_of_mem_drop hu), by simp; omega⟩
      cases a with
      | none => left; dsimp only; obtain ⟨h, _⟩ := f4 rfl; rw [List.eq_nil_of_length_eq_zero (by omega : xs.length = 0)]; simp
      | some g =>
        by_cases hc : cap = k
        · left; dsimp only; exact List.drop_eq_nil_of_le (by omega)
        · right
          refine ⟨g, k, by simp [hc], ?_⟩
          have := reads_sk (a := g) (F := slck 1 3 (sv (some g) n cap) n xs • Mh • R) (E := 3) (xs := xs) k (xs.drop k).length
          rwa [List.take_length] at this
  refine W.tdn ?_
  refine W.ald1 12 (by kernel_rfl) rfl ?_
  refine W.bsl (h1 := ⟨fun u hu => by obtain ⟨p, _, rfl⟩ := List.mem_map.1 hu; rfl⟩) (vs := ps.map Part.v) rfl rfl rfl rfl (by rw [hv]; simp only [Int.toNat_natCast, Nat.mul_one, ← hj, ← hk]; exact ⟨rfl, rfl, rfl, rfl, rfl, rfl, trivial⟩) (by rw [List.length_map, hln]) rfl rfl fun g => ?_
  refine W.aft Imp.all ?_
  refine W.ald1 13 (by kernel_rfl) rfl ?_
  have hcc := concat_int (slck 1 3 (sv a n cap) n xs • Mh • R) g ps hok (by omega)
  rw [hln] at hcc
  rw [hl]
  refine W.call hcc rfl rfl rfl rfl Tryz.call153 ⟨rfl, trivial⟩ ?_
  rintro _ _ ⟨a', cap', rfl, rfl⟩
  simp only [sep_assoc']
  refine W.afb ?_
  refine W.ald1 14 (by kernel_rfl) rfl ?_
  (repeat (first | refine W.ctl rfl ?_ | refine W.op rfl rfl rfl rfl ?_ | refine W.skip rfl rfl ?_ | refine W.fld rfl rfl rfl rfl rfl ?_ | refine W.ld rfl rfl rfl rfl rfl ?_))
  refine W.afb (W.adn (by kernel_rfl) ?_)
  (repeat (first | refine W.ctl rfl ?_ | refine W.op rfl rfl rfl rfl ?_ | refine W.skip rfl rfl ?_ | refine W.fld rfl rfl rfl rfl rfl ?_ | refine W.ld rfl rfl rfl rfl rfl ?_))
  exact W.ret1 (.inr rfl) rfl rfl _ ⟨a', cap', rfl, rfl⟩ Imp.all
end Go.Proofs.YtbdhhedfplkidaaGreat
