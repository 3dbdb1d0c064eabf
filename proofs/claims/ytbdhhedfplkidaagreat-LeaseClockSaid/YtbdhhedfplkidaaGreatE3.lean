/- The walk's rules: texts, slices, make, append, copy. -/
import Derived.Test.YtbdhhedfplkidaaGreatE2
import Derived.Test.YtbdhhedfplkidaaGreatMod
namespace Go.Proofs.YtbdhhedfplkidaaGreat
open Go
open M (Str)

def str (s : Str) : Value := .string ⟨s.toArray⟩
abbrev int (n : Int) : Value := .int .i64 n
abbrev u64 (n : Nat) : Value := .int .u64 n
abbrev u8 (b : UInt8) : Value := .int .u8 b.toNat
instance (s : Str) : One (str s) := ⟨rfl, rfl⟩
/-- A row whose cells may be written to, whatever is frozen behind them. -/
def rowb (b : Nat) (E : TypeId) (cs : List Value) : HProp := ex fun fz : Nat × Nat => pr (cs.length ≤ fz.1) • pt b (.cells cs.toArray E fz)
class Rwb (H : HProp) (b : Nat) (E : outParam TypeId) (cs : outParam (List Value)) (R : outParam HProp) : Prop where
  eq : H = (rowb b E cs • R)
instance (priority := 1000) rwbHead (b : Nat) (E : TypeId) (cs : List Value) (R : HProp) : Rwb (rowb b E cs • R) b E cs R := ⟨rfl⟩
instance (priority := 500) rwbTail (b : Nat) (E : TypeId) (cs : List Value) (B H R : HProp) [h : Rwb H b E cs R] : Rwb (B • H) b E cs (B • R) := ⟨by rw [h.eq, sep_left_comm']⟩
/-- The slice value v has the elements whose cells are xs (k cells each), and its array is all its own. -/
def slck (k : Nat) (E : TypeId) (v : Value) (n : Nat) (xs : List Value) : HProp := fun h =>
  xs.length = n * k ∧ ((v = .slice none 0 0 ∧ n = 0 ∧ ∀ b, h b = none) ∨ ∃ g cap sp, v = .slice (some ⟨g, 0, none⟩) n cap ∧ n ≤ cap ∧ cap ≤ maxLen ∧ (xs ++ sp).length = cap * k ∧ row g E (xs ++ sp) h)
/-- .. elements of one cell. -/
abbrev slc (E : TypeId) (v : Value) (xs : List Value) : HProp := slck 1 E v xs.length xs

section
variable {c w : World} {H R : HProp} {b : Nat} {E : TypeId} {cs : List Value}
theorem SL.bcell (h : SL c (rowb b E cs • R) w) (i : Nat) : w.cell? ⟨b, i, none⟩ = cs[i]? := by
  obtain ⟨fz, h⟩ := SL.exE h
  rw [sep_assoc'] at h
  have := SL.cell (cs := cs.toArray) h.prE.2 i
  simpa using this
theorem SL.bset (h : SL c (rowb b E cs • R) w) (i : Nat) (v : Value) : SL c (rowb b E (cs.set i v) • R) (w.setCell ⟨b, i, none⟩ v) := by
  obtain ⟨fz, h⟩ := SL.exE h
  rw [sep_assoc'] at h
  obtain ⟨hl, h⟩ := h.prE
  have := SL.setCell (cs := cs.toArray) h i v
  unfold rowb
  rw [ex_sep]
  refine ⟨this.os, this.tape, this.output, ?_⟩
  obtain ⟨hp, p, s⟩ := this.heap
  refine ⟨hp, ⟨fz, ?_⟩, s⟩
  show ((pr ((cs.set i v).length ≤ fz.1) • pt b (Obj.cells (cs.set i v).toArray E fz)) • R) hp
  rw [pr_true (by simpa using hl), emp_sep]
  simpa using p
theorem SL.bfrozen (h : SL c (rowb b E cs • R) w) (i : Nat) (hi : i < cs.length) : w.frozen? ⟨b, i, none⟩ = false := by
  obtain ⟨fz, h⟩ := SL.exE h
  rw [sep_assoc'] at h
  obtain ⟨hl, h⟩ := h.prE
  have := SL.frozen (cs := cs.toArray) (fz := fz) h i
  rw [this]
  simp; omega
theorem SL.slckE {k : Nat} {v : Value} {n : Nat} {xs : List Value} (h : SL c (slck k E v n xs • R) w) :
    xs.length = n * k ∧ ((v = .slice none 0 0 ∧ n = 0 ∧ SL c R w) ∨ ∃ g cap sp, v = .slice (some ⟨g, 0, none⟩) n cap ∧ n ≤ cap ∧ cap ≤ maxLen ∧ (xs ++ sp).length = cap * k ∧ SL c (row g E (xs ++ sp) • R) w) := by
  obtain ⟨hp, ⟨h1, h2, d, e, ⟨hl, p⟩, q⟩, s⟩ := h.heap
  refine ⟨hl, ?_⟩
  rcases p with ⟨hv, hx, hn⟩ | ⟨g, cap, sp, hv, h3, h4, h5, p⟩
  · exact .inl ⟨hv, hx, h.os, h.tape, h.output, h2, q, fun b o ho => s b o (by rw [e b, hn b, ho]; rfl)⟩
  · exact .inr ⟨g, cap, sp, hv, h3, h4, h5, h.os, h.tape, h.output, hp, ⟨h1, h2, d, e, p, q⟩, s⟩
theorem slck_nil (k : Nat) (E : TypeId) : slck k E (.slice none 0 0) 0 [] = emp := by
  funext h
  refine propext ⟨?_, fun x => ⟨by simp, .inl ⟨rfl, rfl, x⟩⟩⟩
  rintro ⟨_, x⟩
  rcases x with x | ⟨g, cap, sp, hv, _⟩
  · exact x.2.2
  · cases hv
theorem slck_mk {k : Nat} {E : TypeId} {g n cap : Nat} {xs sp : List Value} (hl : xs.length = n * k) (hn : n ≤ cap) (hm : cap ≤ maxLen) (hc : (xs ++ sp).length = cap * k) : Imp (row g E (xs ++ sp)) (slck k E (.slice (some ⟨g, 0, none⟩) n cap) n xs) :=
  fun hp h => ⟨hp, ⟨hl, .inr ⟨g, cap, sp, rfl, hn, hm, hc, h⟩⟩, fun _ _ h => h⟩
theorem SL.owns {k : Nat} {v : Value} {n : Nat} {xs : List Value} (h : SL c (slck k E v n xs • R) w) : w.ownsRow 0 E k v n xs := by
  obtain ⟨hl, h⟩ := h.slckE
  refine ⟨hl, ?_⟩
  rcases h with ⟨rfl, rfl, _⟩ | ⟨g, cap, sp, rfl, h1, h2, h3, h4⟩
  · exact .inl ⟨rfl, rfl⟩
  · exact .inr ⟨g, cap, _, rfl, Nat.zero_le _, h4.get, h1, h2, by simpa using h3, by rw [← hl]; simp⟩
/-- Behind a law that ends in ownsRow and grownBy. -/
theorem SL.grown {k : Nat} {v v' : Value} {n n' : Nat} {xs ys : List Value} {w' : World} (h : SL c (slck k E v n xs • R) w) (ho : w'.ownsRow 0 E k v' n' ys) (hg : w.grownBy w' v.ownBlock)
    (hb : ∀ b, v'.ownBlock = some b → v.ownBlock = some b ∨ w.heap.size ≤ b) : SL c (slck k E v' n' ys • R) w' := by
  obtain ⟨hl, h⟩ := h.slckE
  obtain ⟨hl', ho⟩ := ho
  -- the frame's own part of the world stays
  have key : ∃ hp : Hp, R hp ∧ (∀ b o, hp b = some o → w'.heap[b]? = some o) ∧ (∀ b, v.ownBlock = some b → hp b = none) ∧ (∀ b, w.heap.size ≤ b → hp b = none) := by
    rcases h with ⟨rfl, rfl, h0⟩ | ⟨g, cap, sp, rfl, h1, h2, h3, h4⟩
    · obtain ⟨hp, q, s⟩ := h0.heap
      refine ⟨hp, q, fun b o hbo => ?_, fun b hb => by simp [Value.ownBlock] at hb, fun b hb => ?_⟩
      · rw [hg.block b (Array.getElem?_eq_some_iff.1 (s b o hbo)).1 (by simp [Value.ownBlock])]; exact s b o hbo
      · cases hx : hp b with
        | none => rfl
        | some o => have := (Array.getElem?_eq_some_iff.1 (s b o hx)).1; omega
    · obtain ⟨hp, ⟨h1', h2', d, e, p, q⟩, s⟩ := h4.heap
      have hgn : h2' g = none := by
        rcases d g with x | x
        · have := p g; rw [x] at this; simp at this
        · exact x
      have hs2 : ∀ b o, h2' b = some o → w.heap[b]? = some o := fun b o hbo => s b o (by rw [e b]; rcases d b with x | x; rw [x, hbo]; rfl; rw [x] at hbo; cases hbo)
      refine ⟨h2', q, fun b o hbo => ?_, fun b hb => ?_, fun b hb => ?_⟩
      · rw [hg.block b (Array.getElem?_eq_some_iff.1 (hs2 b o hbo)).1 ?_]
        · exact hs2 b o hbo
        · intro e'
          simp [Value.ownBlock] at e'
          rw [e', hgn] at hbo; cases hbo
      · simp [Value.ownBlock] at hb; subst hb; exact hgn
      · cases hx : h2' b with
        | none => rfl
        | some o => have := (Array.getElem?_eq_some_iff.1 (hs2 b o hx)).1; omega
  have hos : w.os = c.os ∧ w.tape = c.tape ∧ w.output = c.output := by
    rcases h with ⟨_, _, h⟩ | ⟨_, _, _, _, _, _, _, h⟩
    · exact ⟨h.os, h.tape, h.output⟩
    · exact ⟨h.os, h.tape, h.output⟩
  obtain ⟨hp, q, s, hv, hn⟩ := key
  refine ⟨hg.os.trans hos.1, hg.tape.trans hos.2.1, hg.output.trans hos.2.2, ?_⟩
  rcases ho with ⟨rfl, rfl⟩ | ⟨g, cap, cur, rfl, _, hgg, h1, h2, h3, h4⟩
  · refine ⟨hp, ⟨fun _ => none, hp, fun b => .inl rfl, fun b => by simp, ⟨hl', .inl ⟨rfl, rfl, fun _ => rfl⟩⟩, q⟩, s⟩
  · have hgn : hp g = none := by
      rcases hb g rfl with x | x
      · exact hv g x
      · exact hn g x
    have hcur : cur.toList = ys ++ cur.toList.drop (n' * k) := by rw [← h4]; simp
    refine ⟨fun b => if b = g then some (.cells cur E (0, 0)) else hp b, ⟨fun b => if b = g then some (.cells cur E (0, 0)) else none, hp, fun b => ?_, fun b => ?_, ⟨hl', .inr ⟨g, cap, cur.toList.drop (n' * k), rfl, h1, h2, ?_, fun b => ?_⟩⟩, q⟩, fun b o hbo => ?_⟩
    · by_cases hbg : b = g
      · right; rw [hbg]; exact hgn
      · left; simp [hbg]
    · by_cases hbg : b = g <;> simp [hbg]
    · rw [← hcur]; simpa using h3
    · rw [← hcur]
    · by_cases hbg : b = g
      · subst hbg; simp at hbo; subst hbo; exact hgg
      · simp [hbg] at hbo; exact s b o hbo
end
/-- What append hands back lies where the slice lay, or in a new block. -/
theorem append_block {w w' : World} (t ty e : TypeId) (i : TypeInfo) (z : Value) (size bytes : Nat) (ht : Pg.underlying t = some (.slice e)) (hi : Pg.info? e = some i) (hz : i.zero = some z)
    (hsize : i.size = size) (hby : i.bytes = bytes) (hzs : z.cells.size = size) (hsz : 0 < size) (v v' : Value) (n : Nat) (xs : List Value) (hown : w.ownsRow 0 e size v n xs)
    (a : Addr) (m cp : Nat) (news : List Value) (hl : news.length = m * size) (hnews : ∀ j u, news[j]? = some u → w.cell? (a.add j) = some u) (h1 : ∀ u ∈ news, u.oneCell' = true)
    (h63 : n + m ≤ maxLen) (hbytes : (n + m) * bytes ≤ 140737488355328) (hr1 : (Builtin.append_ #[t, t] ty #[v, .slice (some a) m cp]).run Pg w = .ok v' w') (b : Nat) (hb : v'.ownBlock = some b) : v.ownBlock = some b ∨ w.heap.size ≤ b := by
  rcases hown.2 with ⟨rfl, rfl⟩ | ⟨g, cap, cur, rfl, hbg, hg, hnc, hcm, hcs, htake⟩
  · have hown' : w.ownsRow w.heap.size e size (.slice none 0 0) 0 xs := ⟨hown.1, .inl ⟨rfl, rfl⟩⟩
    obtain ⟨v2, w2, r1, r2, _, _⟩ := run_append_own (P := Pg) w w.heap.size t ty e i z size bytes ht hi hz hsize hby hzs hsz (.slice none 0 0) 0 xs hown' a m cp news hl hnews h1 h63 hbytes (Nat.le_refl _)
    rw [hr1] at r1
    injection r1 with e1 e2
    subst e1
    exact .inr (r2.lt b hb).1
  · subst hsize
    subst hby
    by_cases hroom : n + m ≤ cap
    · have hfit : n * i.size + news.length ≤ cur.size := by rw [hl, hcs, ← Nat.add_mul]; exact Nat.mul_le_mul_right _ hroom
      have hr := run_append_room (P := Pg) w t ty e i ht hi g n cap cur hg a m cp news hl hnews h1 hroom hfit
      rw [hr1] at hr
      injection hr with e1 e2
      subst e1
      exact .inl hb
    · have holds : ∀ j u, xs[j]? = some u → w.cell? ((⟨g, 0, none⟩ : Addr).add j) = some u := hown.cells (g := g) rfl
      have hsmall : n + m ≤ 9223372036854775807 := by simp only [maxLen] at h63; omega
      have hr := run_append_grow (P := Pg) w t ty e i z ht hi hz ⟨g, 0, none⟩ n cap xs hown.1 holds a m cp news hl hnews (by omega) (by omega) (growslice_fits (by omega) hbytes)
      rw [hr1] at hr
      injection hr with e1 e2
      subst e1
      simp [Value.ownBlock] at hb
      exact .inr (by omega)
theorem toArray_toList_cells (cs : Array Value) : cs.toList.toArray = cs := by simp

section
variable {c : World} {Q : Exit → Act → World → Prop} {n : Nat} {l : List (Nat × Value)} {H R : HProp} {ks : List Kn}
variable {q q1 q2 : Md} {all : Array Oper} {o : Oper} {rest : List Oper} {d : Nat} {v : Value}
/-- len of a text -/
theorem W.slen [hNL : NL q1 q2] {t : TypeId} {x : Operand} {s : Str} (hg : o.guard = none) (hd : o.dst = some d) (hn : Nat.blt d n = true) (ho : o.op = .call { callee := .builtin .len, args := #[x], argTypes := #[t] }) [ht : TD t .string]
    (hx : ev l x = some (str s)) (k : WS c Q n (.ops q2 all rest ks) ((d, .int .i64 s.length) :: l) H) : WS c Q n (.ops q1 all (o :: rest) ks) l H := by
  refine W.val hg hd hn (fun a w hf _ => ?_) k
  have hsz : (⟨s.toArray⟩ : ByteArray).size = s.length := by simp [ByteArray.size]
  simp [execOp, ho, resolve, hf.eval hx, invoke, builtin, Builtin.len_, run_underlying ht.eq, str, goInt, hsz]
/-- len of a slice -/
theorem W.len [hNL : NL q1 q2] {t e : TypeId} {x : Operand} {p : Option Addr} {m cp : Nat} (hg : o.guard = none) (hd : o.dst = some d) (hn : Nat.blt d n = true) (ho : o.op = .call { callee := .builtin .len, args := #[x], argTypes := #[t] }) [ht : TD t (.slice e)]
    (hx : ev l x = some (.slice p m cp)) (k : WS c Q n (.ops q2 all rest ks) ((d, .int .i64 m) :: l) H) : WS c Q n (.ops q1 all (o :: rest) ks) l H := by
  refine W.val hg hd hn (fun a w hf _ => ?_) k
  simp [execOp, ho, resolve, hf.eval hx, invoke, builtin, Builtin.len_, run_underlying ht.eq, goInt]
/-- a byte of a text -/
theorem W.sidx [hNL : NL q1 q2] {t : TypeId} {x y : Operand} {s : Str} {kd : IntKind} {i : Int} {u : UInt8} (hg : o.guard = none) (hd : o.dst = some d) (hn : Nat.blt d n = true) (ho : o.op = .index t x y) [ht : TD t .string]
    (hx : ev l x = some (str s)) (hy : ev l y = some (.int kd i)) (h0 : 0 ≤ i) (hu : s[i.toNat]? = some u) (k : WS c Q n (.ops q2 all rest ks) ((d, .int .u8 u.toNat) :: l) H) : WS c Q n (.ops q1 all (o :: rest) ks) l H := by
  refine W.val hg hd hn (fun a w hf _ => ?_) k
  obtain ⟨hi, he⟩ := List.getElem?_eq_some_iff.1 hu
  have hr := run_index_string (P := Pg) (w := w) t ⟨s.toArray⟩ kd i ht.eq
  have hsz : (⟨s.toArray⟩ : ByteArray).size = s.length := by simp [ByteArray.size]
  rw [dif_pos ⟨h0, by rw [hsz]; omega⟩] at hr
  have hb : (⟨s.toArray⟩ : ByteArray)[i.toNat]'(by rw [hsz]; omega) = u := by
    show s.toArray[i.toNat]'_ = u
    simpa using he
  rw [hb] at hr
  simp [execOp, ho, hf.eval hx, hf.eval hy, str, hr]
/-- two texts, one behind the other -/
theorem W.scat [hNL : NL q1 q2] {t t' : TypeId} {x y : Operand} {s u : Str} (hg : o.guard = none) (hd : o.dst = some d) (hn : Nat.blt d n = true) (ho : o.op = .binOp .add t x y t')
    (hx : ev l x = some (str s)) (hy : ev l y = some (str u)) (hl : s.length + u.length ≤ 9223372036854775807) (k : WS c Q n (.ops q2 all rest ks) ((d, str (s ++ u)) :: l) H) : WS c Q n (.ops q1 all (o :: rest) ks) l H := by
  refine W.val hg hd hn (fun a w hf _ => ?_) k
  have hsz : ∀ s : Str, (⟨s.toArray⟩ : ByteArray).size = s.length := fun s => by simp [ByteArray.size]
  have e : (⟨s.toArray⟩ ++ ⟨u.toArray⟩ : ByteArray) = ⟨(s ++ u).toArray⟩ := by
    apply ByteArray.ext
    simp
  have : ¬ ((((⟨s.toArray⟩ : ByteArray).size + (⟨u.toArray⟩ : ByteArray).size : Nat) : Int) > IntKind.i64.max) := by
    rw [hsz, hsz]; simp [IntKind.max, IntKind.bits]; omega
  simp only [execOp, ho, hf.eval hx, hf.eval hy, str, eqGuard, binOp, Op.stringOp]
  simp only [e, if_neg this]
  simp
theorem W.seq [hNL : NL q1 q2] {t t' : TypeId} {x y : Operand} {s u : Str} (hg : o.guard = none) (hd : o.dst = some d) (hn : Nat.blt d n = true) (ho : o.op = .binOp .eql t x y t')
    (hx : ev l x = some (str s)) (hy : ev l y = some (str u)) (k : WS c Q n (.ops q2 all rest ks) ((d, .bool (decide (s = u))) :: l) H) : WS c Q n (.ops q1 all (o :: rest) ks) l H := by
  refine W.val hg hd hn (fun a w hf _ => ?_) k
  simp only [execOp, ho, hf.eval hx, hf.eval hy, str, eqGuard, binOp, Op.stringOp]
  simp
  by_cases h : s = u <;> simp [h]
theorem W.sne [hNL : NL q1 q2] {t t' : TypeId} {x y : Operand} {s u : Str} (hg : o.guard = none) (hd : o.dst = some d) (hn : Nat.blt d n = true) (ho : o.op = .binOp .neq t x y t')
    (hx : ev l x = some (str s)) (hy : ev l y = some (str u)) (k : WS c Q n (.ops q2 all rest ks) ((d, .bool (decide (s ≠ u))) :: l) H) : WS c Q n (.ops q1 all (o :: rest) ks) l H := by
  refine W.val hg hd hn (fun a w hf _ => ?_) k
  simp only [execOp, ho, hf.eval hx, hf.eval hy, str, eqGuard, binOp, Op.stringOp]
  simp
  by_cases h : s = u <;> simp [h]
/-- s[i:j], s[i:], s[:j] -/
theorem W.ssub [hNL : NL q1 q2] {t : TypeId} {x y z : Operand} {s : Str} {k1 k2 : IntKind} {i j : Int} (hg : o.guard = none) (hd : o.dst = some d) (hn : Nat.blt d n = true) (ho : o.op = .slice t x (some y) (some z) none) [ht : TD t .string]
    (hx : ev l x = some (str s)) (hy : ev l y = some (.int k1 i)) (hz : ev l z = some (.int k2 j)) (h0 : 0 ≤ i) (h1 : i ≤ j) (h2 : j ≤ s.length)
    (k : WS c Q n (.ops q2 all rest ks) ((d, str ((s.drop i.toNat).take (j.toNat - i.toNat))) :: l) H) : WS c Q n (.ops q1 all (o :: rest) ks) l H := by
  refine W.val hg hd hn (fun a w hf _ => ?_) k
  have hr := run_slice_string (P := Pg) (w := w) t ⟨s.toArray⟩ k1 k2 i j ht.eq h0 h1 (by simpa [ByteArray.size] using h2)
  simp [execOp, ho, hf.eval hx, hf.eval hy, hf.eval hz, str, Instr.sliceAt, run_underlying ht.eq, hr, ByteArray.extract_mk]
theorem W.sfrom [hNL : NL q1 q2] {t : TypeId} {x y : Operand} {s : Str} {k1 : IntKind} {i : Int} (hg : o.guard = none) (hd : o.dst = some d) (hn : Nat.blt d n = true) (ho : o.op = .slice t x (some y) none none) [ht : TD t .string]
    (hx : ev l x = some (str s)) (hy : ev l y = some (.int k1 i)) (h0 : 0 ≤ i) (h1 : i ≤ s.length)
    (k : WS c Q n (.ops q2 all rest ks) ((d, str (s.drop i.toNat)) :: l) H) : WS c Q n (.ops q1 all (o :: rest) ks) l H := by
  refine W.val hg hd hn (fun a w hf _ => ?_) k
  have hr := run_slice_string_from_if (P := Pg) (w := w) t ⟨s.toArray⟩ k1 i ht.eq
  have hsz : (⟨s.toArray⟩ : ByteArray).size = s.length := by simp [ByteArray.size]
  rw [if_pos ⟨h0, by rw [hsz]; exact h1⟩] at hr
  simp only [execOp, ho, hf.eval hx, hf.eval hy, str, Instr.sliceAt, run_underlying ht.eq, Option.map_some, Option.map_none, Sem.run_bind, Result.andThen_ok, hr]
  rw [hsz, ByteArray.extract_mk, List.take_of_length_le (by simp)]
  simp
theorem W.sto [hNL : NL q1 q2] {t : TypeId} {x z : Operand} {s : Str} {k2 : IntKind} {j : Int} (hg : o.guard = none) (hd : o.dst = some d) (hn : Nat.blt d n = true) (ho : o.op = .slice t x none (some z) none) [ht : TD t .string]
    (hx : ev l x = some (str s)) (hz : ev l z = some (.int k2 j)) (h0 : 0 ≤ j) (h2 : j ≤ s.length)
    (k : WS c Q n (.ops q2 all rest ks) ((d, str (s.take j.toNat)) :: l) H) : WS c Q n (.ops q1 all (o :: rest) ks) l H := by
  refine W.val hg hd hn (fun a w hf _ => ?_) k
  have hr := run_slice_string_to_if (P := Pg) (w := w) t ⟨s.toArray⟩ k2 j ht.eq
  rw [if_pos ⟨h0, by simpa [ByteArray.size] using h2⟩] at hr
  simp only [execOp, ho, hf.eval hx, hf.eval hz, str, Instr.sliceAt, run_underlying ht.eq, Option.map_some, Option.map_none, Sem.run_bind, Result.andThen_ok, hr]
  rw [ByteArray.extract_mk]
  simp
/-- []byte(s) -/
theorem W.s2b [NX q1 q2] {s t : TypeId} {e : TypeId} {x : Operand} {u : Str} (hg : o.guard = none) (hd : o.dst = some d) (hn : Nat.blt d n = true) (ho : o.op = .convert s t x) [hs : TD s .string] [ht : TD t (.slice e)] [he : TD e (.int .u8)]
    (hx : ev l x = some (str u)) (k : ∀ b m sp, WS c Q n (.ops q2 all rest ks) ((d, .slice (some ⟨b, 0, none⟩) u.length m) :: l) (rowb b e (u.map u8 ++ sp) • H)) : WS c Q n (.ops q1 all (o :: rest) ks) l H := by
  refine W.valw (σ := Nat × Nat × List Value) (val := fun p => .slice (some ⟨p.1, 0, none⟩) u.length p.2.1) (K := fun p => rowb p.1 e (u.map u8 ++ p.2.2) • H) hg hd hn (fun a w hf hs' => ?_) (fun p => k p.1 p.2.1 p.2.2)
  have hr := run_bytes_of_string (P := Pg) w s t e ⟨u.toArray⟩ hs.eq ht.eq he.eq
  have hsz : (⟨u.toArray⟩ : ByteArray).size = u.length := by simp [ByteArray.size]
  refine ⟨(w.heap.size, grownCap w u.length 0 e, List.replicate (grownCap w u.length 0 e - u.length) (Value.int .u8 0)), w.drew.alloc (.cells (bytesRow ⟨u.toArray⟩ (grownCap w u.length 0 e)) e ((bytesRow ⟨u.toArray⟩ (grownCap w u.length 0 e)).size, (bytesRow ⟨u.toArray⟩ (grownCap w u.length 0 e)).size + 1)), ?_, ?_⟩
  · rw [hsz] at hr
    simp only [execOp, ho, hf.eval hx, str, Sem.run_bind, hr, Result.andThen_ok]
    rfl
  · have h2 := (SL.drew hs').alloc (.cells (bytesRow ⟨u.toArray⟩ (grownCap w u.length 0 e)) e ((bytesRow ⟨u.toArray⟩ (grownCap w u.length 0 e)).size, (bytesRow ⟨u.toArray⟩ (grownCap w u.length 0 e)).size + 1))
    have hb : bytesRow ⟨u.toArray⟩ (grownCap w u.length 0 e) = (u.map u8 ++ List.replicate (grownCap w u.length 0 e - u.length) (Value.int .u8 0)).toArray := by
      simp only [bytesRow, hsz]
      simp
    rw [hb] at h2
    rw [hb]
    generalize List.map u8 u ++ List.replicate (grownCap w (List.length u) 0 e - List.length u) (Value.int .u8 0) = cs at h2
    refine h2.imp (Imp.sep (Imp.exi (cs.toArray.size, cs.toArray.size + 1) ?_) (Imp.refl _))
    rw [pr_true, emp_sep]
    · exact Imp.refl _
    · simp
/-- string(b) of a row's first cells -/
theorem W.b2s [hNL : NL q1 q2] {s t : TypeId} {e E : TypeId} {x : Operand} {b m : Nat} {u : Str} {sp : List Value} (hg : o.guard = none) (hd : o.dst = some d) (hn : Nat.blt d n = true) (ho : o.op = .convert s t x) [hs : TD s (.slice e)] [ht : TD t .string] [he : TD e (.int .u8)]
    (hx : ev l x = some (.slice (some ⟨b, 0, none⟩) u.length m)) [hr : Rw H b E (u.map u8 ++ sp) R] (k : WS c Q n (.ops q2 all rest ks) ((d, str u) :: l) H) : WS c Q n (.ops q1 all (o :: rest) ks) l H := by
  refine W.val hg hd hn (fun a w hf hs' => ?_) k
  rw [hr.eq] at hs'
  have h2 := run_convert_bytes_back (P := Pg) w s t e ⟨b, 0, none⟩ m u hs.eq he.eq ht.eq (fun j hj => by
    rw [add_none, hs'.rcell, Nat.zero_add, List.getElem?_append_left (by simpa using hj)]
    simp [hj, u8])
  simp [execOp, ho, hf.eval hx, h2, str]
theorem W.b2sb [hNL : NL q1 q2] {s t : TypeId} {e E : TypeId} {x : Operand} {b m : Nat} {u : Str} {sp : List Value} (hg : o.guard = none) (hd : o.dst = some d) (hn : Nat.blt d n = true) (ho : o.op = .convert s t x) [hs : TD s (.slice e)] [ht : TD t .string] [he : TD e (.int .u8)]
    (hx : ev l x = some (.slice (some ⟨b, 0, none⟩) u.length m)) [hr : Rwb H b E (u.map u8 ++ sp) R] (k : WS c Q n (.ops q2 all rest ks) ((d, str u) :: l) H) : WS c Q n (.ops q1 all (o :: rest) ks) l H := by
  refine W.val hg hd hn (fun a w hf hs' => ?_) k
  rw [hr.eq] at hs'
  have h2 := run_convert_bytes_back (P := Pg) w s t e ⟨b, 0, none⟩ m u hs.eq he.eq ht.eq (fun j hj => by
    rw [add_none, hs'.bcell, Nat.zero_add, List.getElem?_append_left (by simpa using hj)]
    simp [hj, u8])
  simp [execOp, ho, hf.eval hx, h2, str]
theorem W.ldb [hNL : NL q1 q2] {t : TypeId} {x : Operand} {z : Value} {b i : Nat} {E : TypeId} {cs : List Value} (hg : o.guard = none) (hd : o.dst = some d) (hn : Nat.blt d n = true) (ho : o.op = .load t x) [ti : TI t z 1 false]
    (hx : ev l x = some (.pointer (some ⟨b, i, none⟩))) [hr : Rwb H b E cs R] (hv : cs[i]? = some v) (k : WS c Q n (.ops q2 all rest ks) ((d, v) :: l) H) : WS c Q n (.ops q1 all (o :: rest) ks) l H := by
  refine W.val hg hd hn (fun a w hf hs => ?_) k
  rw [hr.eq] at hs
  simp [execOp, ho, hf.eval hx, Instr.loadAt, Instr.sureAddr, loadVar, ti.agg, hs.bcell, hv]
theorem W.stb [NX q1 q2] {t : TypeId} {x y : Operand} {z : Value} {a' : Bool} {b i : Nat} {E : TypeId} {cs : List Value} (hg : o.guard = none) (hd : o.dst = none) (ho : o.op = .store t x y) [ti : TI t z 1 a']
    (hx : ev l x = some (.pointer (some ⟨b, i, none⟩))) (hy : ev l y = some v) [h1 : One v] [hr : Rwb H b E cs R] (hv : i < cs.length) (k : WS c Q n (.ops q2 all rest ks) l (rowb b E (cs.set i v) • R)) : WS c Q n (.ops q1 all (o :: rest) ks) l H := by
  refine W.unit hg hd (fun a w hf hs => ?_) k
  rw [hr.eq] at hs
  have h2 := run_store Pg w ⟨b, i, none⟩ v .plain h1.one
  rw [hs.bcell, List.getElem?_eq_getElem hv] at h2
  simp only [hs.bfrozen i hv, Bool.false_eq_true, if_false] at h2
  refine ⟨_, ?_, hs.bset i v⟩
  simp [execOp, ho, hf.eval hx, hf.eval hy, Instr.storeAt, Instr.sureAddr, storeVar, h1.cells, ti.size, storeCells, add_none, h2]
/-- &xs[i] -/
theorem W.idx [hNL : NL q1 q2] {t e : TypeId} {x y : Operand} {z : Value} {s : Nat} {ag : Bool} {b off m cp : Nat} {kd : IntKind} {i : Int} (hg : o.guard = none) (hd : o.dst = some d) (hn : Nat.blt d n = true) (ho : o.op = .indexAddr t x y) [ht : TD t (.slice e)] [ti : TI e z s ag]
    (hx : ev l x = some (.slice (some ⟨b, off, none⟩) m cp)) (hy : ev l y = some (.int kd i)) (h0 : 0 ≤ i) (h1 : i < m)
    (k : WS c Q n (.ops q2 all rest ks) ((d, .pointer (some ⟨b, off + i.toNat * s, none⟩)) :: l) H) : WS c Q n (.ops q1 all (o :: rest) ks) l H := by
  refine W.val hg hd hn (fun a w hf _ => ?_) k
  simp [execOp, ho, hf.eval hx, hf.eval hy, Instr.indexAt, run_underlying ht.eq, asIntOf, h0, h1, ti.size, add_none]
/-- make([]T, m) -/
theorem W.mks [NX q1 q2] {t e : TypeId} {x : Operand} {z : Value} {i : TypeInfo} {m by' : Nat} (hg : o.guard = none) (hd : o.dst = some d) (hn : Nat.blt d n = true) (ho : o.op = .makeSlice t x x) [ht : TD t (.slice e)] [tb : TB e i z 1 by']
    (hcl : z.cells = #[z]) (hx : ev l x = some (.int .i64 m)) (h1 : m * by' ≤ 281474976710656) (h2 : m ≤ 9223372036854775807)
    (k : ∀ b, WS c Q n (.ops q2 all rest ks) ((d, .slice (some ⟨b, 0, none⟩) m m) :: l) (row b e (List.replicate m z) • H)) : WS c Q n (.ops q1 all (o :: rest) ks) l H := by
  refine W.valw (val := fun b => .slice (some ⟨b, 0, none⟩) m m) (K := fun b => row b e (List.replicate m z) • H) hg hd hn (fun a w hf hs' => ?_) k
  have h3 : ((m * by' : Nat) : Int) ≤ ((281474976710656 : Nat) : Int) := Int.ofNat_le.2 h1
  rw [Int.natCast_mul] at h3
  have hr := run_make (P := Pg) w t e i z ht.eq tb.eq tb.zero .i64 .i64 m m (by omega) (Int.le_refl _) (by rw [tb.bytes, Int.mul_comm]; exact h3) (by omega)
  have hm : madeCells z.cells ((m : Int).toNat * i.size) = (List.replicate m z).toArray := by
    rw [hcl, tb.size, Nat.mul_one, Int.toNat_natCast]
    simp [madeCells]
    apply Array.ext
    · simp
    · intro j h1 h2; simp [Nat.mod_one]
  rw [hm, Int.toNat_natCast] at hr
  refine ⟨w.heap.size, _, ?_, hs'.ralloc e (List.replicate m z).toArray⟩
  simp [execOp, ho, hf.eval hx, hr]
/-- append of a row's elements to a slice of one's own -/
theorem W.app [NX q1 q2] {t e : TypeId} {x y : Operand} {z : Value} {i : TypeInfo} {kk by' : Nat} {v : Value} {g m cp n' : Nat} {E : TypeId} {xs news : List Value} {H2 : HProp}
    (hg : o.guard = none) (hd : o.dst = some d) (hn : Nat.blt d n = true) (ho : o.op = .call { callee := .builtin .append, args := #[x, y], argTypes := #[t, t] }) [ht : TD t (.slice e)] [tb : TB e i z kk by']
    (hcl : z.cells.size = kk) (hk : Nat.blt 0 kk = true) (hx : ev l x = some v) (hy : ev l y = some (.slice (some ⟨g, 0, none⟩) m cp))
    [hp : Pick H (slck kk e v n' xs) R] [hr : Rw R g E news H2] (hl : news.length = m * kk) [h1 : Ones news] (h2 : (n' + m) * by' ≤ 140737488355328) (h3 : n' + m ≤ 9223372036854775807)
    (k : ∀ v', One v' → WS c Q n (.ops q2 all rest ks) ((d, v') :: l) (slck kk e v' (n' + m) (xs ++ news) • R)) : WS c Q n (.ops q1 all (o :: rest) ks) l H := by
  refine W.valw (σ := { v' : Value // One v' }) (val := fun v' => v'.1) (K := fun v' => slck kk e v'.1 (n' + m) (xs ++ news) • R) hg hd hn (fun a w hf hs' => ?_) (fun v' => k v'.1 v'.2)
  have hk : 0 < kk := Nat.le_of_ble_eq_true hk
  have h3 : n' + m ≤ maxLen := by simpa [maxLen] using h3
  rw [hp.eq] at hs'
  have hs2 := hs'
  rw [sep_comm', hr.eq, sep_assoc'] at hs2
  have hnews : ∀ (j : Nat) (u : Value), news[j]? = some u → w.cell? ((⟨g, 0, none⟩ : Addr).add j) = some u := fun j u hu => by
    rw [add_none, hs2.rcell, Nat.zero_add]; exact hu
  obtain ⟨v', w', r1, r2, r3, r4⟩ := run_append_own (P := Pg) w 0 t o.type e i z kk by' ht.eq tb.eq tb.zero tb.size tb.bytes hcl hk v n' xs hs'.owns ⟨g, 0, none⟩ m cp news hl hnews h1.one h3 h2 (Nat.zero_le _)
  have h1' : One v' := by
    rcases r2.2 with h | ⟨g', cap', cs', h, _⟩
    · rw [h.1]; infer_instance
    · rw [h]; infer_instance
  refine ⟨⟨v', h1'⟩, w', ?_, hs'.grown r2 r3 ?_⟩
  · simp [execOp, ho, resolve, hf.eval hx, hf.eval hy, invoke, builtin, r1]
  · exact append_block t o.type e i z kk by' ht.eq tb.eq tb.zero tb.size tb.bytes hcl hk v v' n' xs hs'.owns ⟨g, 0, none⟩ m cp news hl hnews h1.one h3 h2 r1
end
end Go.Proofs.YtbdhhedfplkidaaGreat
