/- More of the walk's rules: slices built and cut, copy, min and max, quiet calls. -/
import Derived.Test.YtbdhhedfplkidaaGreatE3
import Derived.Great.BuildSlice
namespace Go.Proofs.YtbdhhedfplkidaaGreat
open Go
open M (Str)
/-- What the parts of a literal are: number k on. -/
def EvP (l : List (Nat × Value)) : Nat → List (Nat × Operand) → List Value → Prop
  | _, [], [] => True
  | k, (i, x) :: r, v :: vs => i = k ∧ ev l x = some v ∧ EvP l (k + 1) r vs
  | _, _, _ => False
theorem EvP.eval {a : Act} {n : Nat} {l : List (Nat × Value)} (hf : Fr a n l) : ∀ {k : Nat} {ps : List (Nat × Operand)} {vs : List Value}, EvP l k ps vs → ps.map (fun p => (p.1, a.eval p.2)) = (vs.zipIdx k).map fun x => (x.2, x.1)
  | _, [], [], _ => rfl
  | k, (i, x) :: r, v :: vs, h => by
    obtain ⟨rfl, h1, h2⟩ := h
    simp only [List.map_cons, List.zipIdx_cons, hf.eval h1, EvP.eval hf h2]
  | _, [], _ :: _, h => h.elim
  | _, _ :: _, [], h => h.elim
theorem one_cells (v : Value) (h : v.oneCell' = true) : v.cells = #[v] := by
  cases v <;> first | rfl | (simp [Value.oneCell'] at h)
section
variable {c : World} {Q : Exit → Act → World → Prop} {n : Nat} {l : List (Nat × Value)} {H R : HProp} {ks : List Kn}
variable {q q1 q2 : Md} {all : Array Oper} {o : Oper} {rest : List Oper} {d : Nat} {v : Value}
/-- []T{x, y, ..}, each of one cell -/
theorem W.bsl [NX q1 q2] {t e : TypeId} {i : TypeInfo} {z : Value} {by' m : Nat} {ps : Array (Nat × Operand)} {vs : List Value} (hg : o.guard = none) (hd : o.dst = some d) (hn : Nat.blt d n = true) (ho : o.op = .buildSlice t m ps) [ht : TD t (.slice e)] [tb : TB e i z 1 by']
    (hp : EvP l 0 ps.toList vs) (hm : vs.length = m) (hm2 : Nat.ble m 1000 = true) (hm3 : Nat.ble 1 m = true) [h1 : Ones vs]
    (k : ∀ b, WS c Q n (.ops q2 all rest ks) ((d, .slice (some ⟨b, 0, none⟩) m m) :: l) (row b e vs • H)) : WS c Q n (.ops q1 all (o :: rest) ks) l H := by
  have hm2 := Nat.le_of_ble_eq_true hm2
  have hm3 := Nat.le_of_ble_eq_true hm3
  refine W.valw (val := fun b => .slice (some ⟨b, 0, none⟩) m m) (K := fun b => row b e vs • H) hg hd hn (fun a w hf hs' => ?_) k
  refine ⟨w.heap.size, w.alloc (.cells vs.toArray e), ?_, hs'.ralloc e vs.toArray⟩
  have hps : (ps.map fun p => (p.1, a.eval p.2)).toList = (vs.zipIdx 0).map fun x => (x.2, x.1) := by
    rw [Array.toList_map]; exact hp.eval hf
  have hr := run_buildSlice (P := Pg) w t e m (ps.map fun p => (p.1, a.eval p.2)) vs.toArray i z ht.eq tb.eq tb.zero (by rw [tb.size]; omega) (by rw [tb.size]; omega) (by
    rw [hps, tb.size]
    exact Great.fill_flat _ _ (fun v hv => one_cells v (h1.one v hv)) (by simp [hm]))
  simp only [execOp, ho, Sem.run_bind, hr, Result.andThen_ok]
  rfl
/-- copy of a text into a row -/
theorem W.cpys [NX q1 q2] {t t' e : TypeId} {x y : Operand} {z : Value} {ag : Bool} {b off m cp : Nat} {E : TypeId} {cs : List Value} {u : Str} (hg : o.guard = none) (hd : o.dst = some d) (hn : Nat.blt d n = true) (ho : o.op = .call { callee := .builtin .copy, args := #[x, y], argTypes := #[t, t'] })
    [ht : TD t (.slice e)] [ti : TI e z 1 ag] (hx : ev l x = some (.slice (some ⟨b, off, none⟩) m cp)) (hy : ev l y = some (str u)) [hr : Rw H b E cs R] (hu : u.length ≤ m) (hc : off + u.length ≤ cs.length)
    (k : WS c Q n (.ops q2 all rest ks) ((d, .int .i64 u.length) :: l) (row b E (setAll cs off (u.map u8)) • R)) : WS c Q n (.ops q1 all (o :: rest) ks) l H := by
  refine W.valw (σ := Unit) (val := fun _ => .int .i64 u.length) (K := fun _ => row b E (setAll cs off (u.map u8)) • R) hg hd hn (fun a w hf hs' => ?_) (fun _ => k)
  rw [hr.eq] at hs'
  obtain ⟨w', h2, h3⟩ := SL.storeCells (u.map u8) cs off 0 w hs' (by simpa using hc) (fun v hv => by obtain ⟨x, _, rfl⟩ := List.mem_map.1 hv; rfl)
  refine ⟨(), w', ?_, h3⟩
  have hsz : (⟨u.toArray⟩ : ByteArray).size = u.length := by simp [ByteArray.size]
  have hmin : Nat.min u.length m = u.length := Nat.min_eq_left hu
  have hex : ((⟨u.toArray⟩ : ByteArray).extract 0 u.length).data.map (fun b => Value.int .u8 b.toNat) = (u.map u8).toArray := by
    rw [ByteArray.extract_mk]; simp
  have hrun : (Builtin.copy_ #[t, t'] o.type #[.slice (some ⟨b, off, none⟩) m cp, str u]).run Pg w = .ok (.int .i64 u.length) w' := by
    simp only [Builtin.copy_, List.getElem?_toArray, List.getElem?_cons_zero, List.getElem?_cons_succ, run_underlying ht.eq, Sem.run_bind, Result.andThen_ok, str, Builtin.lenOf, Sem.run_pure, hsz, hmin, ti.size, Builtin.firstCells, hex, h2, goInt]
  simp [execOp, ho, resolve, hf.eval hx, hf.eval hy, invoke, builtin, hrun]
/-- xs[i:] -/
theorem W.slf [hNL : NL q1 q2] {t e : TypeId} {x y : Operand} {z : Value} {s : Nat} {ag : Bool} {b off m cp : Nat} {kd : IntKind} {i : Int} (hg : o.guard = none) (hd : o.dst = some d) (hn : Nat.blt d n = true) (ho : o.op = .slice t x (some y) none none) [ht : TD t (.slice e)] [ti : TI e z s ag]
    (hx : ev l x = some (.slice (some ⟨b, off, none⟩) m cp)) (hy : ev l y = some (.int kd i)) (h0 : 0 ≤ i) (h1 : i ≤ m) (h2 : i < cp)
    (k : WS c Q n (.ops q2 all rest ks) ((d, .slice (some ⟨b, off + i.toNat * s, none⟩) (m - i.toNat) (cp - i.toNat)) :: l) H) : WS c Q n (.ops q1 all (o :: rest) ks) l H := by
  refine W.val hg hd hn (fun a w hf _ => ?_) k
  have hne : cp ≠ i.toNat := by omega
  simp [execOp, ho, hf.eval hx, hf.eval hy, Instr.sliceAt, Instr.slice, run_underlying ht.eq, Instr.sliceBounds, Instr.sliceBound, asIntOf, h0, h1, ti.size, hne, add_none]
/-- xs[:j] -/
theorem W.slt [hNL : NL q1 q2] {t e : TypeId} {x y : Operand} {z : Value} {s : Nat} {ag : Bool} {b off m cp : Nat} {kd : IntKind} {i : Int} (hg : o.guard = none) (hd : o.dst = some d) (hn : Nat.blt d n = true) (ho : o.op = .slice t x none (some y) none) [ht : TD t (.slice e)] [ti : TI e z s ag]
    (hx : ev l x = some (.slice (some ⟨b, off, none⟩) m cp)) (hy : ev l y = some (.int kd i)) (h0 : 0 ≤ i) (h1 : i ≤ cp)
    (k : WS c Q n (.ops q2 all rest ks) ((d, .slice (some ⟨b, off, none⟩) i.toNat cp) :: l) H) : WS c Q n (.ops q1 all (o :: rest) ks) l H := by
  refine W.val hg hd hn (fun a w hf _ => ?_) k
  by_cases hc : cp = 0
  · subst hc
    obtain rfl : i = 0 := by omega
    simp [execOp, ho, hf.eval hx, hf.eval hy, Instr.sliceAt, Instr.slice, run_underlying ht.eq, Instr.sliceBounds, Instr.sliceBound, asIntOf, ti.size]
  · simp [execOp, ho, hf.eval hx, hf.eval hy, Instr.sliceAt, Instr.slice, run_underlying ht.eq, Instr.sliceBounds, Instr.sliceBound, asIntOf, h0, h1, ti.size, hc, add_none]
/-- min(x, y) of numbers -/
theorem W.mn [hNL : NL q1 q2] {ts : Array TypeId} {x y : Operand} {kd k2 : IntKind} {i j : Int} (hg : o.guard = none) (hd : o.dst = some d) (hn : Nat.blt d n = true) (ho : o.op = .call { callee := .builtin .min, args := #[x, y], argTypes := ts })
    (hx : ev l x = some (.int kd i)) (hy : ev l y = some (.int k2 j)) (k : WS c Q n (.ops q2 all rest ks) ((d, .int kd (if j < i then j else i)) :: l) H) : WS c Q n (.ops q1 all (o :: rest) ks) l H := by
  refine W.val hg hd hn (fun a w hf _ => ?_) k
  simp [execOp, ho, resolve, hf.eval hx, hf.eval hy, invoke, builtin, Builtin.min_, Builtin.min2]
theorem W.mx [hNL : NL q1 q2] {ts : Array TypeId} {x y : Operand} {kd k2 : IntKind} {i j : Int} (hg : o.guard = none) (hd : o.dst = some d) (hn : Nat.blt d n = true) (ho : o.op = .call { callee := .builtin .max, args := #[x, y], argTypes := ts })
    (hx : ev l x = some (.int kd i)) (hy : ev l y = some (.int k2 j)) (k : WS c Q n (.ops q2 all rest ks) ((d, .int kd (if i < j then j else i)) :: l) H) : WS c Q n (.ops q1 all (o :: rest) ks) l H := by
  refine W.val hg hd hn (fun a w hf _ => ?_) k
  simp [execOp, ho, resolve, hf.eval hx, hf.eval hy, invoke, builtin, Builtin.max_, Builtin.max2]
/-- A call, in a region of whatever order, whose contract gives one value and the same assertion. -/
theorem W.qcall {f : FuncId} {args : List Operand} {vs : List Value} {ts : Array TypeId} {A : HProp} (h : CS f vs A fun v' H' => v' = v ∧ H' = A)
    (hg : o.guard = none) (hd : o.dst = some d) (hn : Nat.blt d n = true) (ho : o.op = .call { callee := .value (.func f), args := args.toArray, argTypes := ts })
    (hc : ∀ (args : Array Value) (w : World), (callFunc f args).run Pg w = .ok (.enter f args) w) (hx : EvL l args vs) [ht : Take H A R]
    (k : WS c Q n (.ops .quiet all rest ks) ((d, v) :: l) H) : WS c Q n (.ops .quiet all (o :: rest) ks) l H := by
  refine W.quietCall (f := f) (vs := vs) hg hd hn (fun a w hf hs => ⟨?_, ?_⟩) k
  · simp only [execOp, ho, resolve, Sem.run_bind, Act.eval, Deferred.ofValue, Sem.run_pure, Result.andThen_ok, invoke]
    rw [List.map_toArray, hf.evalL hx]
    simp [hc]
  · rw [ht.eq] at hs ⊢
    refine (h c R w hs).mono ?_
    rintro e w' ⟨v, H', ⟨rfl, rfl⟩, rfl, hs'⟩
    exact ⟨rfl, hs'⟩
/-- A call of a function that neither reads nor writes memory of the caller's. -/
theorem W.fcall [hNL : NQ q] {f : FuncId} {args : List Operand} {vs : List Value} {ts : Array TypeId} (h : CS f vs emp fun v' H' => v' = v ∧ H' = emp)
    (hg : o.guard = none) (hd : o.dst = some d) (hn : Nat.blt d n = true) (ho : o.op = .call { callee := .value (.func f), args := args.toArray, argTypes := ts })
    (hc : ∀ (args : Array Value) (w : World), (callFunc f args).run Pg w = .ok (.enter f args) w) (hx : EvL l args vs)
    (k : WS c Q n (.ops q all rest ks) ((d, v) :: l) H) : WS c Q n (.ops q all (o :: rest) ks) l H := by
  rcases hNL.p with rfl | rfl
  · refine W.call h hg hd hn ho hc hx ?_
    rintro _ _ ⟨rfl, rfl⟩
    rw [emp_sep]; exact k
  · exact W.qcall h hg hd hn ho hc hx k
end
theorem setAll_eq : ∀ (vs cs : List Value) (o : Nat), o + vs.length ≤ cs.length → setAll cs o vs = cs.take o ++ vs ++ cs.drop (o + vs.length)
  | [], cs, o, _ => by simp [setAll]
  | v :: vs, cs, o, h => by
    simp only [List.length_cons] at h
    rw [setAll, setAll_eq vs (cs.set o v) (o + 1) (by simp; omega)]
    rw [List.take_succ_eq_append_getElem (by simp; omega), List.drop_set_of_lt (by omega)]
    simp [List.take_set_of_le]
    omega
end Go.Proofs.YtbdhhedfplkidaaGreat
