/- Rules for elements of several cells. -/
import Derived.Test.YtbdhhedfplkidaaGreatE11
namespace Go.Proofs.YtbdhhedfplkidaaGreat
open Go
section
variable {c : World} {Q : Exit → Act → World → Prop} {n : Nat} {l : List (Nat × Value)} {H R : HProp} {ks : List Kn}
variable {q q1 q2 : Md} {all : Array Oper} {o : Oper} {rest : List Oper} {d : Nat} {v : Value}
/-- []T{x}, x of several cells -/
theorem W.bsa [NX q1 q2] {t e : TypeId} {i : TypeInfo} {z : Value} {kk by' : Nat} {x : Operand} {vs : List Value} (hg : o.guard = none) (hd : o.dst = some d) (hn : Nat.blt d n = true) (ho : o.op = .buildSlice t 1 #[(0, x)]) [ht : TD t (.slice e)] [tb : TB e i z kk by']
    (hx : ev l x = some v) [hc : Cl v vs] (hl : vs.length = kk) (hk : Nat.ble kk 1000 = true) (hk0 : Nat.ble 1 kk = true)
    (k : ∀ b, WS c Q n (.ops q2 all rest ks) ((d, .slice (some ⟨b, 0, none⟩) 1 1) :: l) (row b e vs • H)) : WS c Q n (.ops q1 all (o :: rest) ks) l H := by
  have hk := Nat.le_of_ble_eq_true hk
  have hk0 := Nat.le_of_ble_eq_true hk0
  refine W.valw (val := fun b => .slice (some ⟨b, 0, none⟩) 1 1) (K := fun b => row b e vs • H) hg hd hn (fun a w hf hs' => ?_) k
  refine ⟨w.heap.size, w.alloc (.cells vs.toArray e), ?_, hs'.ralloc e vs.toArray⟩
  have hr := run_buildSlice (P := Pg) w t e 1 #[(0, v)] vs.toArray i z ht.eq tb.eq tb.zero (by rw [tb.size]; omega) (by rw [tb.size]; omega) (by
    rw [tb.size]
    obtain ⟨zs, hzs⟩ : ∃ zs : List Value, (Array.range (1 * kk)).map (z.cells[· % z.cells.size]!) = zs.toArray := ⟨_, (Array.toArray_toList).symm⟩
    have hzl : zs.length = kk := by have := congrArg Array.size hzs; simpa using this.symm
    rw [hzs]
    simp only [Instr.fill, hc.eq]
    have h3 : (vs.zipIdx 0).foldl (fun cs (x : Value × Nat) => cs.setIfInBounds (0 + x.2) x.1) zs.toArray = vs.toArray := by
      rw [fold_setAll, setAll_eq _ _ _ (by omega)]
      simp [hl, ← hzl]
    rw [if_neg (by simp [hl, hzl])]
    simpa using h3)
  simp only [execOp, ho, Sem.run_bind, List.map_toArray, List.map_cons, List.map_nil, hf.eval hx, hr, Result.andThen_ok]
  rfl
/-- A load of a value of several cells. -/
theorem W.ldr [hNL : NL q1 q2] {t : TypeId} {x : Operand} {z : Value} {b i s : Nat} {E : TypeId} {cs : List Value} (vs : List Value) (hg : o.guard = none) (hd : o.dst = some d) (hn : Nat.blt d n = true) (ho : o.op = .load t x) [ti : TI t z s true]
    (hx : ev l x = some (.pointer (some ⟨b, i, none⟩))) [hr : Rw H b E cs R] (hl : vs.length = s) (hv : ∀ j, j < s → cs[i + j]? = vs[j]?) (k : WS c Q n (.ops q2 all rest ks) ((d, .agg vs.toArray) :: l) H) : WS c Q n (.ops q1 all (o :: rest) ks) l H := by
  refine W.val hg hd hn (fun a w hf hs => ?_) k
  rw [hr.eq] at hs
  have hld := run_loadCells_list (P := Pg) w ⟨b, i, none⟩ vs (fun j u hu => by
    rw [add_none, hs.rcell, hv j (by have := List.getElem?_eq_some_iff.1 hu; have := this.1; omega)]; exact hu)
  rw [hl] at hld
  simp [execOp, ho, hf.eval hx, Instr.loadAt, Instr.sureAddr, loadVar, ti.agg, ti.size, hld]
/-- A load of an element of several cells of an owned slice. -/
theorem W.ldkr [hNL : NL q1 q2] {t : TypeId} {x : Operand} {z : Value} {i s m cap : Nat} {a : Option Nat} {xs : List Value} (vs : List Value) (hg : o.guard = none) (hd : o.dst = some d) (hn : Nat.blt d n = true) (ho : o.op = .load t x) [ti : TI t z s true]
    (hx : ev l x = some (.pointer (some ⟨a.getD 0, i, none⟩))) [hk : Sk H a t s m cap xs R] (hl : vs.length = s) (hv : ∀ j, j < s → xs[i + j]? = vs[j]?) (k : WS c Q n (.ops q2 all rest ks) ((d, .agg vs.toArray) :: l) H) : WS c Q n (.ops q1 all (o :: rest) ks) l H := by
  refine W.val hg hd hn (fun ac w hf hs => ?_) k
  rw [hk.eq] at hs
  have hld := run_loadCells_list (P := Pg) w ⟨a.getD 0, i, none⟩ vs (fun j u hu => by
    rw [add_none]
    exact hs.sk_cell (i + j) u (by rw [hv j (by have := List.getElem?_eq_some_iff.1 hu; have := this.1; omega)]; exact hu))
  rw [hl] at hld
  simp [execOp, ho, hf.eval hx, Instr.loadAt, Instr.sureAddr, loadVar, ti.agg, ti.size, hld]
/-- A store into an element's cell of an owned slice. -/
theorem W.stk [NX q1 q2] {t : TypeId} {x y : Operand} {z : Value} {a' : Bool} {i kk m cap : Nat} {a : Option Nat} {xs : List Value} (hg : o.guard = none) (hd : o.dst = none) (ho : o.op = .store t x y) [ti : TI t z 1 a']
    (hx : ev l x = some (.pointer (some ⟨a.getD 0, i, none⟩))) (hy : ev l y = some v) [h1 : One v] [hk : Sk H a t kk m cap xs R] (hi : i < xs.length) (k : WS c Q n (.ops q2 all rest ks) l (slck kk t (sv a m cap) m (xs.set i v) • R)) : WS c Q n (.ops q1 all (o :: rest) ks) l H := by
  refine W.unit hg hd (fun ac w hf hs => ?_) k
  rw [hk.eq] at hs
  obtain ⟨hl, q1, q2, q3⟩ := hs.skv
  rcases q3 with ⟨_, hz, _⟩ | ⟨g, sp, rfl, h4, h5⟩
  · rw [hz, Nat.zero_mul] at hl; omega
  · have h2 := run_store Pg w ⟨g, i, none⟩ v .plain h1.one
    rw [h5.rcell, List.getElem?_append_left hi, List.getElem?_eq_getElem hi] at h2
    simp only [h5.rfrozen i, Bool.false_eq_true, if_false] at h2
    refine ⟨w.setCell ⟨g, i, none⟩ v, ?_, ?_⟩
    · simp only [Option.getD_some] at hx
      simp [execOp, ho, hf.eval hx, hf.eval hy, Instr.storeAt, Instr.sureAddr, storeVar, h1.cells, ti.size, storeCells, add_none, h2]
    · have h6 := h5.rset i v
      rw [List.set_append_left _ _ hi] at h6
      exact h6.imp (Imp.sep (slck_mk (by simpa using hl) q1 q2 (by simpa using h4)) (Imp.refl _))
/-- copy of elements that can be read into a row -/
theorem W.cpy [NX q1 q2] {t t' e : TypeId} {x y : Operand} {z : Value} {ag : Bool} {b off m cp g o2 m2 cp2 : Nat} {E : TypeId} {cs news : List Value} (hr : Reads H g o2 news) (hg : o.guard = none) (hd : o.dst = some d) (hn : Nat.blt d n = true) (ho : o.op = .call { callee := .builtin .copy, args := #[x, y], argTypes := #[t, t'] })
    [ht : TD t (.slice e)] [ti : TI e z 1 ag] (hx : ev l x = some (.slice (some ⟨b, off, none⟩) m cp)) (hy : ev l y = some (.slice (some ⟨g, o2, none⟩) m2 cp2)) [hrw : Rw H b E cs R] (hl : news.length = min m2 m) (h1 : ∀ u ∈ news, u.oneCell' = true) (hc : off + news.length ≤ cs.length)
    (k : WS c Q n (.ops q2 all rest ks) ((d, .int .i64 news.length) :: l) (row b E (setAll cs off news) • R)) : WS c Q n (.ops q1 all (o :: rest) ks) l H := by
  refine W.valw (σ := Unit) (val := fun _ => .int .i64 news.length) (K := fun _ => row b E (setAll cs off news) • R) hg hd hn (fun a w hf hs' => ?_) (fun _ => k)
  have hnews : ∀ (j : Nat) (u : Value), news[j]? = some u → w.cell? ((⟨g, o2, none⟩ : Addr).add j) = some u := fun j u hu => by
    rw [add_none]; exact hr c w hs' j u hu
  rw [hrw.eq] at hs'
  obtain ⟨w', h2, h3⟩ := SL.storeCells news cs off 0 w hs' (by simpa using hc) h1
  refine ⟨(), w', ?_, h3⟩
  have hfc := run_firstCells_some (P := Pg) w 1 news.length ⟨g, o2, none⟩ m2 cp2 news (by omega) hnews
  have hmin : Nat.min m2 m = news.length := hl.symm
  have hrun : (Builtin.copy_ #[t, t'] o.type #[.slice (some ⟨b, off, none⟩) m cp, .slice (some ⟨g, o2, none⟩) m2 cp2]).run Pg w = .ok (.int .i64 news.length) w' := by
    simp only [Builtin.copy_, List.getElem?_toArray, List.getElem?_cons_zero, List.getElem?_cons_succ, run_underlying ht.eq, Sem.run_bind, Result.andThen_ok, Builtin.lenOf, Sem.run_pure, hmin, ti.size, hfc, h2, goInt]
  simp [execOp, ho, resolve, hf.eval hx, hf.eval hy, invoke, builtin, hrun]
end
end Go.Proofs.YtbdhhedfplkidaaGreat
