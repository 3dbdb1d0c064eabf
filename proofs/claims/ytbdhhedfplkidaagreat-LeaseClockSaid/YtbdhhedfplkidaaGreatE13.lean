/- The blocks that were there at the call: they are read, and stay. -/
import Derived.Test.YtbdhhedfplkidaaGreatE12
import Derived.Below
namespace Go.Proofs.YtbdhhedfplkidaaGreat
open Go
/-- All blocks of a world. -/
def oldH (W : World) : HProp := fun h => ∀ b, h b = W.heap[b]?
theorem SL.old (W : World) : SL W (oldH W • emp) W := by
  rw [sep_emp']
  exact ⟨rfl, rfl, rfl, fun b => W.heap[b]?, fun _ => rfl, fun b o h => h⟩
theorem SL.old_below {W w' : World} {R : HProp} (h : SL W (oldH W • R) w') : RowKit.Below W.heap.size W w' := by
  have h2 := h.imp (Imp.left _ _)
  obtain ⟨hp, p, s⟩ := h2.heap
  have key : ∀ k, k < W.heap.size → w'.heap[k]? = W.heap[k]? := fun k hk => by
    have e : W.heap[k]? = some W.heap[k] := Array.getElem?_eq_getElem hk
    rw [e]
    exact s k _ (by rw [p k, e])
  refine ⟨h.os, h.tape, h.output, ?_, key⟩
  rcases Nat.lt_or_ge w'.heap.size W.heap.size with hlt | hge
  · have := key w'.heap.size hlt
    rw [Array.getElem?_eq_none (Nat.le_refl _), Array.getElem?_eq_getElem hlt] at this
    cases this
  · exact hge
theorem SL.old_cell {c W w : World} {H R : HProp} [hp : Pick H (oldH W) R] (h : SL c H w) {p : Addr} {v : Value} (hv : W.cell? p = some v) : w.cell? p = some v := by
  rw [hp.eq] at h
  have h2 := h.imp (Imp.left _ _)
  obtain ⟨hh, q, s⟩ := h2.heap
  unfold World.cell? at hv ⊢
  cases hb : W.heap[p.block]? with
  | none => rw [hb] at hv; simp at hv
  | some o => rw [s p.block o (by rw [q p.block, hb])]; rw [hb] at hv; exact hv
section
variable {c : World} {Q : Exit → Act → World → Prop} {n : Nat} {l : List (Nat × Value)} {H R : HProp} {ks : List Kn}
variable {q q1 q2 : Md} {all : Array Oper} {o : Oper} {rest : List Oper} {d : Nat} {v : Value}
/-- &xs[i] -/
theorem W.idxg [hNL : NL q1 q2] {t e : TypeId} {x y : Operand} {z : Value} {s : Nat} {ag : Bool} {p : Addr} {m cp : Nat} {kd : IntKind} {i : Int} (hg : o.guard = none) (hd : o.dst = some d) (hn : Nat.blt d n = true) (ho : o.op = .indexAddr t x y) [ht : TD t (.slice e)] [ti : TI e z s ag]
    (hx : ev l x = some (.slice (some p) m cp)) (hy : ev l y = some (.int kd i)) (h0 : 0 ≤ i) (h1 : i < m)
    (k : WS c Q n (.ops q2 all rest ks) ((d, .pointer (some (p.add (i.toNat * s)))) :: l) H) : WS c Q n (.ops q1 all (o :: rest) ks) l H := by
  refine W.val hg hd hn (fun a w hf _ => ?_) k
  simp [execOp, ho, hf.eval hx, hf.eval hy, Instr.indexAt, run_underlying ht.eq, asIntOf, h0, h1, ti.size]
/-- A load of a cell of a block that was there. -/
theorem W.ldo [hNL : NL q1 q2] {t : TypeId} {x : Operand} {z : Value} {p : Addr} (W0 : World) (hg : o.guard = none) (hd : o.dst = some d) (hn : Nat.blt d n = true) (ho : o.op = .load t x) [ti : TI t z 1 false]
    (hx : ev l x = some (.pointer (some p))) [hp : Pick H (oldH W0) R] (hv : W0.cell? p = some v) (k : WS c Q n (.ops q2 all rest ks) ((d, v) :: l) H) : WS c Q n (.ops q1 all (o :: rest) ks) l H := by
  refine W.val hg hd hn (fun a w hf hs => ?_) k
  have h := hs.old_cell hv
  simp [execOp, ho, hf.eval hx, Instr.loadAt, Instr.sureAddr, loadVar, ti.agg, h]
end
end Go.Proofs.YtbdhhedfplkidaaGreat
