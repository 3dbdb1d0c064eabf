/- Slices made and grown by the library. -/
import Derived.Test.YtbdhhedfplkidaaGreatE8
import Derived.Lib.AppendZeros
namespace Go.Proofs.YtbdhhedfplkidaaGreat
open Go
theorem zeroCells_one (z : Value) (h : z.cells = #[z]) (n : Nat) : Builtin.zeroCells z.cells n = (List.replicate n z).toArray := by
  rw [h]
  apply Array.ext
  · simp [Builtin.zeroCells]
  · intro j h1 h2; simp [Builtin.zeroCells, Nat.mod_one]
/-- Where H holds, these cells lie in block b from o on. -/
def Reads (H : HProp) (b o : Nat) (xs : List Value) : Prop := ∀ c w, SL c H w → ∀ j u, xs[j]? = some u → w.cell? ⟨b, o + j, none⟩ = some u
section
variable {c : World} {Q : Exit → Act → World → Prop} {n : Nat} {l : List (Nat × Value)} {H R : HProp} {ks : List Kn}
variable {q q1 q2 : Md} {all : Array Oper} {o : Oper} {rest : List Oper} {d : Nat} {v : Value}
/-- append([]T(nil), make([]T, m)...), its cells of one -/
theorem W.app0 [NX q1 q2] {t tn e : TypeId} {x y : Operand} {z : Value} {i : TypeInfo} {by' m : Nat} {kd : IntKind} (hg : o.guard = none) (hd : o.dst = some d) (hn : Nat.blt d n = true)
    (ho : o.op = .call { callee := .builtin .append, args := #[x, y], argTypes := #[t, tn] }) [ht : TD t (.slice e)] [htn : TD tn (.int kd)] [tb : TB e i z 1 by']
    (hcl : z.cells = #[z]) (hx : ev l x = some (.slice none 0 0)) (hy : ev l y = some (.int .i64 m)) (h0 : 0 < m) (h1 : m * by' ≤ 281474976710656) (h2 : m ≤ 9223372036854775807)
    (k : ∀ b cap, m ≤ cap → cap ≤ maxLen → WS c Q n (.ops q2 all rest ks) ((d, .slice (some ⟨b, 0, none⟩) m cap) :: l) (row b e (List.replicate cap z) • H)) : WS c Q n (.ops q1 all (o :: rest) ks) l H := by
  refine W.valw (σ := { p : Nat × Nat // m ≤ p.2 ∧ p.2 ≤ maxLen }) (val := fun p => .slice (some ⟨p.1.1, 0, none⟩) m p.1.2) (K := fun p => row p.1.1 e (List.replicate p.1.2 z) • H) hg hd hn (fun a w hf hs' => ?_) (fun p => k p.1.1 p.1.2 p.2.1 p.2.2)
  have hr := Lib.run_append_nil_zeros (P := Pg) w t tn o.type e i z .i64 kd ht.eq htn.eq tb.eq tb.zero m h0 (by rw [tb.size]; omega) (by omega) (by rw [tb.bytes]; exact h1)
  have hc1 := grownCap_ge w m 0 e
  have hc2 := grownCap_le_maxLen w m 0 e (by simpa [maxLen] using h2)
  refine ⟨⟨(w.heap.size, grownCap w m 0 e), hc1, hc2⟩, w.drew.alloc (.cells (Builtin.zeroCells z.cells m ++ Builtin.zeroCells z.cells (grownCap w m 0 e - m)) e), ?_, ?_⟩
  · simp only [execOp, ho, resolve, invoke, builtin, Sem.run_bind, Sem.run_pure, Result.andThen_ok, List.map_toArray, List.map_cons, List.map_nil, hf.eval hx, hf.eval hy, hr]
  · rw [zeroCells_one z hcl, zeroCells_one z hcl]
    have e1 : (List.replicate m z).toArray ++ (List.replicate (grownCap w m 0 e - m) z).toArray = (List.replicate (grownCap w m 0 e) z).toArray := by
      rw [List.append_toArray, List.replicate_append_replicate, Nat.add_sub_cancel' hc1]
    rw [e1]
    exact hs'.drew.ralloc e (List.replicate (grownCap w m 0 e) z).toArray
theorem W.cap [hNL : NL q1 q2] {t e : TypeId} {x : Operand} {p : Option Addr} {m cp : Nat} (hg : o.guard = none) (hd : o.dst = some d) (hn : Nat.blt d n = true) (ho : o.op = .call { callee := .builtin .cap, args := #[x], argTypes := #[t] }) [ht : TD t (.slice e)]
    (hx : ev l x = some (.slice p m cp)) (k : WS c Q n (.ops q2 all rest ks) ((d, .int .i64 cp) :: l) H) : WS c Q n (.ops q1 all (o :: rest) ks) l H := by
  refine W.val hg hd hn (fun a w hf _ => ?_) k
  simp [execOp, ho, resolve, hf.eval hx, invoke, builtin, Builtin.cap_, run_underlying ht.eq, goInt]
/-- nil[:0] -/
theorem W.slt0 [hNL : NL q1 q2] {t e : TypeId} {x y : Operand} {z : Value} {s : Nat} {ag : Bool} {kd : IntKind} (hg : o.guard = none) (hd : o.dst = some d) (hn : Nat.blt d n = true) (ho : o.op = .slice t x none (some y) none) [ht : TD t (.slice e)] [ti : TI e z s ag]
    (hx : ev l x = some (.slice none 0 0)) (hy : ev l y = some (.int kd ((0 : Nat) : Int)))
    (k : WS c Q n (.ops q2 all rest ks) ((d, .slice none 0 0) :: l) H) : WS c Q n (.ops q1 all (o :: rest) ks) l H := by
  refine W.val hg hd hn (fun a w hf _ => ?_) k
  simp [execOp, ho, hf.eval hx, hf.eval hy, Instr.sliceAt, Instr.slice, run_underlying ht.eq, Instr.sliceBounds, Instr.sliceBound, asIntOf, ti.size]
/-- append of nothing -/
theorem W.appe [hNL : NL q1 q2] {t e : TypeId} {x y : Operand} {z : Value} {s : Nat} {ag : Bool} {p p' : Option Addr} {m cp cp' : Nat} (hg : o.guard = none) (hd : o.dst = some d) (hn : Nat.blt d n = true) (ho : o.op = .call { callee := .builtin .append, args := #[x, y], argTypes := #[t, t] }) [ht : TD t (.slice e)] [ti : TI e z s ag]
    (hx : ev l x = some (.slice p m cp)) (hy : ev l y = some (.slice p' 0 cp')) (h : m ≤ cp)
    (k : WS c Q n (.ops q2 all rest ks) ((d, .slice p m cp) :: l) H) : WS c Q n (.ops q1 all (o :: rest) ks) l H := by
  refine W.val hg hd hn (fun a w hf _ => ?_) k
  cases p <;> cases p' <;> simp [execOp, ho, resolve, hf.eval hx, hf.eval hy, invoke, builtin, Builtin.append_, run_underlying ht.eq, ti.size, Builtin.lenOf, Builtin.firstCells, h, storeCells, loadCells, loadCellsFrom]
/-- append of what can be read somewhere to a slice of one's own -/
theorem W.appr [NX q1 q2] {t e : TypeId} {x y : Operand} {z : Value} {i : TypeInfo} {kk by' : Nat} {a : Option Nat} {cap g off m cp n' : Nat} {xs news : List Value}
    (hr : Reads H g off news) (hg : o.guard = none) (hd : o.dst = some d) (hn : Nat.blt d n = true) (ho : o.op = .call { callee := .builtin .append, args := #[x, y], argTypes := #[t, t] }) [ht : TD t (.slice e)] [tb : TB e i z kk by']
    (hcl : z.cells.size = kk) (hk : Nat.blt 0 kk = true) (hx : ev l x = some (sv a n' cap)) (hy : ev l y = some (.slice (some ⟨g, off, none⟩) m cp))
    [hp : Sk H a e kk n' cap xs R] (hl : news.length = m * kk) (h1 : ∀ u ∈ news, u.oneCell' = true) (h2 : (n' + m) * by' ≤ 140737488355328) (h3 : n' + m ≤ 9223372036854775807)
    (k : ∀ a' cap', WS c Q n (.ops q2 all rest ks) ((d, sv a' (n' + m) cap') :: l) (slck kk e (sv a' (n' + m) cap') (n' + m) (xs ++ news) • R)) : WS c Q n (.ops q1 all (o :: rest) ks) l H := by
  refine W.valw (σ := Option Nat × Nat) (val := fun p => sv p.1 (n' + m) p.2) (K := fun p => slck kk e (sv p.1 (n' + m) p.2) (n' + m) (xs ++ news) • R) hg hd hn (fun ac w hf hs' => ?_) (fun p => k p.1 p.2)
  have hk : 0 < kk := Nat.le_of_ble_eq_true hk
  have h3 : n' + m ≤ maxLen := by simpa [maxLen] using h3
  have hnews : ∀ (j : Nat) (u : Value), news[j]? = some u → w.cell? ((⟨g, off, none⟩ : Addr).add j) = some u := fun j u hu => by
    rw [add_none]; exact hr c w hs' j u hu
  rw [hp.eq] at hs'
  obtain ⟨v', w', r1, r2, r3, r4⟩ := run_append_own (P := Pg) w 0 t o.type e i z kk by' ht.eq tb.eq tb.zero tb.size tb.bytes hcl hk (sv a n' cap) n' xs hs'.owns ⟨g, off, none⟩ m cp news hl hnews h1 h3 h2 (Nat.zero_le _)
  have h5 := append_block t o.type e i z kk by' ht.eq tb.eq tb.zero tb.size tb.bytes hcl hk (sv a n' cap) v' n' xs hs'.owns ⟨g, off, none⟩ m cp news hl hnews h1 h3 h2 r1
  obtain ⟨a', cap', rfl⟩ := owns_sv r2
  refine ⟨(a', cap'), w', ?_, hs'.grown r2 r3 h5⟩
  simp [execOp, ho, resolve, hf.eval hx, hf.eval hy, invoke, builtin, r1]
/-- append of nothing to a slice of one's own -/
theorem W.appk0 [hNL : NL q1 q2] {t e : TypeId} {x y : Operand} {z : Value} {s kk : Nat} {ag : Bool} {a : Option Nat} {p' : Option Addr} {m cp cp' : Nat} {xs : List Value} (hg : o.guard = none) (hd : o.dst = some d) (hn : Nat.blt d n = true) (ho : o.op = .call { callee := .builtin .append, args := #[x, y], argTypes := #[t, t] }) [ht : TD t (.slice e)] [ti : TI e z s ag]
    (hx : ev l x = some (sv a m cp)) (hy : ev l y = some (.slice p' 0 cp')) [hp : Sk H a e kk m cp xs R]
    (k : WS c Q n (.ops q2 all rest ks) ((d, sv a m cp) :: l) H) : WS c Q n (.ops q1 all (o :: rest) ks) l H := by
  intro ac w hf hs
  have h : m ≤ cp := by have hs2 := hs; rw [hp.eq] at hs2; exact hs2.skv.2.1
  exact W.appe hg hd hn ho hx hy h k ac w hf hs
end
end Go.Proofs.YtbdhhedfplkidaaGreat
