/- Rules for what package strings does: bytes appended off a text, unsafe.String; owned slices opened. -/
import Derived.Test.YtbdhhedfplkidaaGreatE9
import Derived.Lib.UnsafeStr
namespace Go.Proofs.YtbdhhedfplkidaaGreat
open Go
open M (Str)
theorem sep_emp' (P : HProp) : (P • emp) = P := by rw [sep_comm', emp_sep]
theorem SL.drop {c w w' : World} {R : HProp} {b : Nat} {o : Obj} (h : SL c (pt b o • R) w) (ho : w'.os = w.os) (ht : w'.tape = w.tape) (hu : w'.output = w.output)
    (hk : ∀ k, k ≠ b → k < w.heap.size → w'.heap[k]? = w.heap[k]?) : SL c R w' := by
  obtain ⟨hp, ⟨h1, h2, d, e, p, q⟩, s⟩ := h.heap
  refine ⟨ho.trans h.os, ht.trans h.tape, hu.trans h.output, h2, q, fun k x hx => ?_⟩
  have hne : k ≠ b := by
    rintro rfl
    rcases d k with y | y
    · rw [p k] at y; simp at y
    · rw [y] at hx; cases hx
  have h0 := s k x (by rw [e k, hx]; rcases d k with y | y <;> simp_all)
  rw [hk k hne (Array.getElem?_eq_some_iff.1 h0).1]; exact h0
theorem SL.frz {c w : World} {R : HProp} {b : Nat} {o : Obj} (h : SL c (pt b o • R) w) (i n : Nat) : SL c R (w.freeze ⟨b, i, none⟩ n) := by
  unfold World.freeze
  split
  · exact h.drop rfl rfl rfl fun _ _ _ => rfl
  · exact h.drop rfl rfl rfl fun k hk _ => by simp [Array.getElem?_modify, Ne.symm hk]
theorem strCells_str (u : Str) : Lib.strCells ⟨u.toArray⟩ = u.map u8 := by
  simp [Lib.strCells, u8]
/-- What append of a text's bytes hands back lies where the slice lay, or in a new block. -/
theorem append_block_str {w w' : World} (t t' ty e : TypeId) (i : TypeInfo) (ht : Pg.underlying t = some (.slice e)) (hu : Pg.underlying t' = some .string) (hi : Pg.info? e = some i) (hz : i.zero = some (.int .u8 0))
    (hsize : i.size = 1) (hby : i.bytes = 1) (v v' : Value) (n : Nat) (xs : List Value) (hown : w.ownsRow 0 e 1 v n xs) (s : ByteArray)
    (h63 : n + s.size ≤ maxLen) (hbytes : n + s.size ≤ 140737488355328) (hr1 : (Builtin.append_ #[t, t'] ty #[v, .string s]).run Pg w = .ok v' w') (b : Nat) (hb : v'.ownBlock = some b) : v.ownBlock = some b ∨ w.heap.size ≤ b := by
  rcases hown.2 with ⟨rfl, rfl⟩ | ⟨g, cap, cur, rfl, hbg, hg, hnc, hcm, hcs, htake⟩
  · have hown' : w.ownsRow w.heap.size e 1 (.slice none 0 0) 0 xs := ⟨hown.1, .inl ⟨rfl, rfl⟩⟩
    obtain ⟨v2, w2, r1, r2, _, _⟩ := Lib.run_append_own_string (P := Pg) w w.heap.size t t' ty e i ht hu hi hz hsize hby (.slice none 0 0) 0 xs hown' s h63 hbytes (Nat.le_refl _)
    rw [hr1] at r1
    injection r1 with e1 e2
    subst e1
    exact .inr (r2.lt b hb).1
  · by_cases hroom : n + s.size ≤ cap
    · have hr := Lib.run_append_room_string (P := Pg) w t t' ty e i ht hu hi hsize g n cap cur hg s hroom (by rw [hcs]; omega)
      rw [hr1] at hr
      injection hr with e1 e2
      subst e1
      exact .inl hb
    · have holds : ∀ j u, xs[j]? = some u → w.cell? ((⟨g, 0, none⟩ : Addr).add j) = some u := hown.cells (g := g) rfl
      have hsmall : n + s.size ≤ 9223372036854775807 := by simp only [maxLen] at h63; omega
      have hr := Lib.run_append_grow_string (P := Pg) w t t' ty e i (.int .u8 0) ht hu hi hz ⟨g, 0, none⟩ n cap xs (by rw [hsize]; exact hown.1) holds s (by omega) (by omega) (by rw [hby]; exact growslice_fits (by omega) (by omega))
      rw [hr1] at hr
      injection hr with e1 e2
      subst e1
      simp [Value.ownBlock] at hb
      exact .inr (by omega)
section
variable {c : World} {Q : Exit → Act → World → Prop} {n : Nat} {l : List (Nat × Value)} {H R : HProp} {ks : List Kn}
variable {q q1 q2 : Md} {all : Array Oper} {o : Oper} {rest : List Oper} {d : Nat} {v : Value}
/-- append of a text's bytes to a slice of one's own -/
theorem W.apps [NX q1 q2] {t t' e : TypeId} {x y : Operand} {i : TypeInfo} {a : Option Nat} {cap n' : Nat} {xs : List Value} {u : Str}
    (hg : o.guard = none) (hd : o.dst = some d) (hn : Nat.blt d n = true) (ho : o.op = .call { callee := .builtin .append, args := #[x, y], argTypes := #[t, t'] }) [ht : TD t (.slice e)] [hu : TD t' .string] [tb : TB e i (.int .u8 0) 1 1]
    (hx : ev l x = some (sv a n' cap)) (hy : ev l y = some (str u)) [hp : Sk H a e 1 n' cap xs R] (h2 : n' + u.length ≤ 140737488355328)
    (k : ∀ a' cap', WS c Q n (.ops q2 all rest ks) ((d, sv a' (n' + u.length) cap') :: l) (slck 1 e (sv a' (n' + u.length) cap') (n' + u.length) (xs ++ u.map u8) • R)) : WS c Q n (.ops q1 all (o :: rest) ks) l H := by
  refine W.valw (σ := Option Nat × Nat) (val := fun p => sv p.1 (n' + u.length) p.2) (K := fun p => slck 1 e (sv p.1 (n' + u.length) p.2) (n' + u.length) (xs ++ u.map u8) • R) hg hd hn (fun ac w hf hs' => ?_) (fun p => k p.1 p.2)
  have hsz : (⟨u.toArray⟩ : ByteArray).size = u.length := by simp [ByteArray.size]
  have h3 : n' + (⟨u.toArray⟩ : ByteArray).size ≤ maxLen := by rw [hsz]; simp only [maxLen]; omega
  rw [hp.eq] at hs'
  obtain ⟨v', w', r1, r2, r3, r4⟩ := Lib.run_append_own_string (P := Pg) w 0 t t' o.type e i ht.eq hu.eq tb.eq tb.zero tb.size tb.bytes (sv a n' cap) n' xs hs'.owns ⟨u.toArray⟩ h3 (by rw [hsz]; exact h2) (Nat.zero_le _)
  have h5 := append_block_str t t' o.type e i ht.eq hu.eq tb.eq tb.zero tb.size tb.bytes (sv a n' cap) v' n' xs hs'.owns ⟨u.toArray⟩ h3 (by rw [hsz]; exact h2) r1
  rw [hsz, strCells_str] at r2
  obtain ⟨a', cap', rfl⟩ := owns_sv r2
  refine ⟨(a', cap'), w', ?_, hs'.grown r2 r3 h5⟩
  simp [execOp, ho, resolve, hf.eval hx, hf.eval hy, invoke, builtin, str, r1]
/-- p == nil -/
theorem W.peq [hNL : NL q1 q2] {t e t' : TypeId} {x y : Operand} {p : Option Addr} (hg : o.guard = none) (hd : o.dst = some d) (hn : Nat.blt d n = true) (ho : o.op = .binOp .eql t x y t') [ht : TD t (.pointer e)]
    (hx : ev l x = some (.pointer p)) (hy : ev l y = some (.pointer none)) (k : WS c Q n (.ops q2 all rest ks) ((d, .bool p.isNone) :: l) H) : WS c Q n (.ops q1 all (o :: rest) ks) l H := by
  refine W.val hg hd hn (fun a w hf _ => ?_) k
  have h1 : Pg.underlying t = some (.pointer (Pg.pointee t)) := by rw [ht.eq]; simp [Program.pointee, ht.eq]
  have h2 := run_eql_pointer_nil (P := Pg) w t p h1
  simp [execOp, ho, hf.eval hx, hf.eval hy, h2, eqGuard]
/-- unsafe.SliceData -/
theorem W.uss [hNL : NL q1 q2] {ts : Array TypeId} {x : Operand} {g m cap : Nat} (hg : o.guard = none) (hd : o.dst = some d) (hn : Nat.blt d n = true) (ho : o.op = .call { callee := .builtin .unsafeSliceData, args := #[x], argTypes := ts })
    (hx : ev l x = some (.slice (some ⟨g, 0, none⟩) m cap)) (hc : cap ≠ 0) (k : WS c Q n (.ops q2 all rest ks) ((d, .pointer (some ⟨g, 0, none⟩)) :: l) H) : WS c Q n (.ops q1 all (o :: rest) ks) l H := by
  refine W.val hg hd hn (fun a w hf _ => ?_) k
  have h2 := Lib.run_unsafeSliceData_row (P := Pg) w ts o.type ⟨g, 0, none⟩ m cap hc
  simp [execOp, ho, resolve, hf.eval hx, invoke, builtin, h2]
/-- unsafe.String of a row's first bytes; the row is given up -/
theorem W.ust [NX q1 q2] {pt it e : TypeId} {x y : Operand} {g : Nat} {u : Str} {sp : List Value} (hg : o.guard = none) (hd : o.dst = some d) (hn : Nat.blt d n = true) (ho : o.op = .call { callee := .builtin .unsafeString, args := #[x, y], argTypes := #[pt, it] })
    [ht : TD pt (.pointer e)] (hc : Pg.cellsOf e = 1) (hx : ev l x = some (.pointer (some ⟨g, 0, none⟩))) (hy : ev l y = some (.int .i64 u.length)) [hr : Rw H g e (u.map u8 ++ sp) R] (h0 : u ≠ []) (h1 : u.length ≤ 9223372036854775807)
    (k : WS c Q n (.ops q2 all rest ks) ((d, str u) :: l) R) : WS c Q n (.ops q1 all (o :: rest) ks) l H := by
  refine W.valw (σ := Unit) (val := fun _ => str u) (K := fun _ => R) hg hd hn (fun ac w hf hs => ?_) (fun _ => k)
  rw [hr.eq] at hs
  have hg := hs.get
  have hsh : w.shape? g = some (e, (u.map u8 ++ sp).length) := by simp [World.shape?, hg]
  have h2 := Lib.run_unsafeString_row (P := Pg) w pt it o.type e ht.eq hc g _ hsh u h0 (by simp) h1 (fun j x hj => by
    rw [add_none, hs.rcell, Nat.zero_add, List.getElem?_append_left (by simpa using (List.getElem?_eq_some_iff.1 hj).1)]
    simp [hj, u8])
  refine ⟨(), _, ?_, hs.frz 0 u.length⟩
  simp [execOp, ho, resolve, hf.eval hx, hf.eval hy, invoke, builtin, h2, str]
/-- An owned slice that is not empty is opened. -/
theorem W.skE {s : Ctl} (a : Option Nat) (E : TypeId) {kk m cap : Nat} {xs : List Value} [hk : Sk H a E kk m cap xs R] (hq : loud s = true) (h : 0 < m)
    (k : ∀ g sp, a = some g → m ≤ cap → cap ≤ maxLen → (xs ++ sp).length = cap * kk → xs.length = m * kk → WS c Q n s l (row g E (xs ++ sp) • R)) : WS c Q n s l H := by
  intro ac w hf hs
  rw [hk.eq] at hs
  obtain ⟨h0, h1, h2, h3⟩ := hs.skv
  rcases h3 with ⟨_, hz, _⟩ | ⟨g, sp, ha, h4, h5⟩
  · omega
  · exact (sem_loud hq).1 (k g sp ha h1 h2 h4 h0 ac w hf h5)
end
end Go.Proofs.YtbdhhedfplkidaaGreat
