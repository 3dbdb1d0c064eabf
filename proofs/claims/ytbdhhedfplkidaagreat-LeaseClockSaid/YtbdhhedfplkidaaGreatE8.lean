/- Slices that are owned: their elements read where they lie; appended to. Calls of function values. -/
import Derived.Test.YtbdhhedfplkidaaGreatE7
namespace Go.Proofs.YtbdhhedfplkidaaGreat
open Go
/-- The slice of n elements that begins at the head of block a. -/
abbrev sv (a : Option Nat) (n cap : Nat) : Value := .slice (a.map fun g => ⟨g, 0, none⟩) n cap
class Sk (H : HProp) (a : Option Nat) (E : TypeId) (kk n cap : outParam Nat) (xs : outParam (List Value)) (R : outParam HProp) : Prop where
  eq : H = (slck kk E (sv a n cap) n xs • R)
instance (priority := 1000) skHead (a : Option Nat) (kk n cap : Nat) (E : TypeId) (xs : List Value) (R : HProp) : Sk (slck kk E (sv a n cap) n xs • R) a E kk n cap xs R := ⟨rfl⟩
instance (priority := 500) skTail (a : Option Nat) (kk n cap : Nat) (E : TypeId) (xs : List Value) (B H R : HProp) [h : Sk H a E kk n cap xs R] : Sk (B • H) a E kk n cap xs (B • R) := ⟨by rw [h.eq, sep_left_comm']⟩
instance (priority := 900) skLast (a : Option Nat) (kk n cap : Nat) (E : TypeId) (xs : List Value) : Sk (slck kk E (sv a n cap) n xs) a E kk n cap xs emp := ⟨by rw [sep_comm', emp_sep]⟩
theorem SL.skv {c w : World} {R : HProp} {kk n cap : Nat} {E : TypeId} {a : Option Nat} {xs : List Value} (h : SL c (slck kk E (sv a n cap) n xs • R) w) :
    xs.length = n * kk ∧ n ≤ cap ∧ cap ≤ maxLen ∧ ((a = none ∧ n = 0 ∧ cap = 0) ∨ ∃ g sp, a = some g ∧ (xs ++ sp).length = cap * kk ∧ SL c (row g E (xs ++ sp) • R) w) := by
  obtain ⟨hl, h⟩ := h.slckE
  refine ⟨hl, ?_⟩
  rcases h with ⟨hv, hn, _⟩ | ⟨g, cp, sp, hv, h1, h2, h3, h4⟩
  · cases a with
    | none => simp [sv] at hv; subst hn; obtain ⟨h1, h2⟩ := hv; exact ⟨by omega, by omega, .inl ⟨rfl, rfl, by omega⟩⟩
    | some g => simp [sv] at hv
  · cases a with
    | none => simp [sv] at hv
    | some g' =>
      simp only [sv, Option.map_some, Value.slice.injEq, Option.some.injEq, Addr.mk.injEq, and_true] at hv
      obtain ⟨hg, _, hc⟩ := hv
      subst hg hc
      exact ⟨h1, h2, .inr ⟨g', sp, rfl, h3, h4⟩⟩
theorem SL.sk_cell {c w : World} {R : HProp} {kk n cap : Nat} {E : TypeId} {a : Option Nat} {xs : List Value} (h : SL c (slck kk E (sv a n cap) n xs • R) w) (j : Nat) (u : Value) (hj : xs[j]? = some u) : w.cell? ⟨a.getD 0, j, none⟩ = some u := by
  obtain ⟨hl, h1, h2, h3⟩ := h.skv
  rcases h3 with ⟨_, hn, _⟩ | ⟨g, sp, rfl, _, h4⟩
  · rw [hn, Nat.zero_mul] at hl
    rw [List.eq_nil_of_length_eq_zero hl] at hj; simp at hj
  · have := SL.rcell h4 j
    simp only [Option.getD_some]
    rw [this, List.getElem?_append_left (List.getElem?_eq_some_iff.1 hj).1]
    exact hj
theorem skv_nil (kk : Nat) (E : TypeId) : slck kk E (sv none 0 0) 0 [] = emp := slck_nil kk E
section
variable {c : World} {Q : Exit → Act → World → Prop} {n : Nat} {l : List (Nat × Value)} {H R : HProp} {ks : List Kn}
variable {q q1 q2 : Md} {all : Array Oper} {o : Oper} {rest : List Oper} {d : Nat} {v : Value}
/-- &xs[i], xs owned -/
theorem W.idxk [hNL : NL q1 q2] {t e : TypeId} {x y : Operand} {z : Value} {s kk m cap : Nat} {ag : Bool} {a : Option Nat} {kd : IntKind} {i : Int} {xs : List Value} (hg : o.guard = none) (hd : o.dst = some d) (hn : Nat.blt d n = true) (ho : o.op = .indexAddr t x y) [ht : TD t (.slice e)] [ti : TI e z s ag]
    (hx : ev l x = some (sv a m cap)) (hy : ev l y = some (.int kd i)) [hk : Sk H a e kk m cap xs R] (h0 : 0 ≤ i) (h1 : i < m)
    (k : WS c Q n (.ops q2 all rest ks) ((d, .pointer (some ⟨a.getD 0, i.toNat * s, none⟩)) :: l) H) : WS c Q n (.ops q1 all (o :: rest) ks) l H := by
  refine W.val hg hd hn (fun ac w hf hs => ?_) k
  rw [hk.eq] at hs
  obtain ⟨_, _, _, h3⟩ := hs.skv
  rcases h3 with ⟨_, hz, _⟩ | ⟨g, sp, rfl, _, _⟩
  · omega
  · simp [execOp, ho, hf.eval hx, hf.eval hy, Instr.indexAt, run_underlying ht.eq, asIntOf, h0, h1, ti.size, sv, add_none]
/-- A load of an element's cell. -/
theorem W.ldk [hNL : NL q1 q2] {t : TypeId} {x : Operand} {z : Value} {i kk m cap : Nat} {a : Option Nat} {xs : List Value} (hg : o.guard = none) (hd : o.dst = some d) (hn : Nat.blt d n = true) (ho : o.op = .load t x) [ti : TI t z 1 false]
    (hx : ev l x = some (.pointer (some ⟨a.getD 0, i, none⟩))) [hk : Sk H a t kk m cap xs R] (hv : xs[i]? = some v) (k : WS c Q n (.ops q2 all rest ks) ((d, v) :: l) H) : WS c Q n (.ops q1 all (o :: rest) ks) l H := by
  refine W.val hg hd hn (fun ac w hf hs => ?_) k
  rw [hk.eq] at hs
  have hc := hs.sk_cell i v hv
  simp [execOp, ho, hf.eval hx, Instr.loadAt, Instr.sureAddr, loadVar, ti.agg, hc]
theorem owns_sv {w : World} {base : Nat} {e : TypeId} {kk n : Nat} {v : Value} {xs : List Value} (h : w.ownsRow base e kk v n xs) : ∃ a cap, v = sv a n cap := by
  rcases h.2 with ⟨h1, h2⟩ | ⟨g, cap, cur, h1, _⟩
  · exact ⟨none, 0, by rw [h1, h2]; rfl⟩
  · exact ⟨some g, cap, by rw [h1]; rfl⟩
/-- append of a row's elements to a slice of one's own -/
theorem W.appk [NX q1 q2] {t e : TypeId} {x y : Operand} {z : Value} {i : TypeInfo} {kk by' : Nat} {a : Option Nat} {cap g m cp n' : Nat} {E : TypeId} {xs news : List Value} {H2 : HProp}
    (hg : o.guard = none) (hd : o.dst = some d) (hn : Nat.blt d n = true) (ho : o.op = .call { callee := .builtin .append, args := #[x, y], argTypes := #[t, t] }) [ht : TD t (.slice e)] [tb : TB e i z kk by']
    (hcl : z.cells.size = kk) (hk : Nat.blt 0 kk = true) (hx : ev l x = some (sv a n' cap)) (hy : ev l y = some (.slice (some ⟨g, 0, none⟩) m cp))
    [hp : Sk H a e kk n' cap xs R] [hr : Rw R g E news H2] (hl : news.length = m * kk) [h1 : Ones news] (h2 : (n' + m) * by' ≤ 140737488355328) (h3 : n' + m ≤ 9223372036854775807)
    (k : ∀ a' cap', WS c Q n (.ops q2 all rest ks) ((d, sv a' (n' + m) cap') :: l) (slck kk e (sv a' (n' + m) cap') (n' + m) (xs ++ news) • R)) : WS c Q n (.ops q1 all (o :: rest) ks) l H := by
  refine W.valw (σ := Option Nat × Nat) (val := fun p => sv p.1 (n' + m) p.2) (K := fun p => slck kk e (sv p.1 (n' + m) p.2) (n' + m) (xs ++ news) • R) hg hd hn (fun ac w hf hs' => ?_) (fun p => k p.1 p.2)
  have hk : 0 < kk := Nat.le_of_ble_eq_true hk
  have h3 : n' + m ≤ maxLen := by simpa [maxLen] using h3
  rw [hp.eq] at hs'
  have hs2 := hs'
  rw [sep_comm', hr.eq, sep_assoc'] at hs2
  have hnews : ∀ (j : Nat) (u : Value), news[j]? = some u → w.cell? ((⟨g, 0, none⟩ : Addr).add j) = some u := fun j u hu => by
    rw [add_none, hs2.rcell, Nat.zero_add]; exact hu
  obtain ⟨v', w', r1, r2, r3, r4⟩ := run_append_own (P := Pg) w 0 t o.type e i z kk by' ht.eq tb.eq tb.zero tb.size tb.bytes hcl hk (sv a n' cap) n' xs hs'.owns ⟨g, 0, none⟩ m cp news hl hnews h1.one h3 h2 (Nat.zero_le _)
  have h5 := append_block t o.type e i z kk by' ht.eq tb.eq tb.zero tb.size tb.bytes hcl hk (sv a n' cap) v' n' xs hs'.owns ⟨g, 0, none⟩ m cp news hl hnews h1.one h3 h2 r1
  obtain ⟨a', cap', rfl⟩ := owns_sv r2
  refine ⟨(a', cap'), w', ?_, hs'.grown r2 r3 h5⟩
  simp [execOp, ho, resolve, hf.eval hx, hf.eval hy, invoke, builtin, r1]
/-- A function value with what it holds. -/
theorem W.mkf [hNL : NL q1 q2] {f : FuncId} {caps : Array Operand} {vs : List Value} (hg : o.guard = none) (hd : o.dst = some d) (hn : Nat.blt d n = true) (ho : o.op = .makeFunc (.func f) #[] caps)
    (hx : EvL l caps.toList vs) (k : WS c Q n (.ops q2 all rest ks) ((d, .func (.func f) #[] vs.toArray) :: l) H) : WS c Q n (.ops q1 all (o :: rest) ks) l H := by
  refine W.val hg hd hn (fun ac w hf hs => ?_) k
  have h1 : caps.map ac.eval = vs.toArray := by
    apply Array.toList_inj.1
    rw [Array.toList_map, hf.evalL hx]
  simp [execOp, ho, Instr.makeFunc, h1]
/-- A call of a function value. -/
theorem W.callv [NX q1 q2] {f : FuncId} {x : Operand} {args : List Operand} {vs caps : List Value} {ts : Array TypeId} {A : HProp} {Post : Value → HProp → Prop} (h : CS f (vs ++ caps) A Post)
    (hg : o.guard = none) (hd : o.dst = some d) (hn : Nat.blt d n = true) (ho : o.op = .call { callee := .value x, args := args.toArray, argTypes := ts }) (hf : ev l x = some (.func (.func f) #[] caps.toArray))
    (hc : ∀ (args : Array Value) (w : World), (callFunc f args).run Pg w = .ok (.enter f args) w) (hx : EvL l args vs) [ht : Take H A R]
    (k : ∀ v H', Post v H' → WS c Q n (.ops q2 all rest ks) ((d, v) :: l) (H' • R)) : WS c Q n (.ops q1 all (o :: rest) ks) l H := by
  refine W.base hg fun a w hfr hs K hK => ?_
  rw [ht.eq] at hs
  have hrun : (execOp a.eval o).run Pg w = .ok (.enter f (vs ++ caps).toArray) w := by
    simp only [execOp, ho, resolve, Sem.run_bind, hfr.eval hf, Deferred.ofValue, Sem.run_pure, Result.andThen_ok, invoke]
    rw [List.map_toArray, hfr.evalL hx]
    simp [hc]
  unfold Oper.wp
  rw [hrun]
  show Calls Pg f (vs ++ caps).toArray w _
  refine (h c R w hs).mono ?_
  rintro e w' ⟨v, H', hp, rfl, hs'⟩
  show K (a.put o.dst v) w'
  rw [hd]
  exact hK _ _ (k v H' hp) _ _ (hfr.put hn v) hs'
/-- The ways of a piece of code meet behind it. -/
def Met {σ : Type} (c : World) (n : Nat) (P : σ → Prop) (l' : σ → List (Nat × Value)) (H' : σ → HProp) (a : Act) (w : World) : Prop := ∃ x, P x ∧ Fr a n (l' x) ∧ SL c (H' x) w
theorem W.join {σ : Type} (P : σ → Prop) (l' : σ → List (Nat × Value)) (H' : σ → HProp) {y : Code} (k1 : WS c Q n (.code y (.inv (Met c n P l' H') :: ks)) l H) (k2 : ∀ x, P x → WS c Q n (.done .normal ks) (l' x) (H' x)) : WS c Q n (.code y ks) l H := by
  intro a w hf hs
  refine wp_mono (k1 a w hf hs) ?_
  intro e a' w' hq
  cases e with
  | normal => obtain ⟨x, h1, h2, h3⟩ := hq; exact k2 x h1 a' w' h2 h3
  | exit id => exact hq
  | goto l => exact hq
  | ret => exact hq
  | panic ch => exact hq
  | outgrown => exact hq
theorem W.meet {σ : Type} {P : σ → Prop} {l' : σ → List (Nat × Value)} {H' : σ → HProp} (x : σ) (hP : P x) (hs : Sub l (l' x)) (hH : Imp H (H' x)) :
    WS c Q n (.done .normal (.inv (Met c n P l' H') :: ks)) l H := fun _ _ hf h => ⟨x, hP, hf.sub hs, h.imp hH⟩
end
/-! ### results that lie in cells -/
def resOf (a : Act) : ResultVar → Sem Value
  | .tmp t => pure (a.tmps.getD t undef)
  | .cell p t => do loadVar t (← asAddr (a.tmps.getD p undef))
def RV1 (c : World) (n : Nat) (l : List (Nat × Value)) (H : HProp) (r : ResultVar) (v : Value) : Prop := ∀ a w, Fr a n l → SL c H w → (resOf a r).run Pg w = .ok v w
inductive RVL (c : World) (n : Nat) (l : List (Nat × Value)) (H : HProp) : List ResultVar → List Value → Prop
  | nil : RVL c n l H [] []
  | cons {r : ResultVar} {v : Value} {rs : List ResultVar} {vs : List Value} (h : RV1 c n l H r v) (t : RVL c n l H rs vs) : RVL c n l H (r :: rs) (v :: vs)
theorem run_addr (a : Addr) (w : World) : (asAddr (.pointer (some a))).run Pg w = .ok a w := rfl
def rvOf : List Value → Value
  | [v] => v
  | vs => .tuple vs.toArray
section
variable {c : World} {n : Nat} {l : List (Nat × Value)} {H R : HProp} {v : Value}
theorem RV1.tmp {t : Tmp} (hv : lk t l = some v) : RV1 c n l H (.tmp t) v := fun a w hf _ => by
  simp [resOf, Array.getD_eq_getD_getElem?, hf.slot t v hv]
theorem RV1.cell {p : Tmp} {t : TypeId} {z : Value} {b i : Nat} {E : TypeId} {cs : List Value} [ti : TI t z 1 false] (hp : lk p l = some (.pointer (some ⟨b, i, none⟩))) [hr : Rw H b E cs R] [hv : Nv cs i v] : RV1 c n l H (.cell p t) v := fun a w hf hs => by
  rw [hr.eq] at hs
  have h1 : a.tmps.getD p undef = .pointer (some ⟨b, i, none⟩) := by simp [Array.getD_eq_getD_getElem?, hf.slot p _ hp]
  simp [resOf, h1, run_addr, loadVar, ti.agg, hs.rcell, hv.eq]
theorem RV1.cells {p : Tmp} {t : TypeId} {z : Value} {b i s : Nat} {E : TypeId} {cs vs : List Value} [ti : TI t z s true] (hp : lk p l = some (.pointer (some ⟨b, i, none⟩))) [hr : Rw H b E cs R] [hv : Nvs cs i s vs] : RV1 c n l H (.cell p t) (.agg vs.toArray) := fun a w hf hs => by
  rw [hr.eq] at hs
  have h1 : a.tmps.getD p undef = .pointer (some ⟨b, i, none⟩) := by simp [Array.getD_eq_getD_getElem?, hf.slot p _ hp]
  have hl := run_loadCells_list (P := Pg) w ⟨b, i, none⟩ vs (fun j u hu => by
    rw [add_none, hs.rcell, hv.eq j (by have := List.getElem?_eq_some_iff.1 hu; have := this.1; have := hv.len; omega)]; exact hu)
  rw [hv.len] at hl
  simp [resOf, h1, run_addr, loadVar, ti.agg, ti.size, hl]
theorem RVL.run {rs : List ResultVar} {vs : List Value} (h : RVL c n l H rs vs) {a : Act} {w : World} (hf : Fr a n l) (hs : SL c H w) : (rs.mapM (resOf a)).run Pg w = .ok vs w := by
  induction h with
  | nil => simp only [List.mapM_nil, Sem.run_pure]
  | cons h t ih => simp only [List.mapM_cons, Sem.run_bind, h a w hf hs, ih, Result.andThen_ok, Sem.run_pure]
theorem W.rets {fn : Func} {Post : Value → HProp → Prop} {e : Ex} {rs : List ResultVar} {vs : List Value} (he : e = .normal ∨ e = .ret) (hr : fn.results = rs.toArray) (hv : RVL c n l H rs vs) (H' : HProp) (hp : Post (rvOf vs) H') (hi : Imp H (H' • R)) :
    WS c (bodyPost Pg fn fun e w' => ∃ v H', Post v H' ∧ e = .returned v ∧ SL c (H' • R) w') n (.done e []) l H :=
  fin_of he (fun a w hf hs => by
    have h1 := hv.run hf hs
    have h2 : (results fn a.tmps) = (do let vs ← rs.toArray.mapM (resOf a); pure (if h : vs.size = 1 then vs[0] else .tuple vs)) := by
      unfold results
      rw [hr]
      rfl
    rw [h2, List.mapM_toArray]
    simp only [map_eq_pure_bind, Sem.run_bind, h1, Result.andThen_ok, Sem.run_pure]
    match vs with
    | [] => rfl
    | [v] => rfl
    | _ :: _ :: _ => rfl) H' hp hi
end
end Go.Proofs.YtbdhhedfplkidaaGreat
