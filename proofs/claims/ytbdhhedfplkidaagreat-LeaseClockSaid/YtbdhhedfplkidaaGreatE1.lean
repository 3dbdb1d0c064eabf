/- The walk: a function's code is gone through with a list of what its slots hold and an assertion of what the blocks hold. -/
import Derived.Test.YtbdhhedfplkidaaGreatProg
import Derived.Test.YtbdhhedfplkidaaGreatE0
import Derived.OrdersHeld
import Derived.Scope
namespace Go.Proofs.YtbdhhedfplkidaaGreat
open Go
noncomputable abbrev Pg : Program := Tryz.prog

/-! ### slots -/
def lk (i : Nat) : List (Nat × Value) → Option Value
  | [] => none
  | (j, v) :: l => bif Nat.beq i j then some v else lk i l
structure Fr (a : Act) (n : Nat) (l : List (Nat × Value)) : Prop where
  defers : a.defers = []
  size : a.tmps.size = n
  slot : ∀ i v, lk i l = some v → a.tmps[i]? = some v
def ev (l : List (Nat × Value)) : Operand → Option Value
  | .tmp t => lk t l
  | .const v => some v
  | .global g => some (.pointer (some ⟨g, 0, none⟩))
  | .func f => some (.func (.func f) #[] #[])
def EvL (l : List (Nat × Value)) : List Operand → List Value → Prop
  | [], [] => True
  | x :: xs, v :: vs => ev l x = some v ∧ EvL l xs vs
  | _, _ => False
/-- The slots of l' are slots of l. -/
def Sub (l : List (Nat × Value)) : List (Nat × Value) → Prop
  | [] => True
  | (i, v) :: r => lk i l = some v ∧ Sub l r
def ini : Nat → List Value → List (Nat × Value)
  | _, [] => []
  | k, v :: vs => (k, v) :: ini (k + 1) vs

section
variable {a : Act} {n : Nat} {l : List (Nat × Value)}
theorem Fr.eval (h : Fr a n l) {x : Operand} {v : Value} (hx : ev l x = some v) : a.eval x = v := by
  cases x with
  | tmp t => have := h.slot t v hx; simp [Act.eval, Array.getD_eq_getD_getElem?, this]
  | const u => simpa [ev, Act.eval] using hx
  | global g => simpa [ev, Act.eval] using hx
  | func f => simpa [ev, Act.eval] using hx
theorem Fr.evalL (h : Fr a n l) : ∀ {xs : List Operand} {vs : List Value}, EvL l xs vs → xs.map a.eval = vs
  | [], [], _ => rfl
  | x :: xs, v :: vs, hx => by simp only [List.map_cons, h.eval hx.1, h.evalL hx.2]
  | [], _ :: _, hx => hx.elim
  | _ :: _, [], hx => hx.elim
theorem Fr.put (h : Fr a n l) {d : Nat} (hd : Nat.blt d n = true) (v : Value) : Fr (a.put (some d) v) n ((d, v) :: l) := by
  have hd' : d < n := Nat.le_of_ble_eq_true hd
  refine ⟨h.defers, by simp [Act.put, h.size], fun i u hu => ?_⟩
  simp only [lk] at hu
  simp only [Act.put, Array.getElem?_setIfInBounds]
  by_cases hi : i = d
  · subst hi
    simp at hu
    simp [h.size, hd', hu]
  · have : Nat.beq i d = false := by
      cases hb : Nat.beq i d with
      | false => rfl
      | true => exact absurd (Nat.eq_of_beq_eq_true hb) hi
    rw [this] at hu
    simp only [cond_false] at hu
    rw [if_neg (Ne.symm hi)]
    exact h.slot i u hu
theorem Sub.get : ∀ {l' : List (Nat × Value)}, Sub l l' → ∀ i v, lk i l' = some v → lk i l = some v
  | [], _, _, _, h => by cases h
  | (j, u) :: r, hs, i, v, h => by
    simp only [lk] at h
    cases hb : Nat.beq i j with
    | true => rw [hb] at h; have := Nat.eq_of_beq_eq_true hb; subst this; simp at h; exact h ▸ hs.1
    | false => rw [hb] at h; exact Sub.get hs.2 i v (by simpa using h)
theorem Fr.sub (h : Fr a n l) {l' : List (Nat × Value)} (hs : Sub l l') : Fr a n l' := ⟨h.defers, h.size, fun i v hv => h.slot i v (hs.get i v hv)⟩
theorem lk_ini : ∀ (vs : List Value) (k i : Nat) (v : Value), lk i (ini k vs) = some v → k ≤ i ∧ vs[i - k]? = some v
  | [], _, _, _, h => by cases h
  | u :: vs, k, i, v, h => by
    simp only [ini, lk] at h
    cases hb : Nat.beq i k with
    | true => rw [hb] at h; have := Nat.eq_of_beq_eq_true hb; subst this; simpa using h
    | false =>
      rw [hb] at h
      have hne : i ≠ k := fun e => by subst e; simp at hb
      obtain ⟨h1, h2⟩ := lk_ini vs (k + 1) i v (by simpa using h)
      refine ⟨by omega, ?_⟩
      rw [show i - k = (i - (k + 1)) + 1 from by omega]
      simpa using h2
end

/-! ### control -/
inductive Ex where | normal | ret | exit (id : Nat)
def Ex.to : Ex → Exit | .normal => .normal | .ret => .ret | .exit id => .exit id
inductive Kn where
  | seq (c : Code)
  | blk (id : Nat)
  | scp (c : Code)
  | inv (I : Act → World → Prop)
/-- How a list of operations is gone through: one behind the other; in whatever order, the assertion standing still; some that may be taken first, ahead of what is left; ONE of those that may come up now, and what is left behind it in whatever order. -/
inductive Md where
  | seq
  | quiet
  | tk (J : Nat → Bool) (T : World → Prop) (f : Nat) (li : Array Bool)
  | one (b : Bool) (J : Nat → Bool) (S : World → Prop) (f : Nat) (li : Array Bool)
  | aft (b : Bool) (J : Nat → Bool) (S : World → Prop) (f : Nat) (li : Array Bool)
inductive Ctl where
  | code (c : Code) (ks : List Kn)
  | any (J : Nat → Bool) (S : World → Prop) (all : Array Oper) (f : Nat) (li : Array Bool) (ks : List Kn)
  | ops (q : Md) (all : Array Oper) (rest : List Oper) (ks : List Kn)
  | done (e : Ex) (ks : List Kn)
def Qk (Q : Exit → Act → World → Prop) : List Kn → Exit → Act → World → Prop
  | [] => Q
  | .seq y :: ks => Exit.then (y.wp Pg (Qk Q ks)) (Qk Q ks)
  | .blk id :: ks => Exit.inBlock id (Qk Q ks)
  | .scp _ :: ks => Exit.noGoto (Qk Q ks)
  | .inv I :: ks => Exit.then I (Qk Q ks)
/-- Whatever order is picked; behind each operation but the breakers (not J) S holds. -/
def anyJ (all : Array Oper) (Q : Exit → Act → World → Prop) (J : Nat → Bool) (S : World → Prop) : Nat → Array Bool → Act → World → Prop
  | 0, li, a, w => Region.ready .any all li = [] ∧ Q .normal a w
  | f + 1, li, a, w => (Region.ready .any all li = [] → Q .normal a w) ∧
    ∀ i ∈ Region.ready .any all li, wpOp Pg all Q i (fun a' w' => (J i = true → S w') ∧ anyJ all Q J S f (li.setIfInBounds i true) a' w') a w
/-- Each of them yields its value in every world of C, and leaves it alone. -/
def yl (all : Array Oper) (C : World → Prop) (K : Act → Prop) : List Oper → Act → Prop
  | [], a => K a
  | o :: rest, a => if Region.wanted o (yielded all a.tmps) then ∃ v, (∀ w, C w → (execOp a.eval o).run Pg w = .ok (.value v) w) ∧ yl all C K rest (a.put o.dst v) else yl all C K rest (a.put o.dst undef)
/-- C: the worlds of which the assertion holds (for a region in whatever order). -/
def sem (C : World → Prop) (Q : Exit → Act → World → Prop) : Ctl → Act → World → Prop
  | .code x ks, a, w => x.wp Pg (Qk Q ks) a w
  | .any J S all f li ks, a, w => anyJ all (Qk Q ks) J S f li a w
  | .ops .seq all rest ks, a, w => wpList Pg all (Qk Q ks) rest a w
  | .ops .quiet all rest ks, a, _ => wpQuiet Pg all C (fun a' => ∀ w', C w' → Qk Q ks .normal a' w') rest a
  | .ops (.tk J T f li) all rest ks, a, _ => yl all C (fun a' => ∀ w', T w' → anyJ all (Qk Q ks) J C f li a' w') rest a
  | .ops (.one b J S f li) all (o :: _) ks, a, w => if Region.wanted o (yielded all a.tmps) then o.wp Pg a w (fun a' w' => (b = true → S w') ∧ anyJ all (Qk Q ks) J S f li a' w') (Qk Q ks) else ((b = true → S w) ∧ anyJ all (Qk Q ks) J S f li (a.put o.dst undef) w)
  | .ops (.one ..) _ [] _, _, _ => False
  | .ops (.aft b J S f li) all _ ks, a, w => (b = true → S w) ∧ anyJ all (Qk Q ks) J S f li a w
  | .done e ks, a, w => Qk Q ks e.to a w
inductive Nl : Md → Md → Prop
  | seq : Nl .seq .seq
  | quiet : Nl .quiet .quiet
  | tk (J : Nat → Bool) (T : World → Prop) (f : Nat) (li : Array Bool) : Nl (.tk J T f li) (.tk J T f li)
  | one (b : Bool) (J : Nat → Bool) (S : World → Prop) (f : Nat) (li : Array Bool) : Nl (.one b J S f li) (.aft b J S f li)
class NL (q1 : Md) (q2 : outParam Md) : Prop where
  p : Nl q1 q2
instance : NL .seq .seq := ⟨.seq⟩
instance : NL .quiet .quiet := ⟨.quiet⟩
instance (J : Nat → Bool) (T : World → Prop) (f : Nat) (li : Array Bool) : NL (.tk J T f li) (.tk J T f li) := ⟨.tk J T f li⟩
instance (b : Bool) (J : Nat → Bool) (S : World → Prop) (f : Nat) (li : Array Bool) : NL (.one b J S f li) (.aft b J S f li) := ⟨.one b J S f li⟩
class NQ (q : Md) : Prop where
  p : q = .seq ∨ q = .quiet
instance : NQ .seq := ⟨.inl rfl⟩
instance : NQ .quiet := ⟨.inr rfl⟩
inductive Nx : Md → Md → Prop
  | seq : Nx .seq .seq
  | one (b : Bool) (J : Nat → Bool) (S : World → Prop) (f : Nat) (li : Array Bool) : Nx (.one b J S f li) (.aft b J S f li)
class NX (q1 : Md) (q2 : outParam Md) : Prop where
  p : Nx q1 q2
instance : NX .seq .seq := ⟨.seq⟩
instance (b : Bool) (J : Nat → Bool) (S : World → Prop) (f : Nat) (li : Array Bool) : NX (.one b J S f li) (.aft b J S f li) := ⟨.one b J S f li⟩
/-- From every frame with these slots, and every world of which H says the blocks, the run goes well. -/
def WS (c : World) (Q : Exit → Act → World → Prop) (n : Nat) (s : Ctl) (l : List (Nat × Value)) (H : HProp) : Prop :=
  ∀ a w, Fr a n l → SL c H w → sem (SL c H) Q s a w

def gval (all : Array Oper) (l : List (Nat × Value)) (j : Nat) : Option Bool :=
  match all[j]? with
  | some o => match o.dst with
    | some d => match lk d l with
      | some (.bool b) => some b
      | _ => none
    | none => none
  | none => none
def cstep (l : List (Nat × Value)) : Ctl → Option Ctl
  | .code (.seq x y) ks => some (.code x (.seq y :: ks))
  | .code (.block id b) ks => some (.code b (.blk id :: ks))
  | .code .skip ks => some (.done .normal ks)
  | .code (.exit id) ks => some (.done (.exit id) ks)
  | .code .ret ks => some (.done .ret ks)
  | .code (.region _ ops false) ks => some (.ops .seq ops ops.toList ks)
  | .code (.cond x y z) ks => match ev l x with
    | some (.bool true) => some (.code y ks)
    | some (.bool false) => some (.code z ks)
    | _ => none
  | .ops .seq _ [] ks => some (.done .normal ks)
  | .ops .quiet _ [] ks => some (.done .normal ks)
  | .ops q all (o :: rest) ks => match o.guard with
    | some (j, want) => match gval all l j with
      | some b => bif b == want then some (.ops q all ({ o with guard := none } :: rest) ks) else none
      | none => none
    | none => none
  | .done .normal (.seq y :: ks) => some (.code y ks)
  | .done .normal (.blk _ :: ks) => some (.done .normal ks)
  | .done .normal (.scp _ :: ks) => some (.done .normal ks)
  | .done (.exit i) (.scp _ :: ks) => some (.done (.exit i) ks)
  | .code (.scope b) ks => some (.code b (.scp b :: ks))
  | .code (.label _) ks => some (.done .normal ks)
  | .done (.exit i) (.seq _ :: ks) => some (.done (.exit i) ks)
  | .done (.exit i) (.blk j :: ks) => bif Nat.beq i j then some (.done .normal ks) else some (.done (.exit i) ks)
  | .done (.exit i) (.inv _ :: ks) => some (.done (.exit i) ks)
  | .done .ret (_ :: ks) => some (.done .ret ks)
  | _ => none

section
variable {c : World} {Q : Exit → Act → World → Prop} {n : Nat} {l l' : List (Nat × Value)} {H H' R : HProp} {ks : List Kn}
theorem yielded_eq {a : Act} (h : Fr a n l) {all : Array Oper} {j : Nat} {b : Bool} (hg : gval all l j = some b) : yielded all a.tmps j = some b := by
  unfold gval at hg
  unfold yielded
  split at hg
  · rename_i o ho
    split at hg
    · rename_i d hd
      split at hg
      · rename_i b' hb
        have := h.slot d _ hb
        cases hg
        simp [ho, hd, this]
      · cases hg
    · cases hg
  · cases hg
theorem wpList_guard {all : Array Oper} {o : Oper} {rest : List Oper} {a : Act} {w : World} {Q' : Exit → Act → World → Prop}
    (hw : Region.wanted o (yielded all a.tmps) = true) (h : wpList Pg all Q' ({ o with guard := none } :: rest) a w) : wpList Pg all Q' (o :: rest) a w := by
  unfold wpList at h ⊢
  rw [if_pos hw]
  rw [if_pos (by simp [Region.wanted])] at h
  exact h
theorem wpQuiet_guard {all : Array Oper} {o : Oper} {rest : List Oper} {a : Act} {C : World → Prop} {Q' : Act → Prop}
    (hw : Region.wanted o (yielded all a.tmps) = true) (h : wpQuiet Pg all C Q' ({ o with guard := none } :: rest) a) : wpQuiet Pg all C Q' (o :: rest) a := by
  unfold wpQuiet at h ⊢
  rw [if_pos hw]
  rw [if_pos (by simp [Region.wanted])] at h
  exact h
/-- A step of control. -/
theorem W.ctl {s s' : Ctl} (h : cstep l s = some s') (k : WS c Q n s' l H) : WS c Q n s l H := by
  intro a w hf hs0
  have hs := k a w hf hs0
  unfold cstep at h
  split at h
  · cases h; exact wp_seq hs
  · cases h; exact wp_block hs
  · cases h; exact wp_skip hs
  · cases h; exact wp_exit hs
  · cases h; exact wp_ret hs
  · cases h; exact wp_region_list hs
  · split at h
    · rename_i hx; cases h; exact wp_cond_true (hf.eval hx) hs
    · rename_i hx; cases h; exact wp_cond_false (hf.eval hx) hs
    · cases h
  · cases h; exact hs
  · cases h; exact fun w' hw' => k a w' hf hw'
  · split at h
    · rename_i q all o rest ks _ j want hg
      split at h
      · rename_i b hb
        cases hbw : (b == want) with
        | false => rw [hbw] at h; cases h
        | true =>
          rw [hbw] at h
          cases h
          have hbw' : b = want := by simpa using hbw
          have hwd : Region.wanted o (yielded all a.tmps) = true := by simp [Region.wanted, hg, yielded_eq hf hb, hbw']
          cases q with
          | seq => exact wpList_guard hwd hs
          | quiet => exact wpQuiet_guard hwd hs
          | tk J T f li =>
            simp only [sem, yl] at hs ⊢
            rw [if_pos hwd]
            rw [if_pos (by simp [Region.wanted])] at hs
            exact hs
          | one b J S f li =>
            simp only [sem] at hs ⊢
            rw [if_pos hwd]
            rw [if_pos (by simp [Region.wanted])] at hs
            exact hs
          | aft b J S f li => exact hs
      · cases h
    · cases h
  · cases h; exact hs
  · cases h; exact hs
  · cases h; exact hs
  · cases h; exact hs
  · cases h; exact wp_scope_straight hs
  · cases h; exact wp_label hs
  · cases h; exact hs
  · rename_i i j ks
    cases hb : Nat.beq i j with
    | true =>
      rw [hb] at h; cases h
      have := Nat.eq_of_beq_eq_true hb
      subst this
      simpa [sem, Qk, Exit.inBlock, Ex.to] using hs
    | false =>
      rw [hb] at h; cases h
      have hne : i ≠ j := fun e => by subst e; simp at hb
      simpa [sem, Qk, Exit.inBlock, Ex.to, hne] using hs
  · cases h; exact hs
  · rename_i k2 ks
    cases h
    cases k2 <;> exact hs
  · cases h
def loud : Ctl → Bool
  | .ops .quiet _ _ _ => false
  | .ops (.tk ..) _ _ _ => false
  | _ => true
theorem sem_loud {s : Ctl} (h : loud s = true) {C C' : World → Prop} {a : Act} {w : World} : sem C Q s a w ↔ sem C' Q s a w := by
  cases s with
  | code => exact Iff.rfl
  | done => exact Iff.rfl
  | any => exact Iff.rfl
  | ops q all rest => cases q <;> cases rest <;> first | exact Iff.rfl | cases h
/-- Some slots are forgotten. -/
theorem W.keep {s : Ctl} (l' : List (Nat × Value)) (h : Sub l l') (k : WS c Q n s l' H) : WS c Q n s l H := fun a w hf hs => k a w (hf.sub h) hs
/-- The assertion is turned. -/
theorem W.imp {s : Ctl} (hq : loud s = true) (h : Imp H H') (k : WS c Q n s l H') : WS c Q n s l H := fun a w hf hs => (sem_loud hq).1 (k a w hf (hs.imp h))
theorem W.eq {s : Ctl} (h : H = H') (k : WS c Q n s l H') : WS c Q n s l H := h ▸ k
theorem W.exE {s : Ctl} {α : Sort _} {A : α → HProp} (hq : loud s = true) (k : ∀ x, WS c Q n s l (A x • R)) : WS c Q n s l (ex A • R) := fun a w hf hs => let ⟨x, h⟩ := hs.exE; (sem_loud hq).1 (k x a w hf h)
theorem W.prE {s : Ctl} {φ : Prop} (hq : loud s = true) (k : φ → WS c Q n s l R) : WS c Q n s l (pr φ • R) := fun a w hf hs => (sem_loud hq).1 (k hs.prE.1 a w hf hs.prE.2)
/-- One part of the assertion is opened: what it says by itself, and its own parts. -/
theorem W.open {s : Ctl} {A : HProp} {σ : Sort _} {B : σ → HProp → HProp} {φ : σ → Prop} (e : ∀ R, Imp (A • R) (ex fun x => pr (φ x) • B x R)) [hp : Pick H A R] (hq : loud s = true) (k : ∀ x, φ x → WS c Q n s l (B x R)) : WS c Q n s l H := by
  intro a w hf hs
  rw [hp.eq] at hs
  have h2 := hs.imp (e R)
  rw [← emp_sep (ex _), sep_comm'] at h2
  obtain ⟨x, hx⟩ := h2.exE
  rw [sep_assoc'] at hx
  obtain ⟨h3, h4⟩ := hx.prE
  rw [sep_comm', emp_sep] at h4
  exact (sem_loud hq).1 (k x h3 a w hf h4)
theorem W.absurd {s : Ctl} (h : False) : WS c Q n s l H := h.elim
/-- A truth value in a slot: both cases. -/
theorem W.case {s : Ctl} (i : Nat) {b : Bool} (h : lk i l = some (.bool b)) (k : b = true → WS c Q n s ((i, .bool true) :: l) H) (k' : b = false → WS c Q n s ((i, .bool false) :: l) H) : WS c Q n s l H := by
  intro a w hf hs
  have key : ∀ b', b = b' → Fr a n ((i, .bool b') :: l) := fun b' hb => ⟨hf.defers, hf.size, fun j v hv => by
    simp only [lk] at hv
    cases hj : Nat.beq j i with
    | true => rw [hj] at hv; have := Nat.eq_of_beq_eq_true hj; subst this; simp at hv; exact hv ▸ hf.slot j _ (hb ▸ h)
    | false => rw [hj] at hv; exact hf.slot j v (by simpa using hv)⟩
  cases hb : b with
  | true => exact k hb a w (key _ hb) hs
  | false => exact k' hb a w (key _ hb) hs

/-! ### one operation -/
variable {q q1 q2 : Md} {all : Array Oper} {o : Oper} {rest : List Oper} {d : Nat} {v : Value}
/-- An operation that yields a value and leaves the world alone. -/
theorem W.val [hq : NL q1 q2] (hg : o.guard = none) (hd : o.dst = some d) (hn : Nat.blt d n = true) (hv : ∀ a w, Fr a n l → SL c H w → (execOp a.eval o).run Pg w = .ok (.value v) w)
    (k : WS c Q n (.ops q2 all rest ks) ((d, v) :: l) H) : WS c Q n (.ops q1 all (o :: rest) ks) l H := by
  intro a w hf hs
  have hx := hq.p
  cases hx with
  | seq =>
    refine wpList_plain hg fun K hK => ?_
    unfold Oper.wp
    rw [hv a w hf hs]
    show K (a.put o.dst v) w
    rw [hd]
    exact hK _ _ (k _ _ (hf.put hn v) hs)
  | quiet =>
    refine wpQuiet_step fun K hK => ?_
    rw [if_pos (by simp [Region.wanted, hg])]
    refine ⟨v, fun w' hw' => ?_, ?_⟩
    · unfold Oper.quietAt
      rw [hv a w' hf hw']
      exact ⟨rfl, rfl⟩
    · rw [hd]; exact hK _ (k _ w (hf.put hn v) hs)
  | tk J T f li =>
    show yl _ _ _ _ _
    unfold yl
    rw [if_pos (by simp [Region.wanted, hg])]
    refine ⟨v, fun w' hw' => hv a w' hf hw', ?_⟩
    rw [hd]; exact k _ w (hf.put hn v) hs
  | one b J S f li =>
    simp only [sem]
    rw [if_pos (by simp [Region.wanted, hg])]
    unfold Oper.wp
    rw [hv a w hf hs]
    show _ ∧ anyJ _ _ _ _ _ _ (a.put o.dst v) w
    rw [hd]
    exact k _ _ (hf.put hn v) hs
/-- A call that leaves what the assertion says. -/
theorem W.quietCall {f : FuncId} {vs : List Value} (hg : o.guard = none) (hd : o.dst = some d) (hn : Nat.blt d n = true)
    (hv : ∀ a w, Fr a n l → SL c H w → (execOp a.eval o).run Pg w = .ok (.enter f vs.toArray) w ∧ Calls Pg f vs.toArray w fun e w' => e = .returned v ∧ SL c H w')
    (k : WS c Q n (.ops .quiet all rest ks) ((d, v) :: l) H) : WS c Q n (.ops .quiet all (o :: rest) ks) l H := by
  intro a w hf hs
  refine wpQuiet_step fun K hK => ?_
  rw [if_pos (by simp [Region.wanted, hg])]
  refine ⟨v, fun w' hw' => ?_, ?_⟩
  · unfold Oper.quietAt
    rw [(hv a w' hf hw').1]
    exact ⟨rfl, (hv a w' hf hw').2⟩
  · rw [hd]; exact hK _ (k _ w (hf.put hn v) hs)
/-- A region in whatever order. -/
theorem W.draw {id : Nat} {ops : Array Oper} (hB : Region.lexB .any ops = true) (hm : Pg.follows .mixedOrders = true) (k : WS c Q n (.ops .quiet ops ops.toList ks) l H) : WS c Q n (.code (.region id ops true) ks) l H :=
  fun a w hf hs => wp_region_quiet (C := SL c H) hm hB hs.drew (k a w hf hs)
/-- What an operation that may turn the world must do. -/
theorem W.base [hq : NX q1 q2] (hg : o.guard = none)
    (h : ∀ a w, Fr a n l → SL c H w → ∀ K : Act → World → Prop, (∀ l' H', WS c Q n (.ops q2 all rest ks) l' H' → ∀ a' w', Fr a' n l' → SL c H' w' → K a' w') → o.wp Pg a w K (Qk Q ks)) : WS c Q n (.ops q1 all (o :: rest) ks) l H := by
  intro a w hf hs
  have hx := hq.p
  cases hx with
  | seq => exact wpList_plain hg fun K hK => h a w hf hs K fun l' H' hk a' w' hf' hs' => hK a' w' (hk a' w' hf' hs')
  | one b J S f li =>
    simp only [sem]
    rw [if_pos (by simp [Region.wanted, hg])]
    exact h a w hf hs _ fun l' H' hk a' w' hf' hs' => hk a' w' hf' hs'
/-- An operation that yields a value and turns the world. -/
theorem W.valw [NX q1 q2] (hg : o.guard = none) (hd : o.dst = some d) (hn : Nat.blt d n = true) {σ : Sort _} {val : σ → Value} {K : σ → HProp} (hv : ∀ a w, Fr a n l → SL c H w → ∃ x w', (execOp a.eval o).run Pg w = .ok (.value (val x)) w' ∧ SL c (K x) w')
    (k : ∀ x, WS c Q n (.ops q2 all rest ks) ((d, val x) :: l) (K x)) : WS c Q n (.ops q1 all (o :: rest) ks) l H := by
  refine W.base hg fun a w hf hs K' hK => ?_
  unfold Oper.wp
  obtain ⟨x, w', hr, hs'⟩ := hv a w hf hs
  rw [hr]
  show K' (a.put o.dst (val x)) w'
  rw [hd]
  exact hK _ _ (k x) _ _ (hf.put hn _) hs'
/-- An operation whose value nobody wants, and that turns the world. -/
theorem W.valn [NX q1 q2] (hg : o.guard = none) (hd : o.dst = none) {v : Value} (hv : ∀ a w, Fr a n l → SL c H w → ∃ w', (execOp a.eval o).run Pg w = .ok (.value v) w' ∧ SL c H' w')
    (k : WS c Q n (.ops q2 all rest ks) l H') : WS c Q n (.ops q1 all (o :: rest) ks) l H := by
  refine W.base hg fun a w hf hs K' hK => ?_
  unfold Oper.wp
  obtain ⟨w', hr, hs'⟩ := hv a w hf hs
  rw [hr]
  show K' (a.put o.dst v) w'
  rw [hd]
  exact hK _ _ k _ _ hf hs'
/-- An operation that yields nothing and turns the world. -/
theorem W.unit [NX q1 q2] (hg : o.guard = none) (hd : o.dst = none) (hv : ∀ a w, Fr a n l → SL c H w → ∃ w', (execOp a.eval o).run Pg w = .ok .skip w' ∧ SL c H' w')
    (k : WS c Q n (.ops q2 all rest ks) l H') : WS c Q n (.ops q1 all (o :: rest) ks) l H := by
  refine W.base hg fun a w hf hs K' hK => ?_
  unfold Oper.wp
  obtain ⟨w', hr, hs'⟩ := hv a w hf hs
  rw [hr]
  show K' (a.put o.dst undef) w'
  rw [hd]
  exact hK _ _ k _ _ hf hs'
/-- What an operation of the region has yielded for a guard to look at: a truth value, or none. -/
def gvo (all : Array Oper) (l : List (Nat × Value)) (j : Nat) : Option (Option Bool) :=
  match all[j]? with
  | some o => match o.dst with
    | some d => match lk d l with
      | some (.bool b) => some (some b)
      | some (.tuple _) => some none
      | _ => none
    | none => none
  | none => none
theorem yielded_o {a : Act} (h : Fr a n l) {all : Array Oper} {j : Nat} {y : Option Bool} (hg : gvo all l j = some y) : yielded all a.tmps j = y := by
  unfold gvo at hg
  unfold yielded
  split at hg
  · rename_i o ho
    split at hg
    · rename_i d hd
      split at hg
      · rename_i b' hb
        have := h.slot d _ hb
        cases hg
        simp [ho, hd, this]
      · rename_i vs hb
        have := h.slot d _ hb
        cases hg
        simp [ho, hd, this]
      · cases hg
    · cases hg
  · cases hg
/-- An operation whose guard says no. -/
def gno (all : Array Oper) (l : List (Nat × Value)) (o : Oper) : Option Nat :=
  match o.guard with
  | some (j, want) => match gvo all l j with
    | some (some b) => bif b == want then none else o.dst
    | some none => o.dst
    | none => none
  | none => none
theorem gno_spec {a : Act} (hf : Fr a n l) {all : Array Oper} {o : Oper} {d : Nat} (h : gno all l o = some d) : o.dst = some d ∧ Region.wanted o (yielded all a.tmps) = false := by
  unfold gno at h
  split at h
  · rename_i j want hg
    split at h
    · rename_i b hb
      cases hbw : (b == want) with
      | true => rw [hbw] at h; cases h
      | false =>
        rw [hbw] at h
        refine ⟨h, ?_⟩
        simp [Region.wanted, hg, yielded_o hf hb]
        simpa using hbw
    · rename_i hb
      refine ⟨h, ?_⟩
      simp [Region.wanted, hg, yielded_o hf hb]
    · cases h
  · cases h
theorem W.skip [hq : NL q1 q2] (h : gno all l o = some d) (hn : Nat.blt d n = true) (k : WS c Q n (.ops q2 all rest ks) ((d, undef) :: l) H) : WS c Q n (.ops q1 all (o :: rest) ks) l H := by
  intro a w hf hs
  obtain ⟨hd, hwd⟩ := gno_spec hf h
  have hx := hq.p
  cases hx with
  | seq =>
    refine wpList_skip hwd ?_
    rw [hd]; exact k _ _ (hf.put hn _) hs
  | quiet =>
    refine wpQuiet_step fun K hK => ?_
    rw [if_neg (by simp [hwd]), hd]
    exact hK _ (k _ w (hf.put hn _) hs)
  | tk J T f li =>
    show yl _ _ _ _ _
    unfold yl
    rw [if_neg (by simp [hwd]), hd]
    exact k _ w (hf.put hn _) hs
  | one b J S f li =>
    simp only [sem]
    rw [if_neg (by simp [hwd]), hd]
    exact k _ w (hf.put hn _) hs
/-- A loop: what is known at each round's head, for a state x; each round that goes on has a state of a smaller measure. -/
def Again {σ : Type} (c : World) (n : Nat) (I : σ → Prop) (li : σ → List (Nat × Value)) (Hi : σ → HProp) (μ : σ → Nat) (x : σ) (a : Act) (w : World) : Prop := ∃ y, I y ∧ μ y < μ x ∧ Fr a n (li y) ∧ SL c (Hi y) w
theorem W.loop {σ : Type} (I : σ → Prop) (li : σ → List (Nat × Value)) (Hi : σ → HProp) (μ : σ → Nat) (x0 : σ) {b : Code} (hI : I x0) (h0 : Sub l (li x0)) (hH : Imp H (Hi x0))
    (round : ∀ x, I x → WS c Q n (.code b (.inv (Again c n I li Hi μ x) :: ks)) (li x) (Hi x)) : WS c Q n (.code (.loop b) ks) l H := by
  intro a w hf hs
  refine wp_loop_ghost (fun m a w => ∃ x, μ x = m ∧ I x ∧ Fr a n (li x) ∧ SL c (Hi x) w) (μ x0) ⟨x0, rfl, hI, hf.sub h0, hs.imp hH⟩ ?_
  rintro m a w ⟨x, rfl, hI, hf, hs⟩
  refine wp_mono (round x hI a w hf hs) ?_
  intro e a' w' hq
  cases e with
  | normal => obtain ⟨y, h0, h1, h2, h3⟩ := hq; exact ⟨μ y, h1, y, rfl, h0, h2, h3⟩
  | exit id => exact hq
  | goto l => exact hq
  | ret => exact hq
  | panic ch => exact hq
  | outgrown => exact hq
theorem W.again {σ : Type} {I : σ → Prop} {li : σ → List (Nat × Value)} {Hi : σ → HProp} {μ : σ → Nat} {x : σ} (y : σ) (hI : I y) (hm : μ y < μ x) (hs : Sub l (li y)) (hH : Imp H (Hi y)) :
    WS c Q n (.done .normal (.inv (Again c n I li Hi μ x) :: ks)) l H := fun _ _ hf h => ⟨y, hI, hm, hf.sub hs, h.imp hH⟩
/-- A call of a Go function, by its contract. -/
def CS (f : FuncId) (args : List Value) (H : HProp) (Post : Value → HProp → Prop) : Prop :=
  ∀ (c : World) (R : HProp) (w : World), SL c (H • R) w → Calls Pg f args.toArray w fun e w' => ∃ v H', Post v H' ∧ e = .returned v ∧ SL c (H' • R) w'
end
/-! ### what the program says of its types -/
class TI (t : Nat) (z : outParam Value) (s : outParam Nat) (a : outParam Bool) : Prop where
  zero : ∀ w, (zeroValue t).run Pg w = .ok z w
  size : ∀ w, (sizeOf t).run Pg w = .ok s w
  agg : ∀ w, (isAgg t).run Pg w = .ok a w
class TD (t : Nat) (d : outParam TypeDesc) : Prop where
  eq : Pg.underlying t = some d
class TB (t : Nat) (i : outParam TypeInfo) (z : outParam Value) (s by' : outParam Nat) : Prop where
  eq : Pg.info? t = some i
  zero : i.zero = some z
  size : i.size = s
  bytes : i.bytes = by'
class TF (s f : Nat) (off : outParam Nat) : Prop where
  run : ∀ a w, (Instr.fieldAt s (.pointer (some a)) f).run Pg w = .ok (.pointer (some (a.add off))) w
/-- Where a field lies, behind cell i. -/
class TFi (s f i : Nat) (r : outParam Nat) : Prop where
  run : ∀ b w, (Instr.fieldAt s (.pointer (some ⟨b, i, none⟩)) f).run Pg w = .ok (.pointer (some ⟨b, r, none⟩)) w
instance (priority := high) tf0 (s f off : Nat) [h : TF s f off] : TFi s f 0 off := ⟨fun b w => by
  rw [h.run]; unfold Addr.add; split
  · rename_i e; subst e; rfl
  · simp⟩
instance (priority := low) tfi (s f i off : Nat) [h : TF s f off] : TFi s f i (i + off) := ⟨fun b w => by
  rw [h.run]; unfold Addr.add; split
  · rename_i e; subst e; rfl
  · simp⟩
theorem mkTF {s f off sz : Nat} {fs : Array Field} {fd : Field} (hu : Pg.underlying s = some (.struct fs)) (hf : fs[f]? = some fd) (hs : ∀ w, (sizeOf fd.type).run Pg w = .ok sz w) (hn : sz ≠ 0) (ho : fd.offset = off := by rfl) : TF s f off := ⟨fun a w => by
  subst ho
  simp [Instr.fieldAt, Instr.sureAddr, run_underlying hu, hf, fieldPlace, hs, hn]⟩
end Go.Proofs.YtbdhhedfplkidaaGreat
