/- Regions that draw their order and whose operations turn the world: those that only yield a value are taken first; the others in whatever order they may come up. -/
import Derived.Test.YtbdhhedfplkidaaGreatE5
namespace Go.Proofs.YtbdhhedfplkidaaGreat
open Go
/-- Operation j comes up behind operation i. -/
def waits (all : Array Oper) (i : Nat) : Nat → Nat → Bool
  | 0, _ => false
  | f + 1, j => match all[j]? with
    | some o => o.after.any fun e => Region.binds .any e && (Nat.beq e.on i || waits all i f e.on)
    | none => false
def Clo (all : Array Oper) (li : Array Bool) : Prop := ∀ j oj, all[j]? = some oj → li.getD j true = true → ∀ e ∈ oj.after, Region.binds .any e = true → li.getD e.on false = true
def cloB (all : Array Oper) (li : Array Bool) : Bool := (List.range all.size).all fun j => match all[j]? with
  | some oj => !li.getD j true || oj.after.all fun e => !Region.binds .any e || li.getD e.on false
  | none => true
theorem cloB_spec {all : Array Oper} {li : Array Bool} (h : cloB all li = true) : Clo all li := by
  intro j oj hj hl e he hb
  simp only [cloB, List.all_eq_true, List.mem_range] at h
  have h1 := h j (Array.getElem?_eq_some_iff.1 hj).1
  simp only [hj, hl, Bool.not_true, Bool.false_or, Array.all_eq_true'] at h1
  have h2 := h1 e he
  simpa [hb] using h2
theorem getD_tf {li : Array Bool} {i : Nat} (h : li.getD i false = true) : li.getD i true = true := by
  rcases Nat.lt_or_ge i li.size with h' | h'
  · simp [h'] at h ⊢; exact h
  · simp [Array.getElem?_eq_none h'] at h
theorem waits_listed {all : Array Oper} {li : Array Bool} {i : Nat} (hc : Clo all li) : ∀ (f j : Nat) (oj : Oper), all[j]? = some oj →
    (∀ e ∈ oj.after, Region.binds .any e = true → li.getD e.on false = true) → waits all i f j = true → li.getD i false = true
  | 0, _, _, _, _, h => by cases h
  | f + 1, j, oj, hj, ha, h => by
    simp only [waits, hj] at h
    obtain ⟨e, he, hb⟩ := Array.any_eq_true'.1 h
    simp only [Bool.and_eq_true, Bool.or_eq_true] at hb
    have h1 := ha e he hb.1
    rcases hb.2 with h2 | h2
    · rw [Nat.eq_of_beq_eq_true h2] at h1; exact h1
    · cases ho : all[e.on]? with
      | none => cases f <;> simp [waits, ho] at h2
      | some o' => exact waits_listed hc f e.on o' ho (hc e.on o' ho (getD_tf h1)) h2
/-- Operation i may be taken ahead of all that is left. -/
def okA (all : Array Oper) (J : Nat → Bool) (li : Array Bool) (i : Nat) : Bool :=
  (Region.ready .any all li).contains i && match all[i]? with
    | some oi => (List.range all.size).all fun j => Nat.beq j i || li.getD j true || waits all i all.size j || match all[j]? with
      | some oj => oi.apart all oj && J j
      | none => true
    | none => false
def okL (all : Array Oper) (J : Nat → Bool) : Array Bool → List Nat → Bool
  | _, [] => true
  | li, i :: is => okA all J li i && okL all J (li.setIfInBounds i true) is
def setL : Array Bool → List Nat → Array Bool
  | li, [] => li
  | li, i :: is => setL (li.setIfInBounds i true) is
def nthL : List Oper → Nat → Option Oper
  | [], _ => none
  | o :: _, 0 => some o
  | _ :: r, k + 1 => nthL r k
theorem nthL_eq : ∀ (l : List Oper) (k : Nat), nthL l k = l[k]?
  | [], _ => rfl
  | _ :: _, 0 => rfl
  | _ :: r, k + 1 => by simp [nthL, nthL_eq r k]
theorem nthL_arr {all : Array Oper} {i : Nat} {o : Oper} (h : nthL all.toList i = some o) : all[i]? = some o := by rw [nthL_eq] at h; simpa using h
def opsL (all : Array Oper) : List Nat → List Oper
  | [] => []
  | i :: is => match nthL all.toList i with
    | some o => o :: opsL all is
    | none => []

section
variable {all : Array Oper} {Q : Exit → Act → World → Prop} {J : Nat → Bool} {S : World → Prop}
theorem Clo.set {li : Array Bool} {j : Nat} (hc : Clo all li) (hj : j ∈ Region.ready .any all li) : Clo all (li.setIfInBounds j true) := by
  intro k ok hk hl e he hb
  obtain ⟨_, oj, hoj, ha⟩ := mem_ready.1 hj
  by_cases hkj : j = k
  · subst hkj
    rw [hoj] at hk; cases hk
    exact getD_set_true (ha e he hb)
  · rw [getD_set_ne true hkj] at hl
    exact getD_set_true (hc k ok hk hl e he hb)
theorem anyJ_first {i : Nat} {oi : Oper} {v : Value} (hi : all[i]? = some oi) (hsel : ∀ (j : Nat) (o : Oper) cs b, all[j]? = some o → o.op ≠ .select cs b)
    (hQ : ∀ c a w, Q (.panic c) (a.put oi.dst v) w → Q (.panic c) a w) :
    ∀ (fuel : Nat) (li : Array Bool) (a : Act) (w : World), Clo all li →
      (∀ j oj, all[j]? = some oj → j ≠ i → li.getD j true = false → waits all i all.size j = false → oi.apart all oj = true ∧ J j = true) →
      i ∈ Region.ready .any all li → YieldsIf Pg all S oi v a → S w →
      anyJ all Q J S fuel (li.setIfInBounds i true) (a.put oi.dst v) w → anyJ all Q J S (fuel + 1) li a w := by
  intro fuel
  induction fuel with
  | zero =>
    intro li a w hc _ hr hy hS H
    refine ⟨fun h => (by rw [h] at hr; cases hr), fun j hj => ?_⟩
    by_cases hji : j = i
    · subst hji; exact hy.wpOp hi hS ⟨fun _ => hS, H⟩
    · have := ready_mono hj hji
      rw [H.1] at this
      cases this
  | succ fuel ih =>
    intro li a w hc hfree hr hy hS H
    refine ⟨fun h => (by rw [h] at hr; cases hr), fun j hj => ?_⟩
    by_cases hji : j = i
    · subst hji; exact hy.wpOp hi hS ⟨fun _ => hS, H⟩
    · have h1 := H.2 j (ready_mono hj hji)
      obtain ⟨hjun, oj, hoj, hall⟩ := mem_ready.1 hj
      have hnw : waits all i all.size j = false := by
        cases hw : waits all i all.size j with
        | false => rfl
        | true =>
          have := getD_tf (waits_listed hc _ j oj hoj hall hw)
          rw [(mem_ready.1 hr).1] at this
          cases this
      obtain ⟨hap, hJ⟩ := hfree j oj hoj hji hjun hnw
      have h2 := wpOp_putIf hoj hap (fun cs b => hsel i oi cs b hi) (fun cs b => hsel j oj cs b hoj) hQ hy h1
      refine wpOp_mono (fun a' w' h3 => ⟨h3.2.1, ih (li.setIfInBounds j true) a' w' (hc.set hj) (fun k ok hk hki hun hno => hfree k ok hk hki ?_ hno) (ready_mono hr (Ne.symm hji)) h3.1 (h3.2.1 hJ) ?_⟩) h2
      · by_cases hjk : j = k
        · subst hjk; exact hjun
        · rw [getD_set_ne true hjk] at hun; exact hun
      · rw [Array.setIfInBounds_comm _ _ hji]
        exact h3.2.2
theorem okA_spec {li : Array Bool} {i : Nat} (h : okA all J li i = true) : i ∈ Region.ready .any all li ∧ ∃ oi, all[i]? = some oi ∧
    (∀ j oj, all[j]? = some oj → j ≠ i → li.getD j true = false → waits all i all.size j = false → oi.apart all oj = true ∧ J j = true) := by
  simp only [okA, Bool.and_eq_true] at h
  obtain ⟨h1, h2⟩ := h
  refine ⟨by simpa using h1, ?_⟩
  cases hi : all[i]? with
  | none => rw [hi] at h2; cases h2
  | some oi =>
    rw [hi] at h2
    refine ⟨oi, rfl, fun j oj hj hji hun hw => ?_⟩
    simp only [List.all_eq_true, List.mem_range] at h2
    have h3 := h2 j (Array.getElem?_eq_some_iff.1 hj).1
    have hb : Nat.beq j i = false := by
      cases hb : Nat.beq j i with
      | false => rfl
      | true => exact absurd (Nat.eq_of_beq_eq_true hb) hji
    simpa [hj, hun, hw, hb] using h3
theorem anyJ_take (hs : Region.noSelect all = true) (hQ : ∀ c a d v w, Q (.panic c) (Act.put a d v) w → Q (.panic c) a w) :
    ∀ (is : List Nat) (li : Array Bool) (f : Nat) (a : Act) (w : World), Clo all li → okL all J li is = true → S w →
      yl all S (fun a' => ∀ w', S w' → w' = w → anyJ all Q J S f (setL li is) a' w') (opsL all is) a → anyJ all Q J S (f + is.length) li a w
  | [], _, _, _, _, _, _, hS, h => h _ hS rfl
  | i :: is, li, f, a, w, hc, hok, hS, h => by
    simp only [okL, Bool.and_eq_true] at hok
    obtain ⟨hr, oi, hi, hfree⟩ := okA_spec hok.1
    have hd : nthL all.toList i = some oi := by rw [nthL_eq]; simpa using hi
    simp only [opsL, yl, hd] at h
    have key : ∃ v, YieldsIf Pg all S oi v a ∧ yl all S (fun a' => ∀ w', S w' → w' = w → anyJ all Q J S f (setL li (i :: is)) a' w') (opsL all is) (a.put oi.dst v) := by
      split at h
      · rename_i hw
        obtain ⟨v, hv, h⟩ := h
        exact ⟨v, .inl ⟨hw, hv⟩, h⟩
      · rename_i hw
        exact ⟨undef, .inr ⟨by simpa using hw, rfl⟩, h⟩
    obtain ⟨v, hy, h⟩ := key
    exact anyJ_first hi (Region.noSelect_spec hs) (fun c a w => hQ c a _ v w) (f + is.length) li a w hc hfree hr hy hS (anyJ_take hs hQ is _ f _ w (hc.set hr) hok.2 hS h)
theorem wpAny_of_anyJ : ∀ (fuel : Nat) (li : Array Bool) (a : Act) (w : World), anyJ all Q J S fuel li a w → wpAny Pg .any all Q fuel li a w
  | 0, _, _, _, h => h
  | fuel + 1, _, _, _, h => ⟨h.1, fun i hi => wpOp_mono (fun a' w' h' => wpAny_of_anyJ fuel _ a' w' h'.2) (h.2 i hi)⟩
theorem yl_mono {C : World → Prop} {K K' : Act → Prop} (h : ∀ a, K a → K' a) : ∀ (os : List Oper) (a : Act), yl all C K os a → yl all C K' os a
  | [], a, hh => h a hh
  | o :: os, a, hh => by
    simp only [yl] at hh ⊢
    split
    · rename_i hw
      rw [if_pos hw] at hh
      exact ⟨hh.choose, hh.choose_spec.1, yl_mono h os _ hh.choose_spec.2⟩
    · rename_i hw
      rw [if_neg hw] at hh
      exact yl_mono h os _ hh
end
/-- What is asked of a panic does not look at the slots. -/
class PF (Q : Exit → Act → World → Prop) : Prop where
  p : ∀ c a d v w, Q (.panic c) (Act.put a d v) w → Q (.panic c) a w
instance {fn : Func} {R : Ending → World → Prop} : PF (bodyPost Pg fn R) := ⟨fun _ _ d _ _ h => by cases d <;> exact h⟩
theorem Qk_panic {Q : Exit → Act → World → Prop} [hq : PF Q] : ∀ (ks : List Kn) c a d v w, Qk Q ks (.panic c) (Act.put a d v) w → Qk Q ks (.panic c) a w
  | [], c, a, d, v, w, h => hq.p c a d v w h
  | .seq _ :: ks, c, a, d, v, w, h => Qk_panic ks c a d v w h
  | .blk _ :: ks, c, a, d, v, w, h => Qk_panic ks c a d v w h
  | .scp _ :: ks, c, a, d, v, w, h => Qk_panic ks c a d v w h
  | .inv _ :: ks, c, a, d, v, w, h => Qk_panic ks c a d v w h

section
variable {c : World} {Q : Exit → Act → World → Prop} {n : Nat} {l l' : List (Nat × Value)} {H H' R : HProp} {ks : List Kn}
variable {all : Array Oper} {f : Nat} {li : Array Bool} {T : World → Prop} {m : Nat}
/-- A region in whatever order: J says no of those operations behind which Hs need not hold. -/
theorem W.any {id : Nat} (J : Nat → Bool) (Hs : HProp) (hm : Pg.follows .mixedOrders = true) (k : WS c Q n (.any J (SL c Hs) all all.size (Array.replicate all.size false) ks) l H) : WS c Q n (.code (.region id all true) ks) l H :=
  fun a w hf hs => wp_region_any hm (wpAny_of_anyJ _ _ _ _ (k a _ hf hs.drew))
variable {J : Nat → Bool} {S : World → Prop}
/-- These operations are taken first. -/
theorem W.atk [PF Q] {Hs : HProp} (is : List Nat) (hs : Region.noSelect all = true) (hc : cloB all li = true) (hok : okL all J li is = true) (hn : is.length + f = m) (hH : Imp H Hs)
    (k : WS c Q n (.ops (.tk J (SL c H) f (setL li is)) all (opsL all is) ks) l Hs) : WS c Q n (.any J (SL c Hs) all m li ks) l H := by
  intro a w hf hsl
  subst hn
  show anyJ _ _ _ _ _ _ _ _
  rw [Nat.add_comm]
  have hk := k a w hf (hsl.imp hH)
  refine anyJ_take hs (Qk_panic ks) is li f a w (cloB_spec hc) hok (hsl.imp hH) (yl_mono ?_ _ a hk)
  intro a' h w' _ he
  subst he
  exact h w' hsl
/-- A region of which these operations are taken first; J says no of those behind which the assertion need not hold any more. -/
theorem W.anyq [PF Q] {id : Nat} (J : Nat → Bool) (is : List Nat) (hm : Pg.follows .mixedOrders = true) (hs : Region.noSelect all = true) (hc : cloB all (Array.replicate all.size false) = true) (hok : okL all J (Array.replicate all.size false) is = true) (hn : is.length + f = all.size)
    (k : WS c Q n (.ops (.tk J (SL c H) f (setL (Array.replicate all.size false) is)) all (opsL all is) ks) l H) : WS c Q n (.code (.region id all true) ks) l H :=
  W.any J H hm (W.atk is hs hc hok hn (Imp.refl H) k)
/-- .. Hs: what must hold behind each of the others, but for those of which J says no. -/
theorem W.anyh [PF Q] {id : Nat} (J : Nat → Bool) (is : List Nat) (hm : Pg.follows .mixedOrders = true) (hs : Region.noSelect all = true) (hc : cloB all (Array.replicate all.size false) = true) (hok : okL all J (Array.replicate all.size false) is = true) (hn : is.length + f = all.size)
    (Hs : HProp) (hH : Imp H Hs) (k : WS c Q n (.ops (.tk J (SL c H) f (setL (Array.replicate all.size false) is)) all (opsL all is) ks) l Hs) : WS c Q n (.code (.region id all true) ks) l H :=
  W.any J Hs hm (W.atk is hs hc hok hn hH k)
theorem W.tdn (k : WS c Q n (.any J (SL c H) all f li ks) l H') : WS c Q n (.ops (.tk J (SL c H') f li) all [] ks) l H :=
  fun a _ hf _ w' hw' => k a w' hf hw'
theorem anyOp {i : Nat} {oi : Oper} (hi : all[i]? = some oi) {a : Act} {w : World} (k : sem T Q (.ops (.one (J i) J S f (li.setIfInBounds i true)) all [oi] ks) a w) :
    wpOp Pg all (Qk Q ks) i (fun a' w' => (J i = true → S w') ∧ anyJ all (Qk Q ks) J S f (li.setIfInBounds i true) a' w') a w := by
  unfold wpOp
  simp only [hi]
  simp only [sem] at k
  split
  · rename_i hw
    rw [if_pos hw] at k
    exact .inl k
  · rename_i hw
    rw [if_neg hw] at k
    exact k
theorem W.ald1 (i : Nat) {oi : Oper} (hr : Region.ready .any all li = [i]) (hi : nthL all.toList i = some oi) (k : WS c Q n (.ops (.one (J i) J S f (li.setIfInBounds i true)) all [oi] ks) l H) : WS c Q n (.any J S all (f + 1) li ks) l H := by
  intro a w hf hs
  refine ⟨fun h => (by rw [hr] at h; cases h), fun j hj => ?_⟩
  rw [hr] at hj
  have := List.mem_singleton.1 hj
  subst this
  exact anyOp (nthL_arr hi) (k a w hf hs)
theorem W.ald2 (i i' : Nat) {oi oi' : Oper} (hr : Region.ready .any all li = [i, i']) (hi : nthL all.toList i = some oi) (hi' : nthL all.toList i' = some oi') (k : WS c Q n (.ops (.one (J i) J S f (li.setIfInBounds i true)) all [oi] ks) l H)
    (k' : WS c Q n (.ops (.one (J i') J S f (li.setIfInBounds i' true)) all [oi'] ks) l H) : WS c Q n (.any J S all (f + 1) li ks) l H := by
  intro a w hf hs
  refine ⟨fun h => (by rw [hr] at h; cases h), fun j hj => ?_⟩
  rw [hr] at hj
  rcases List.mem_cons.1 hj with rfl | hj
  · exact anyOp (nthL_arr hi) (k a w hf hs)
  · have := List.mem_singleton.1 hj
    subst this
    exact anyOp (nthL_arr hi') (k' a w hf hs)
theorem W.aft {Hs : HProp} {b : Bool} (hH : Imp H Hs) (k : WS c Q n (.any J (SL c Hs) all f li ks) l H) : WS c Q n (.ops (.aft b J (SL c Hs) f li) all [] ks) l H :=
  fun a w hf hs => ⟨fun _ => hs.imp hH, k a w hf hs⟩
theorem W.afb (k : WS c Q n (.any J S all f li ks) l H) : WS c Q n (.ops (.aft false J S f li) all [] ks) l H :=
  fun a w hf hs => ⟨fun h => (by cases h), k a w hf hs⟩
theorem W.adn (hr : Region.ready .any all li = []) (k : WS c Q n (.done .normal ks) l H) : WS c Q n (.any J S all f li ks) l H := by
  intro a w hf hs
  cases f with
  | zero => exact ⟨hr, k a w hf hs⟩
  | succ f => exact ⟨fun _ => k a w hf hs, (by rw [hr]; simp)⟩
end
end Go.Proofs.YtbdhhedfplkidaaGreat
