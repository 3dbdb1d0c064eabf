/- Parts of a proof, one behind the other: E11, C12, C13, C14, C15, E12, Mod4, C16, C17, C18, C19. -/
import Derived.Test.YtbdhhedfplkidaaGreatM3
/- Regions that draw their order and in which several loud operations run side by side: each side goes by itself; whatever way they are mixed, all is well. -/
namespace Go.Proofs.YtbdhhedfplkidaaGreat
open Go
def sl : List Nat → List Value → List (Nat × Value)
  | k :: ks, v :: vs => (k, v) :: sl ks vs
  | _, _ => []
theorem sl_fst : ∀ (ks : List Nat) (vs : List Value), ks.length = vs.length → (sl ks vs).map (·.1) = ks
  | [], [], _ => rfl
  | k :: ks, v :: vs, h => by simp only [sl, List.map_cons, sl_fst ks vs (by simpa using h)]
  | [], _ :: _, h => by cases h
  | _ :: _, [], h => by cases h
/-- All these slots hold these values. -/
structure AllS (a : Act) (n : Nat) (l : List (Nat × Value)) : Prop where
  defers : a.defers = []
  size : a.tmps.size = n
  all : ∀ p ∈ l, a.tmps[p.1]? = some p.2
theorem lk_mem : ∀ (l : List (Nat × Value)) (i : Nat) (v : Value), lk i l = some v → (i, v) ∈ l
  | [], _, _, h => by cases h
  | (j, u) :: l, i, v, h => by
    simp only [lk] at h
    cases hb : Nat.beq i j with
    | true => rw [hb] at h; have := Nat.eq_of_beq_eq_true hb; subst this; simp at h; simp [h]
    | false => rw [hb] at h; exact List.mem_cons_of_mem _ (lk_mem l i v (by simpa using h))
theorem mem_lk : ∀ (l : List (Nat × Value)) (p : Nat × Value), (l.map (·.1)).Nodup → p ∈ l → lk p.1 l = some p.2
  | [], _, _, h => by cases h
  | (j, u) :: l, p, hn, h => by
    simp only [List.map_cons, List.nodup_cons] at hn
    simp only [lk]
    rcases List.mem_cons.1 h with rfl | h'
    · simp
    · have hne : p.1 ≠ j := by
        rintro rfl
        exact hn.1 (List.mem_map_of_mem (f := (·.1)) h')
      have hb : Nat.beq p.1 j = false := by
        cases hb : Nat.beq p.1 j with
        | false => rfl
        | true => exact absurd (Nat.eq_of_beq_eq_true hb) hne
      rw [hb]
      exact mem_lk l p hn.2 h'
theorem AllS.fr {a : Act} {n : Nat} {l : List (Nat × Value)} (h : AllS a n l) : Fr a n l := ⟨h.defers, h.size, fun i v hv => h.all (i, v) (lk_mem l i v hv)⟩
theorem AllS.of {a : Act} {n : Nat} {l : List (Nat × Value)} (h : Fr a n l) (hn : (l.map (·.1)).Nodup) : AllS a n l := ⟨h.defers, h.size, fun p hp => h.slot p.1 p.2 (mem_lk l p hn hp)⟩
theorem AllS.sub {a : Act} {n : Nat} {l l' : List (Nat × Value)} (h : AllS a n l) (hs : ∀ p ∈ l', p ∈ l) : AllS a n l' := ⟨h.defers, h.size, fun p hp => h.all p (hs p hp)⟩
def dOf (all : Array Oper) (i : Nat) : Nat := match nthL all.toList i with
  | some o => o.dst.getD 0
  | none => 0
/-- One side: its operations, the slots it has written so far and what they hold, its part of the blocks. -/
def Thr (c : World) (Q : Exit → Act → World → Prop) (n : Nat) (all : Array Oper) (ks : List Kn) (base : List (Nat × Value)) (E : List (Nat × Value) → HProp → Prop) : List Nat → List Nat → List Value → HProp → Prop
  | [], kz, vs, h => E (sl kz vs) h
  | i :: is, kz, vs, h => ∃ o d, nthL all.toList i = some o ∧ o.dst = some d ∧ ∀ (b : Bool) (J : Nat → Bool) (S : World → Prop) (f : Nat) (li : Array Bool) (lx : List (Nat × Value)) (F : HProp),
      (∀ v (h1 : HProp), Thr c Q n all ks base E is (d :: kz) (v :: vs) h1 → WS c Q n (.ops (.aft b J S f li) all [] ks) ((d, v) :: (sl kz vs ++ (base ++ lx))) (h1 • F)) →
      WS c Q n (.ops (.one b J S f li) all [o] ks) (sl kz vs ++ (base ++ lx)) (h • F)
section
variable {c : World} {Q : Exit → Act → World → Prop} {n : Nat} {all : Array Oper} {ks : List Kn} {base : List (Nat × Value)} {J : Nat → Bool} {Hs F : HProp}
theorem par_step {E : List (Nat × Value) → HProp → Prop} {i : Nat} {is kz : List Nat} {vs : List Value} {h : HProp} (t : Thr c Q n all ks base E (i :: is) kz vs h) {f : Nat} {li : Array Bool}
    (lx : List (Nat × Value)) (G : HProp) (hnd : ((dOf all i :: kz) ++ (base.map (·.1) ++ lx.map (·.1))).Nodup) (hlen : kz.length = vs.length) {a : Act} {w : World} (hf : AllS a n (sl kz vs ++ (base ++ lx))) (hs : SL c (h • G) w)
    (hG : ∀ h1 : HProp, Imp (h1 • G) Hs)
    (k : ∀ v (h1 : HProp), Thr c Q n all ks base E is (dOf all i :: kz) (v :: vs) h1 → ∀ a' w', AllS a' n (sl (dOf all i :: kz) (v :: vs) ++ (base ++ lx)) → SL c (h1 • G) w' → anyJ all (Qk Q ks) J (SL c Hs) f (li.setIfInBounds i true) a' w') :
    wpOp Pg all (Qk Q ks) i (fun a' w' => (J i = true → SL c Hs w') ∧ anyJ all (Qk Q ks) J (SL c Hs) f (li.setIfInBounds i true) a' w') a w := by
  obtain ⟨o, d, hi, hd, t⟩ := t
  have hdo : dOf all i = d := by simp only [dOf, hi, hd, Option.getD_some]
  rw [hdo] at hnd k
  have h1 := t (J i) J (SL c Hs) f (li.setIfInBounds i true) lx G (fun v h1 ht a' w' hf' hs' => ⟨fun _ => hs'.imp (hG h1), k v h1 ht a' w' (AllS.of hf' (by
    have e : (sl (d :: kz) (v :: vs) ++ (base ++ lx)).map (·.1) = (d :: kz) ++ (base.map (·.1) ++ lx.map (·.1)) := by rw [List.map_append, List.map_append, sl_fst _ _ (by simpa using hlen)]
    exact e ▸ hnd)) hs'⟩) a w hf.fr hs
  exact anyOp (nthL_arr hi) h1
def headIs : List Nat → Nat → Bool
  | [], _ => false
  | i :: _, j => Nat.beq i j
def parOk (all : Array Oper) : Nat → Array Bool → List Nat → List Nat → List Nat → Bool
  | 0, _, A, B, C => A.isEmpty && B.isEmpty && C.isEmpty
  | m + 1, li, A, B, C => !(Region.ready .any all li).isEmpty && (Region.ready .any all li).all (fun i => headIs A i || headIs B i || headIs C i) &&
    (match A with
      | [] => true
      | i :: A' => !(Region.ready .any all li).contains i || parOk all m (li.setIfInBounds i true) A' B C) &&
    (match B with
      | [] => true
      | i :: B' => !(Region.ready .any all li).contains i || parOk all m (li.setIfInBounds i true) A B' C) &&
    (match C with
      | [] => true
      | i :: C' => !(Region.ready .any all li).contains i || parOk all m (li.setIfInBounds i true) A B C')
def nodupB : List Nat → Bool
  | [] => true
  | k :: l => l.all (fun j => !Nat.beq k j) && nodupB l
theorem nodupB_spec : ∀ l, nodupB l = true → l.Nodup
  | [], _ => by simp
  | k :: l, h => by
    simp only [nodupB, Bool.and_eq_true, List.all_eq_true] at h
    refine List.nodup_cons.2 ⟨fun hm => ?_, nodupB_spec l h.2⟩
    have := h.1 k hm
    simp at this
theorem setL_set : ∀ (is : List Nat) (li : Array Bool) (i : Nat), setL (li.setIfInBounds i true) is = (setL li is).setIfInBounds i true
  | [], _, _ => rfl
  | j :: is, li, i => by
    simp only [setL]
    by_cases h : i = j
    · subst h; rw [setL_set is]
    · rw [Array.setIfInBounds_comm _ _ h, setL_set is]
theorem setL_append : ∀ (is js : List Nat) (li : Array Bool), setL li (is ++ js) = setL (setL li is) js
  | [], _, _ => rfl
  | i :: is, js, li => by simp only [List.cons_append, setL, setL_append is js]
theorem headIs_spec {A : List Nat} {i : Nat} (h : headIs A i = true) : ∃ A', A = i :: A' := by
  cases A with
  | nil => cases h
  | cons j A => have := Nat.eq_of_beq_eq_true h; subst this; exact ⟨A, rfl⟩
theorem par_run {EA EB EC : List (Nat × Value) → HProp → Prop} {f : Nat} {liE : Array Bool} (hF : Imp F Hs)
    (fin : ∀ la ha lb hb lc hc, EA la ha → EB lb hb → EC lc hc → ∀ a w, AllS a n (la ++ (lb ++ (lc ++ base))) → SL c (ha • hb • hc • F) w → anyJ all (Qk Q ks) J (SL c Hs) f liE a w) :
    ∀ (m : Nat) (A B C kA kB kC : List Nat) (va vb vc : List Value) (ha hb hc : HProp) (li : Array Bool), A.length + B.length + C.length = m → parOk all m li A B C = true → setL li (A ++ B ++ C) = liE →
      Thr c Q n all ks base EA A kA va ha → Thr c Q n all ks base EB B kB vb hb → Thr c Q n all ks base EC C kC vc hc → kA.length = va.length → kB.length = vb.length → kC.length = vc.length →
      ((A.map (dOf all) ++ kA) ++ ((B.map (dOf all) ++ kB) ++ ((C.map (dOf all) ++ kC) ++ base.map (·.1)))).Nodup →
      ∀ a w, AllS a n (sl kA va ++ (sl kB vb ++ (sl kC vc ++ base))) → SL c (ha • hb • hc • F) w → anyJ all (Qk Q ks) J (SL c Hs) (f + m) li a w := by
  intro m
  induction m with
  | zero =>
    intro A B C kA kB kC va vb vc ha hb hc li hm hok hli tA tB tC _ _ _ _ a w hf hs
    obtain rfl : A = [] := List.eq_nil_of_length_eq_zero (by omega)
    obtain rfl : B = [] := List.eq_nil_of_length_eq_zero (by omega)
    obtain rfl : C = [] := List.eq_nil_of_length_eq_zero (by omega)
    simp only [setL, List.append_nil] at hli
    subst hli
    exact fin _ _ _ _ _ _ tA tB tC a w hf hs
  | succ m ih =>
    intro A B C kA kB kC va vb vc ha hb hc li hm hok hli tA tB tC lA lB lC hnd a w hf hs
    simp only [parOk, Bool.and_eq_true, Bool.not_eq_true', List.isEmpty_eq_false_iff, List.all_eq_true, Bool.or_eq_true] at hok
    obtain ⟨⟨⟨⟨hne, hall⟩, hA⟩, hB⟩, hC⟩ := hok
    refine ⟨fun h => absurd h hne, fun j hj => ?_⟩
    have hcon : (Region.ready .any all li).contains j = true := by simpa using hj
    rcases hall j hj with (h | h) | h
    · obtain ⟨A', rfl⟩ := headIs_spec h
      simp only [hcon, Bool.not_true] at hA
      simp only [List.length_cons] at hm
      refine par_step tA (sl kB vb ++ sl kC vc) (hb • hc • F) ?_ lA (hf.sub ?_) hs (fun h1 => (Imp.right _ _).trans ((Imp.right _ _).trans ((Imp.right _ _).trans hF))) ?_
      · simp only [List.map_append, sl_fst _ _ lB, sl_fst _ _ lC]
        simp only [List.nodup_iff_count] at hnd ⊢
        intro x
        have := hnd x
        simp only [List.map_cons, List.count_append, List.count_cons] at this ⊢
        omega
      · intro p hp; simp only [List.mem_append] at hp ⊢; rcases hp with h | h | h | h <;> simp [h]
      · intro v h1 ht a' w' hf' hs'
        refine ih A' B C (dOf all j :: kA) kB kC (v :: va) vb vc h1 hb hc _ (by omega) hA ?_ ht tB tC (by simp [lA]) lB lC ?_ a' w' (hf'.sub ?_) hs'
        · rw [← hli]; rfl
        · simp only [List.nodup_iff_count] at hnd ⊢
          intro x
          have := hnd x
          simp only [List.map_cons, List.count_append, List.count_cons] at this ⊢
          omega
        · intro p hp; simp only [List.mem_append] at hp ⊢; rcases hp with h | h | h | h <;> simp [h]
    · obtain ⟨B', rfl⟩ := headIs_spec h
      simp only [hcon, Bool.not_true] at hB
      simp only [List.length_cons] at hm
      refine par_step tB (sl kA va ++ sl kC vc) (ha • hc • F) ?_ lB (hf.sub ?_) (hs.imp (Imp.of_eq (by ac_rfl))) (fun h1 => (Imp.right _ _).trans ((Imp.right _ _).trans ((Imp.right _ _).trans hF))) ?_
      · simp only [List.map_append, sl_fst _ _ lA, sl_fst _ _ lC]
        simp only [List.nodup_iff_count] at hnd ⊢
        intro x
        have := hnd x
        simp only [List.map_cons, List.count_append, List.count_cons] at this ⊢
        omega
      · intro p hp; simp only [List.mem_append] at hp ⊢; rcases hp with h | h | h | h <;> simp [h]
      · intro v h1 ht a' w' hf' hs'
        refine ih A B' C kA (dOf all j :: kB) kC va (v :: vb) vc ha h1 hc _ (by omega) hB ?_ tA ht tC lA (by simp [lB]) lC ?_ a' w' (hf'.sub ?_) (hs'.imp (Imp.of_eq (by ac_rfl)))
        · rw [← hli]; simp only [List.append_assoc, setL_append, setL, setL_set]
        · simp only [List.nodup_iff_count] at hnd ⊢
          intro x
          have := hnd x
          simp only [List.map_cons, List.count_append, List.count_cons] at this ⊢
          omega
        · intro p hp; simp only [List.mem_append] at hp ⊢; rcases hp with h | h | h | h <;> simp [h]
    · obtain ⟨C', rfl⟩ := headIs_spec h
      simp only [hcon, Bool.not_true] at hC
      simp only [List.length_cons] at hm
      refine par_step tC (sl kA va ++ sl kB vb) (ha • hb • F) ?_ lC (hf.sub ?_) (hs.imp (Imp.of_eq (by ac_rfl))) (fun h1 => (Imp.right _ _).trans ((Imp.right _ _).trans ((Imp.right _ _).trans hF))) ?_
      · simp only [List.map_append, sl_fst _ _ lA, sl_fst _ _ lB]
        simp only [List.nodup_iff_count] at hnd ⊢
        intro x
        have := hnd x
        simp only [List.map_cons, List.count_append, List.count_cons] at this ⊢
        omega
      · intro p hp; simp only [List.mem_append] at hp ⊢; rcases hp with h | h | h | h <;> simp [h]
      · intro v h1 ht a' w' hf' hs'
        refine ih A B C' kA kB (dOf all j :: kC) va vb (v :: vc) ha hb h1 _ (by omega) hC ?_ tA tB ht lA lB (by simp [lC]) ?_ a' w' (hf'.sub ?_) (hs'.imp (Imp.of_eq (by ac_rfl)))
        · rw [← hli]; simp only [List.append_assoc, setL_append, setL, setL_set]
        · simp only [List.nodup_iff_count] at hnd ⊢
          intro x
          have := hnd x
          simp only [List.map_cons, List.count_append, List.count_cons] at this ⊢
          omega
        · intro p hp; simp only [List.mem_append] at hp ⊢; rcases hp with h | h | h | h <;> simp [h]
/-- Three sides (some may be without operations). -/
theorem W.par {l : List (Nat × Value)} {H : HProp} {li : Array Bool} {f m : Nat} (base : List (Nat × Value)) (hb : Sub l base) (A B C : List Nat) (ha hb' hc : HProp) (F : HProp) {EA EB EC : List (Nat × Value) → HProp → Prop}
    (hm : m = f + (A.length + B.length + C.length)) (hok : parOk all (A.length + B.length + C.length) li A B C = true) (hnd : nodupB (A.map (dOf all) ++ (B.map (dOf all) ++ (C.map (dOf all) ++ base.map (·.1)))) = true) (hH : Imp H (ha • hb' • hc • F)) (hF : Imp F Hs)
    (tA : Thr c Q n all ks base EA A [] [] ha) (tB : Thr c Q n all ks base EB B [] [] hb') (tC : Thr c Q n all ks base EC C [] [] hc)
    (k : ∀ la ha lb hb lc hc, EA la ha → EB lb hb → EC lc hc → WS c Q n (.any J (SL c Hs) all f (setL li (A ++ B ++ C)) ks) (la ++ (lb ++ (lc ++ base))) (ha • hb • hc • F)) : WS c Q n (.any J (SL c Hs) all m li ks) l H := by
  intro a w hf hs
  rw [hm]
  refine par_run hF (fun la ha lb hb lc hc e1 e2 e3 a w hf hs => k la ha lb hb lc hc e1 e2 e3 a w hf.fr hs) _ A B C [] [] [] [] [] [] ha hb' hc li rfl hok rfl tA tB tC rfl rfl rfl ?_ a w (AllS.of (hf.sub hb) ?_) (hs.imp hH)
  · have := nodupB_spec _ hnd
    simpa using this
  · have h1 := nodupB_spec _ hnd
    have h2 : (base.map (·.1)).Sublist (A.map (dOf all) ++ (B.map (dOf all) ++ (C.map (dOf all) ++ base.map (·.1)))) := (List.sublist_append_right _ _).trans ((List.sublist_append_right _ _).trans (List.sublist_append_right _ _))
    exact h1.sublist h2
def parOkc (all : Array Oper) (x : Nat) : Nat → Array Bool → List Nat → List Nat → Bool
  | 0, _, A, B => A.isEmpty && B.isEmpty
  | m + 1, li, A, B => !(Region.ready .any all li).isEmpty && (Region.ready .any all li).all (fun i => headIs A i || headIs B i || Nat.beq x i) &&
    (match A with
      | [] => true
      | i :: A' => !(Region.ready .any all li).contains i || parOkc all x m (li.setIfInBounds i true) A' B) &&
    (match B with
      | [] => true
      | i :: B' => !(Region.ready .any all li).contains i || parOkc all x m (li.setIfInBounds i true) A B') &&
    (!(Region.ready .any all li).contains x || parOk all (m + 1) (li.setIfInBounds x true) A B [])
theorem par_runc {EA EB EC : List (Nat × Value) → HProp → Prop} {f : Nat} {liE liN : Array Bool} (hF : Imp F Hs) (x : Nat) (hc : HProp) (tC : Thr c Q n all ks base EC [x] [] [] hc) (hliE : liN.setIfInBounds x true = liE)
    (fin : ∀ la ha lb hb lc hc, EA la ha → EB lb hb → EC lc hc → ∀ a w, AllS a n (la ++ (lb ++ (lc ++ base))) → SL c (ha • hb • hc • F) w → anyJ all (Qk Q ks) J (SL c Hs) f liE a w)
    (fin' : ∀ la ha lb hb, EA la ha → EB lb hb → ∀ a w, AllS a n (la ++ (lb ++ base)) → SL c (ha • hb • hc • F) w → anyJ all (Qk Q ks) J (SL c Hs) (f + 1) liN a w) :
    ∀ (m : Nat) (A B kA kB : List Nat) (va vb : List Value) (ha hb : HProp) (li : Array Bool), A.length + B.length = m → parOkc all x m li A B = true → setL li (A ++ B) = liN →
      Thr c Q n all ks base EA A kA va ha → Thr c Q n all ks base EB B kB vb hb → kA.length = va.length → kB.length = vb.length →
      ((A.map (dOf all) ++ kA) ++ ((B.map (dOf all) ++ kB) ++ (dOf all x :: base.map (·.1)))).Nodup →
      ∀ a w, AllS a n (sl kA va ++ (sl kB vb ++ base)) → SL c (ha • hb • hc • F) w → anyJ all (Qk Q ks) J (SL c Hs) (f + m + 1) li a w := by
  intro m
  induction m with
  | zero =>
    intro A B kA kB va vb ha hb li hm hok hli tA tB _ _ _ a w hf hs
    obtain rfl : A = [] := List.eq_nil_of_length_eq_zero (by omega)
    obtain rfl : B = [] := List.eq_nil_of_length_eq_zero (by omega)
    simp only [setL, List.append_nil] at hli
    subst hli
    exact fin' _ _ _ _ tA tB a w hf hs
  | succ m ih =>
    intro A B kA kB va vb ha hb li hm hok hli tA tB lA lB hnd a w hf hs
    simp only [parOkc, Bool.and_eq_true, Bool.not_eq_true', List.isEmpty_eq_false_iff, List.all_eq_true, Bool.or_eq_true] at hok
    obtain ⟨⟨⟨⟨hne, hall⟩, hA⟩, hB⟩, hC⟩ := hok
    refine ⟨fun h => absurd h hne, fun j hj => ?_⟩
    have hcon : (Region.ready .any all li).contains j = true := by simpa using hj
    rcases hall j hj with (h | h) | h
    · obtain ⟨A', rfl⟩ := headIs_spec h
      simp only [hcon, Bool.not_true] at hA
      simp only [List.length_cons] at hm
      refine par_step tA (sl kB vb) (hb • hc • F) ?_ lA (hf.sub ?_) hs (fun h1 => (Imp.right _ _).trans ((Imp.right _ _).trans ((Imp.right _ _).trans hF))) ?_
      · simp only [sl_fst _ _ lB]
        simp only [List.nodup_iff_count] at hnd ⊢
        intro x
        have := hnd x
        simp only [List.map_cons, List.count_append, List.count_cons] at this ⊢
        omega
      · intro p hp; simp only [List.mem_append] at hp ⊢; rcases hp with h | h | h <;> simp [h]
      · intro v h1 ht a' w' hf' hs'
        refine ih A' B (dOf all j :: kA) kB (v :: va) vb h1 hb _ (by omega) (by simpa using hA) ?_ ht tB (by simp [lA]) lB ?_ a' w' (hf'.sub ?_) hs'
        · rw [← hli]; rfl
        · simp only [List.nodup_iff_count] at hnd ⊢
          intro x
          have := hnd x
          simp only [List.map_cons, List.count_append, List.count_cons] at this ⊢
          omega
        · intro p hp; simp only [List.mem_append] at hp ⊢; rcases hp with h | h | h <;> simp [h]
    · obtain ⟨B', rfl⟩ := headIs_spec h
      simp only [hcon, Bool.not_true] at hB
      simp only [List.length_cons] at hm
      refine par_step tB (sl kA va) (ha • hc • F) ?_ lB (hf.sub ?_) (hs.imp (Imp.of_eq (by ac_rfl))) (fun h1 => (Imp.right _ _).trans ((Imp.right _ _).trans ((Imp.right _ _).trans hF))) ?_
      · simp only [sl_fst _ _ lA]
        simp only [List.nodup_iff_count] at hnd ⊢
        intro x
        have := hnd x
        simp only [List.map_cons, List.count_append, List.count_cons] at this ⊢
        omega
      · intro p hp; simp only [List.mem_append] at hp ⊢; rcases hp with h | h | h <;> simp [h]
      · intro v h1 ht a' w' hf' hs'
        refine ih A B' kA (dOf all j :: kB) va (v :: vb) ha h1 _ (by omega) (by simpa using hB) ?_ tA ht lA (by simp [lB]) ?_ a' w' (hf'.sub ?_) (hs'.imp (Imp.of_eq (by ac_rfl)))
        · rw [← hli]; simp only [setL_append, setL, setL_set]
        · simp only [List.nodup_iff_count] at hnd ⊢
          intro x
          have := hnd x
          simp only [List.map_cons, List.count_append, List.count_cons] at this ⊢
          omega
        · intro p hp; simp only [List.mem_append] at hp ⊢; rcases hp with h | h | h <;> simp [h]
    · have hxj := Nat.eq_of_beq_eq_true h
      subst hxj
      simp only [hcon] at hC
      refine par_step tC (sl kA va ++ sl kB vb) (ha • hb • F) ?_ rfl (hf.sub ?_) (hs.imp (Imp.of_eq (by ac_rfl))) (fun h1 => (Imp.right _ _).trans ((Imp.right _ _).trans ((Imp.right _ _).trans hF))) ?_
      · simp only [List.map_append, sl_fst _ _ lA, sl_fst _ _ lB]
        simp only [List.nodup_iff_count] at hnd ⊢
        intro x
        have := hnd x
        simp only [List.count_append, List.count_cons, List.count_nil] at this ⊢
        omega
      · intro p hp; simp only [sl, List.nil_append, List.mem_append] at hp ⊢; rcases hp with h | h | h <;> simp [h]
      · intro v h1 ht a' w' hf' hs'
        have := par_run (EC := EC) hF fin (m + 1) A B [] kA kB [dOf all x] va vb [v] ha hb h1 (li.setIfInBounds x true) (by simp; omega) (by simpa using hC) (by rw [List.append_nil, setL_set, hli, hliE]) tA tB ht lA lB rfl ?_ a' w' (hf'.sub ?_) (hs'.imp (Imp.of_eq (by ac_rfl)))
        · rw [show f + (m + 1) = f + m + 1 from rfl] at this; exact this
        · simp only [List.nodup_iff_count] at hnd ⊢
          intro x
          have := hnd x
          simp only [List.map_nil, List.count_append, List.count_cons, List.count_nil] at this ⊢
          omega
        · intro p hp; simp only [sl, List.mem_append, List.mem_cons, List.not_mem_nil, or_false] at hp ⊢; rcases hp with h | h | h | h <;> simp [h]
/-- Two sides, and one operation that may come at any time, also behind them. -/
theorem W.parc {l : List (Nat × Value)} {H : HProp} {li : Array Bool} {f m : Nat} (base : List (Nat × Value)) (hb : Sub l base) (A B : List Nat) (x : Nat) (ha hb' hc : HProp) (F : HProp) {EA EB EC : List (Nat × Value) → HProp → Prop}
    (hm : m = f + (A.length + B.length) + 1) (hok : parOkc all x (A.length + B.length) li A B = true) (hnd : nodupB (A.map (dOf all) ++ (B.map (dOf all) ++ (dOf all x :: base.map (·.1)))) = true) (hH : Imp H (ha • hb' • hc • F)) (hF : Imp F Hs)
    (tA : Thr c Q n all ks base EA A [] [] ha) (tB : Thr c Q n all ks base EB B [] [] hb') (tC : Thr c Q n all ks base EC [x] [] [] hc)
    (k : ∀ la ha lb hb lc hc, EA la ha → EB lb hb → EC lc hc → WS c Q n (.any J (SL c Hs) all f ((setL li (A ++ B)).setIfInBounds x true) ks) (la ++ (lb ++ (lc ++ base))) (ha • hb • hc • F))
    (k' : ∀ la ha lb hb, EA la ha → EB lb hb → WS c Q n (.any J (SL c Hs) all (f + 1) (setL li (A ++ B)) ks) (la ++ (lb ++ base)) (ha • hb • hc • F)) : WS c Q n (.any J (SL c Hs) all m li ks) l H := by
  intro a w hf hs
  rw [hm]
  have h1 := nodupB_spec _ hnd
  refine par_runc hF x hc tC rfl (fun la ha lb hb lc hc e1 e2 e3 a w hf hs => k la ha lb hb lc hc e1 e2 e3 a w hf.fr hs) (fun la ha lb hb e1 e2 a w hf hs => k' la ha lb hb e1 e2 a w hf.fr hs) _ A B [] [] [] [] ha hb' li rfl hok rfl tA tB rfl rfl ?_ a w (AllS.of (hf.sub hb) ?_) (hs.imp hH)
  · simpa using h1
  · have h2 : (base.map (·.1)).Sublist (A.map (dOf all) ++ (B.map (dOf all) ++ (dOf all x :: base.map (·.1)))) := ((List.sublist_cons_self _ _).trans (List.sublist_append_right _ _)).trans (List.sublist_append_right _ _)
    exact h1.sublist h2
/-- A step of control, but not into a block. -/
def cstepB (l : List (Nat × Value)) : Ctl → Option Ctl
  | .code (.block _ _) _ => none
  | s => cstep l s
theorem W.ctlb {l : List (Nat × Value)} {H : HProp} {s s' : Ctl} (h : cstepB l s = some s') (k : WS c Q n s' l H) : WS c Q n s l H := by
  refine W.ctl (s' := s') ?_ k
  unfold cstepB at h
  split at h
  · cases h
  · exact h
/-- A side without operations. -/
theorem Thr.nil : Thr c Q n all ks base (fun l h => l = [] ∧ h = emp) [] [] [] emp := ⟨rfl, rfl⟩
end
end Go.Proofs.YtbdhhedfplkidaaGreat
/- Lists in which some things are others. -/
namespace Go.Proofs.YtbdhhedfplkidaaGreat
open Go
open M (Str)
set_option maxHeartbeats 400000
set_option maxRecDepth 2000
section
variable {c : World} {Q : Exit → Act → World → Prop} {n : Nat} {l : List (Nat × Value)} {H R : HProp} {ks : List Kn}
variable {q q1 q2 : Md} {all : Array Oper} {o : Oper} {rest : List Oper} {d : Nat} {v : Value}
/-- xs[:j] of an owned slice -/
theorem W.sltk [hNL : NL q1 q2] {t e : TypeId} {x y : Operand} {z : Value} {s : Nat} {ag : Bool} {a : Option Nat} {m cp : Nat} {kd : IntKind} {i : Int} (hg : o.guard = none) (hd : o.dst = some d) (hn : Nat.blt d n = true) (ho : o.op = .slice t x none (some y) none) [ht : TD t (.slice e)] [ti : TI e z s ag]
    (hx : ev l x = some (sv a m cp)) (hy : ev l y = some (.int kd i)) (h0 : 0 ≤ i) (h1 : i ≤ cp)
    (k : WS c Q n (.ops q2 all rest ks) ((d, sv a i.toNat cp) :: l) H) : WS c Q n (.ops q1 all (o :: rest) ks) l H := by
  refine W.val hg hd hn (fun ac w hf _ => ?_) k
  by_cases hc : cp = 0
  · subst hc
    obtain rfl : i = 0 := by omega
    simp [execOp, ho, hf.eval hx, hf.eval hy, Instr.sliceAt, Instr.slice, run_underlying ht.eq, Instr.sliceBounds, Instr.sliceBound, asIntOf, ti.size]
  · cases a <;> simp [execOp, ho, hf.eval hx, hf.eval hy, Instr.sliceAt, Instr.slice, run_underlying ht.eq, Instr.sliceBounds, Instr.sliceBound, asIntOf, h0, h1, ti.size, hc, add_none]
/-- xs[i:] of an owned slice -/
theorem W.slfk [hNL : NL q1 q2] {t e : TypeId} {x y : Operand} {z : Value} {s : Nat} {ag : Bool} {a : Option Nat} {m cp : Nat} {kd : IntKind} {i : Int} (hg : o.guard = none) (hd : o.dst = some d) (hn : Nat.blt d n = true) (ho : o.op = .slice t x (some y) none none) [ht : TD t (.slice e)] [ti : TI e z s ag]
    (hx : ev l x = some (sv a m cp)) (hy : ev l y = some (.int kd i)) (h0 : 0 ≤ i) (h1 : i ≤ m)
    (k : WS c Q n (.ops q2 all rest ks) ((d, .slice (a.map fun g => ⟨g, if cp = i.toNat then 0 else i.toNat * s, none⟩) (m - i.toNat) (cp - i.toNat)) :: l) H) : WS c Q n (.ops q1 all (o :: rest) ks) l H := by
  refine W.val hg hd hn (fun ac w hf _ => ?_) k
  cases a with
  | none => simp [execOp, ho, hf.eval hx, hf.eval hy, Instr.sliceAt, Instr.slice, run_underlying ht.eq, Instr.sliceBounds, Instr.sliceBound, asIntOf, h0, h1, ti.size]
  | some g =>
    by_cases hc : cp = i.toNat
    · simp [execOp, ho, hf.eval hx, hf.eval hy, Instr.sliceAt, Instr.slice, run_underlying ht.eq, Instr.sliceBounds, Instr.sliceBound, asIntOf, h0, h1, ti.size, hc]
    · simp [execOp, ho, hf.eval hx, hf.eval hy, Instr.sliceAt, Instr.slice, run_underlying ht.eq, Instr.sliceBounds, Instr.sliceBound, asIntOf, h0, h1, ti.size, hc, add_none]
/-- What an owned slice says by itself. -/
theorem W.skf {s : Ctl} (a : Option Nat) (E : TypeId) {kk m cap : Nat} {xs : List Value} [hk : Sk H a E kk m cap xs R]
    (k : xs.length = m * kk → m ≤ cap → cap ≤ maxLen → (a = none → m = 0 ∧ cap = 0) → WS c Q n s l H) : WS c Q n s l H := by
  intro ac w hf hs
  have hs2 := hs
  rw [hk.eq] at hs2
  obtain ⟨h0, h1, h2, h3⟩ := hs2.skv
  refine k h0 h1 h2 (fun ha => ?_) ac w hf hs
  rcases h3 with ⟨_, hz, hc⟩ | ⟨g, sp, hb, _, _⟩
  · exact ⟨hz, hc⟩
  · rw [ha] at hb; cases hb
end
theorem reads_sk {F : HProp} {E : TypeId} {a n cap : Nat} {xs : List Value} {R : HProp} [hk : Sk F (some a) E 1 n cap xs R] (o k : Nat) : Reads F a o ((xs.drop o).take k) := by
  intro c w hs j u hj
  rw [hk.eq] at hs
  have h1 : xs[o + j]? = some u := by
    rw [List.getElem?_take] at hj
    split at hj
    · simpa using hj
    · cases hj
  have := hs.sk_cell (o + j) u h1
  simpa using this
/-- What a text of three parts is. -/
theorem laid_eq (xs more : List Value) (at' gone : Nat) : M.laid xs (at' : Int) gone more = xs.take (min at' xs.length) ++ more ++ xs.drop (min (min at' xs.length + gone) xs.length) := by
  simp only [M.laid]
  congr 2
  · congr 1; omega
  · congr 1; omega
theorem laid_map {α : Type} (f : α → Value) (xs more : List α) (at' gone : Int) : M.laid (xs.map f) at' gone (more.map f) = (M.laid xs at' gone more).map f := by
  simp [M.laid, List.map_take, List.map_drop]
theorem laid_u64 (a : Option Nat) (n cap : Nat) (xs : List Value) (at' gone : Nat) (mo : Part) (Mh : HProp) (hm : mo.ok Mh) (hmo : ∀ u ∈ mo.xs, u.oneCell' = true) (hml : mo.xs.length ≤ 8) (hxo : ∀ u ∈ xs, u.oneCell' = true) (hx : n ≤ 8192) (ha : at' ≤ 100000) (hg : gone ≤ 100000) :
    CS 113 [sv a n cap, int at', int gone, mo.v] (slck 1 35 (sv a n cap) n xs • Mh)
      fun v H' => ∃ a' cap', v = sv a' (M.laid xs at' gone mo.xs).length cap' ∧ H' = (slck 1 35 (sv a' (M.laid xs at' gone mo.xs).length cap') (M.laid xs at' gone mo.xs).length (M.laid xs at' gone mo.xs) • slck 1 35 (sv a n cap) n xs • Mh) := by
  refine CS.walk Tryz.func113 rfl Tryz.ntmps113 rfl fun c R => ?_
  simp only [sep_assoc']
  refine W.skf a 35 (fun f1 f2 f3 f4 => ?_)
  rw [Nat.mul_one] at f1
  (repeat (first | refine W.ctl rfl ?_ | refine W.op rfl rfl rfl rfl ?_ | refine W.skip rfl rfl ?_ | refine W.fld rfl rfl rfl rfl rfl ?_ | refine W.ld rfl rfl rfl rfl rfl ?_))
  refine W.len rfl rfl rfl rfl rfl ?_
  refine W.mn rfl rfl rfl rfl rfl rfl ?_
  rw [show (if (n : Int) < at' then (n : Int) else at') = ((min at' n : Nat) : Int) by split <;> omega]
  (repeat (first | refine W.ctl rfl ?_ | refine W.op rfl rfl rfl rfl ?_ | refine W.skip rfl rfl ?_ | refine W.fld rfl rfl rfl rfl rfl ?_ | refine W.ld rfl rfl rfl rfl rfl ?_))
  refine W.anyq (f := 3) (fun j => !Nat.beq j 13 && !Nat.beq j 14) [0, 1, 2, 3, 4, 5, 6, 7, 8, 9, 10, 11] (by kernel_rfl) (by kernel_rfl) (by kernel_rfl) (by kernel_rfl) rfl ?_
  (repeat (first | refine W.ctl rfl ?_ | refine W.op rfl rfl rfl rfl ?_ | refine W.skip rfl rfl ?_ | refine W.fld rfl rfl rfl rfl rfl ?_ | refine W.ld rfl rfl rfl rfl rfl ?_))
  refine W.sltk rfl rfl rfl rfl rfl rfl (by omega) (by omega) ?_
  (repeat (first | refine W.ctl rfl ?_ | refine W.op rfl rfl rfl rfl ?_ | refine W.skip rfl rfl ?_ | refine W.fld rfl rfl rfl rfl rfl ?_ | refine W.ld rfl rfl rfl rfl rfl ?_))
  refine W.ar (r := ((min at' n + gone : Nat) : Int)) rfl rfl rfl rfl rfl rfl rfl (wrap_i64 (by omega) (by omega)) ?_
  (repeat (first | refine W.ctl rfl ?_ | refine W.op rfl rfl rfl rfl ?_ | refine W.skip rfl rfl ?_ | refine W.fld rfl rfl rfl rfl rfl ?_ | refine W.ld rfl rfl rfl rfl rfl ?_))
  refine W.len rfl rfl rfl rfl rfl ?_
  refine W.mn rfl rfl rfl rfl rfl rfl ?_
  rw [show (if (n : Int) < ((min at' n + gone : Nat) : Int) then (n : Int) else ((min at' n + gone : Nat) : Int)) = ((min (min at' n + gone) n : Nat) : Int) by split <;> omega]
  refine W.slfk rfl rfl rfl rfl rfl rfl (by omega) (by omega) ?_
  obtain ⟨j, hj⟩ : ∃ j, min at' n = j := ⟨_, rfl⟩
  obtain ⟨k, hk⟩ : ∃ k, min (min at' n + gone) n = k := ⟨_, rfl⟩
  have hjn : j ≤ n := by omega
  have hkn : k ≤ n := by omega
  obtain ⟨ps, hps⟩ : ∃ ps : List Part, ps = [⟨a.map fun g => (g, 0), cap, xs.take j⟩, mo, ⟨a.map fun g => (g, if cap = k then 0 else k), cap - k, xs.drop k⟩] := ⟨_, rfl⟩
  have hl : M.laid xs at' gone mo.xs = (ps.map Part.xs).flatten := by
    rw [laid_eq, hps, f1, hj, ← hj, hk]; simp
  have hv : ps.map Part.v = [sv a j cap, mo.v, .slice (a.map fun g => ⟨g, if cap = k then 0 else k, none⟩) (n - k) (cap - k)] := by
    rw [hps]
    cases a <;> simp [Part.v, f1] <;> omega
  have hln : ps.length = 3 := by rw [hps]; rfl
  have hok : ∀ x ∈ ps, x.ok (slck 1 35 (sv a n cap) n xs • Mh • R) ∧ (∀ u ∈ x.xs, u.oneCell' = true) ∧ x.xs.length ≤ 8192 := by
    intro x hx
    rw [hps] at hx
    simp only [List.mem_cons, List.not_mem_nil, or_false] at hx
    rcases hx with rfl | rfl | rfl
    · refine ⟨?_, fun u hu => hxo u (List.mem_of_mem_take hu), by simp; omega⟩
      cases a with
      | none => left; dsimp only; obtain ⟨h, _⟩ := f4 rfl; rw [List.eq_nil_of_length_eq_zero (by omega : xs.length = 0)]; simp
      | some g => right; exact ⟨g, 0, rfl, by simpa using reads_sk (F := slck 1 35 (sv (some g) n cap) n xs • Mh • R) (E := 35) (xs := xs) 0 j⟩
    · refine ⟨?_, hmo, by omega⟩
      rcases hm with h | ⟨b, o, h1, h2⟩
      · exact .inl h
      · exact .inr ⟨b, o, h1, fun c w hs => h2 c w (hs.imp Imp.all)⟩
    · refine ⟨?_, fun u hu => hxo u (List.mem_of_mem_drop hu), by simp; omega⟩
      cases a with
      | none => left; dsimp only; obtain ⟨h, _⟩ := f4 rfl; rw [List.eq_nil_of_length_eq_zero (by omega : xs.length = 0)]; simp
      | some g =>
        by_cases hc : cap = k
        · left; dsimp only; exact List.drop_eq_nil_of_le (by omega)
        · right
          refine ⟨g, k, by simp [hc], ?_⟩
          have := reads_sk (a := g) (F := slck 1 35 (sv (some g) n cap) n xs • Mh • R) (E := 35) (xs := xs) k (xs.drop k).length
          rwa [List.take_length] at this
  refine W.tdn ?_
  refine W.ald1 12 (by kernel_rfl) rfl ?_
  refine W.bsl (h1 := ⟨fun u hu => by obtain ⟨p, _, rfl⟩ := List.mem_map.1 hu; rfl⟩) (vs := ps.map Part.v) rfl rfl rfl rfl (by rw [hv]; simp only [Int.toNat_natCast, Nat.mul_one, ← hj, ← hk]; exact ⟨rfl, rfl, rfl, rfl, rfl, rfl, trivial⟩) (by rw [List.length_map, hln]) rfl rfl fun g => ?_
  refine W.aft Imp.all ?_
  refine W.ald1 13 (by kernel_rfl) rfl ?_
  have hcc := concat_u64 (slck 1 35 (sv a n cap) n xs • Mh • R) g ps hok (by omega)
  rw [hln] at hcc
  rw [hl]
  refine W.call hcc rfl rfl rfl rfl Tryz.call151 ⟨rfl, trivial⟩ ?_
  rintro _ _ ⟨a', cap', rfl, rfl⟩
  simp only [sep_assoc']
  refine W.afb ?_
  refine W.ald1 14 (by kernel_rfl) rfl ?_
  (repeat (first | refine W.ctl rfl ?_ | refine W.op rfl rfl rfl rfl ?_ | refine W.skip rfl rfl ?_ | refine W.fld rfl rfl rfl rfl rfl ?_ | refine W.ld rfl rfl rfl rfl rfl ?_))
  refine W.afb (W.adn (by kernel_rfl) ?_)
  (repeat (first | refine W.ctl rfl ?_ | refine W.op rfl rfl rfl rfl ?_ | refine W.skip rfl rfl ?_ | refine W.fld rfl rfl rfl rfl rfl ?_ | refine W.ld rfl rfl rfl rfl rfl ?_))
  exact W.ret1 (.inr rfl) rfl rfl _ ⟨a', cap', rfl, rfl⟩ Imp.all
theorem laid_str (a : Option Nat) (n cap : Nat) (xs : List Value) (at' gone : Nat) (mo : Part) (Mh : HProp) (hm : mo.ok Mh) (hmo : ∀ u ∈ mo.xs, u.oneCell' = true) (hml : mo.xs.length ≤ 8) (hxo : ∀ u ∈ xs, u.oneCell' = true) (hx : n ≤ 8192) (ha : at' ≤ 100000) (hg : gone ≤ 100000) :
    CS 114 [sv a n cap, int at', int gone, mo.v] (slck 1 9 (sv a n cap) n xs • Mh)
      fun v H' => ∃ a' cap', v = sv a' (M.laid xs at' gone mo.xs).length cap' ∧ H' = (slck 1 9 (sv a' (M.laid xs at' gone mo.xs).length cap') (M.laid xs at' gone mo.xs).length (M.laid xs at' gone mo.xs) • slck 1 9 (sv a n cap) n xs • Mh) := by
  refine CS.walk Tryz.func114 rfl Tryz.ntmps114 rfl fun c R => ?_
  simp only [sep_assoc']
  refine W.skf a 9 (fun f1 f2 f3 f4 => ?_)
  rw [Nat.mul_one] at f1
  (repeat (first | refine W.ctl rfl ?_ | refine W.op rfl rfl rfl rfl ?_ | refine W.skip rfl rfl ?_ | refine W.fld rfl rfl rfl rfl rfl ?_ | refine W.ld rfl rfl rfl rfl rfl ?_))
  refine W.len rfl rfl rfl rfl rfl ?_
  refine W.mn rfl rfl rfl rfl rfl rfl ?_
  rw [show (if (n : Int) < at' then (n : Int) else at') = ((min at' n : Nat) : Int) by split <;> omega]
  (repeat (first | refine W.ctl rfl ?_ | refine W.op rfl rfl rfl rfl ?_ | refine W.skip rfl rfl ?_ | refine W.fld rfl rfl rfl rfl rfl ?_ | refine W.ld rfl rfl rfl rfl rfl ?_))
  refine W.anyq (f := 3) (fun j => !Nat.beq j 13 && !Nat.beq j 14) [0, 1, 2, 3, 4, 5, 6, 7, 8, 9, 10, 11] (by kernel_rfl) (by kernel_rfl) (by kernel_rfl) (by kernel_rfl) rfl ?_
  (repeat (first | refine W.ctl rfl ?_ | refine W.op rfl rfl rfl rfl ?_ | refine W.skip rfl rfl ?_ | refine W.fld rfl rfl rfl rfl rfl ?_ | refine W.ld rfl rfl rfl rfl rfl ?_))
  refine W.sltk rfl rfl rfl rfl rfl rfl (by omega) (by omega) ?_
  (repeat (first | refine W.ctl rfl ?_ | refine W.op rfl rfl rfl rfl ?_ | refine W.skip rfl rfl ?_ | refine W.fld rfl rfl rfl rfl rfl ?_ | refine W.ld rfl rfl rfl rfl rfl ?_))
  refine W.ar (r := ((min at' n + gone : Nat) : Int)) rfl rfl rfl rfl rfl rfl rfl (wrap_i64 (by omega) (by omega)) ?_
  (repeat (first | refine W.ctl rfl ?_ | refine W.op rfl rfl rfl rfl ?_ | refine W.skip rfl rfl ?_ | refine W.fld rfl rfl rfl rfl rfl ?_ | refine W.ld rfl rfl rfl rfl rfl ?_))
  refine W.len rfl rfl rfl rfl rfl ?_
  refine W.mn rfl rfl rfl rfl rfl rfl ?_
  rw [show (if (n : Int) < ((min at' n + gone : Nat) : Int) then (n : Int) else ((min at' n + gone : Nat) : Int)) = ((min (min at' n + gone) n : Nat) : Int) by split <;> omega]
  refine W.slfk rfl rfl rfl rfl rfl rfl (by omega) (by omega) ?_
  obtain ⟨j, hj⟩ : ∃ j, min at' n = j := ⟨_, rfl⟩
  obtain ⟨k, hk⟩ : ∃ k, min (min at' n + gone) n = k := ⟨_, rfl⟩
  have hjn : j ≤ n := by omega
  have hkn : k ≤ n := by omega
  obtain ⟨ps, hps⟩ : ∃ ps : List Part, ps = [⟨a.map fun g => (g, 0), cap, xs.take j⟩, mo, ⟨a.map fun g => (g, if cap = k then 0 else k), cap - k, xs.drop k⟩] := ⟨_, rfl⟩
  have hl : M.laid xs at' gone mo.xs = (ps.map Part.xs).flatten := by
    rw [laid_eq, hps, f1, hj, ← hj, hk]; simp
  have hv : ps.map Part.v = [sv a j cap, mo.v, .slice (a.map fun g => ⟨g, if cap = k then 0 else k, none⟩) (n - k) (cap - k)] := by
    rw [hps]
    cases a <;> simp [Part.v, f1] <;> omega
  have hln : ps.length = 3 := by rw [hps]; rfl
  have hok : ∀ x ∈ ps, x.ok (slck 1 9 (sv a n cap) n xs • Mh • R) ∧ (∀ u ∈ x.xs, u.oneCell' = true) ∧ x.xs.length ≤ 8192 := by
    intro x hx
    rw [hps] at hx
    simp only [List.mem_cons, List.not_mem_nil, or_false] at hx
    rcases hx with rfl | rfl | rfl
    · refine ⟨?_, fun u hu => hxo u (List.mem_of_mem_take hu), by simp; omega⟩
      cases a with
      | none => left; dsimp only; obtain ⟨h, _⟩ := f4 rfl; rw [List.eq_nil_of_length_eq_zero (by omega : xs.length = 0)]; simp
      | some g => right; exact ⟨g, 0, rfl, by simpa using reads_sk (F := slck 1 9 (sv (some g) n cap) n xs • Mh • R) (E := 9) (xs := xs) 0 j⟩
    · refine ⟨?_, hmo, by omega⟩
      rcases hm with h | ⟨b, o, h1, h2⟩
      · exact .inl h
      · exact .inr ⟨b, o, h1, fun c w hs => h2 c w (hs.imp Imp.all)⟩
    · refine ⟨?_, fun u hu => hxo u (List.mem_of_mem_drop hu), by simp; omega⟩
      cases a with
      | none => left; dsimp only; obtain ⟨h, _⟩ := f4 rfl; rw [List.eq_nil_of_length_eq_zero (by omega : xs.length = 0)]; simp
      | some g =>
        by_cases hc : cap = k
        · left; dsimp only; exact List.drop_eq_nil_of_le (by omega)
        · right
          refine ⟨g, k, by simp [hc], ?_⟩
          have := reads_sk (a := g) (F := slck 1 9 (sv (some g) n cap) n xs • Mh • R) (E := 9) (xs := xs) k (xs.drop k).length
          rwa [List.take_length] at this
  refine W.tdn ?_
  refine W.ald1 12 (by kernel_rfl) rfl ?_
  refine W.bsl (h1 := ⟨fun u hu => by obtain ⟨p, _, rfl⟩ := List.mem_map.1 hu; rfl⟩) (vs := ps.map Part.v) rfl rfl rfl rfl (by rw [hv]; simp only [Int.toNat_natCast, Nat.mul_one, ← hj, ← hk]; exact ⟨rfl, rfl, rfl, rfl, rfl, rfl, trivial⟩) (by rw [List.length_map, hln]) rfl rfl fun g => ?_
  refine W.aft Imp.all ?_
  refine W.ald1 13 (by kernel_rfl) rfl ?_
  have hcc := concat_str (slck 1 9 (sv a n cap) n xs • Mh • R) g ps hok (by omega)
  rw [hln] at hcc
  rw [hl]
  refine W.call hcc rfl rfl rfl rfl Tryz.call152 ⟨rfl, trivial⟩ ?_
  rintro _ _ ⟨a', cap', rfl, rfl⟩
  simp only [sep_assoc']
  refine W.afb ?_
  refine W.ald1 14 (by kernel_rfl) rfl ?_
  (repeat (first | refine W.ctl rfl ?_ | refine W.op rfl rfl rfl rfl ?_ | refine W.skip rfl rfl ?_ | refine W.fld rfl rfl rfl rfl rfl ?_ | refine W.ld rfl rfl rfl rfl rfl ?_))
  refine W.afb (W.adn (by kernel_rfl) ?_)
  (repeat (first | refine W.ctl rfl ?_ | refine W.op rfl rfl rfl rfl ?_ | refine W.skip rfl rfl ?_ | refine W.fld rfl rfl rfl rfl rfl ?_ | refine W.ld rfl rfl rfl rfl rfl ?_))
  exact W.ret1 (.inr rfl) rfl rfl _ ⟨a', cap', rfl, rfl⟩ Imp.all
theorem laid_int (a : Option Nat) (n cap : Nat) (xs : List Value) (at' gone : Nat) (mo : Part) (Mh : HProp) (hm : mo.ok Mh) (hmo : ∀ u ∈ mo.xs, u.oneCell' = true) (hml : mo.xs.length ≤ 8) (hxo : ∀ u ∈ xs, u.oneCell' = true) (hx : n ≤ 8192) (ha : at' ≤ 100000) (hg : gone ≤ 100000) :
    CS 116 [sv a n cap, int at', int gone, mo.v] (slck 1 3 (sv a n cap) n xs • Mh)
      fun v H' => ∃ a' cap', v = sv a' (M.laid xs at' gone mo.xs).length cap' ∧ H' = (slck 1 3 (sv a' (M.laid xs at' gone mo.xs).length cap') (M.laid xs at' gone mo.xs).length (M.laid xs at' gone mo.xs) • slck 1 3 (sv a n cap) n xs • Mh) := by
  refine CS.walk Tryz.func116 rfl Tryz.ntmps116 rfl fun c R => ?_
  simp only [sep_assoc']
  refine W.skf a 3 (fun f1 f2 f3 f4 => ?_)
  rw [Nat.mul_one] at f1
  (repeat (first | refine W.ctl rfl ?_ | refine W.op rfl rfl rfl rfl ?_ | refine W.skip rfl rfl ?_ | refine W.fld rfl rfl rfl rfl rfl ?_ | refine W.ld rfl rfl rfl rfl rfl ?_))
  refine W.len rfl rfl rfl rfl rfl ?_
  refine W.mn rfl rfl rfl rfl rfl rfl ?_
  rw [show (if (n : Int) < at' then (n : Int) else at') = ((min at' n : Nat) : Int) by split <;> omega]
  (repeat (first | refine W.ctl rfl ?_ | refine W.op rfl rfl rfl rfl ?_ | refine W.skip rfl rfl ?_ | refine W.fld rfl rfl rfl rfl rfl ?_ | refine W.ld rfl rfl rfl rfl rfl ?_))
  refine W.anyq (f := 3) (fun j => !Nat.beq j 13 && !Nat.beq j 14) [0, 1, 2, 3, 4, 5, 6, 7, 8, 9, 10, 11] (by kernel_rfl) (by kernel_rfl) (by kernel_rfl) (by kernel_rfl) rfl ?_
  (repeat (first | refine W.ctl rfl ?_ | refine W.op rfl rfl rfl rfl ?_ | refine W.skip rfl rfl ?_ | refine W.fld rfl rfl rfl rfl rfl ?_ | refine W.ld rfl rfl rfl rfl rfl ?_))
  refine W.sltk rfl rfl rfl rfl rfl rfl (by omega) (by omega) ?_
  (repeat (first | refine W.ctl rfl ?_ | refine W.op rfl rfl rfl rfl ?_ | refine W.skip rfl rfl ?_ | refine W.fld rfl rfl rfl rfl rfl ?_ | refine W.ld rfl rfl rfl rfl rfl ?_))
  refine W.ar (r := ((min at' n + gone : Nat) : Int)) rfl rfl rfl rfl rfl rfl rfl (wrap_i64 (by omega) (by omega)) ?_
  (repeat (first | refine W.ctl rfl ?_ | refine W.op rfl rfl rfl rfl ?_ | refine W.skip rfl rfl ?_ | refine W.fld rfl rfl rfl rfl rfl ?_ | refine W.ld rfl rfl rfl rfl rfl ?_))
  refine W.len rfl rfl rfl rfl rfl ?_
  refine W.mn rfl rfl rfl rfl rfl rfl ?_
  rw [show (if (n : Int) < ((min at' n + gone : Nat) : Int) then (n : Int) else ((min at' n + gone : Nat) : Int)) = ((min (min at' n + gone) n : Nat) : Int) by split <;> omega]
  refine W.slfk rfl rfl rfl rfl rfl rfl (by omega) (by omega) ?_
  obtain ⟨j, hj⟩ : ∃ j, min at' n = j := ⟨_, rfl⟩
  obtain ⟨k, hk⟩ : ∃ k, min (min at' n + gone) n = k := ⟨_, rfl⟩
  have hjn : j ≤ n := by omega
  have hkn : k ≤ n := by omega
  obtain ⟨ps, hps⟩ : ∃ ps : List Part, ps = [⟨a.map fun g => (g, 0), cap, xs.take j⟩, mo, ⟨a.map fun g => (g, if cap = k then 0 else k), cap - k, xs.drop k⟩] := ⟨_, rfl⟩
  have hl : M.laid xs at' gone mo.xs = (ps.map Part.xs).flatten := by
    rw [laid_eq, hps, f1, hj, ← hj, hk]; simp
  have hv : ps.map Part.v = [sv a j cap, mo.v, .slice (a.map fun g => ⟨g, if cap = k then 0 else k, none⟩) (n - k) (cap - k)] := by
    rw [hps]
    cases a <;> simp [Part.v, f1] <;> omega
  have hln : ps.length = 3 := by rw [hps]; rfl
  have hok : ∀ x ∈ ps, x.ok (slck 1 3 (sv a n cap) n xs • Mh • R) ∧ (∀ u ∈ x.xs, u.oneCell' = true) ∧ x.xs.length ≤ 8192 := by
    intro x hx
    rw [hps] at hx
    simp only [List.mem_cons, List.not_mem_nil, or_false] at hx
    rcases hx with rfl | rfl | rfl
    · refine ⟨?_, fun u hu => hxo u (List.mem_of_mem_take hu), by simp; omega⟩
      cases a with
      | none => left; dsimp only; obtain ⟨h, _⟩ := f4 rfl; rw [List.eq_nil_of_length_eq_zero (by omega : xs.length = 0)]; simp
      | some g => right; exact ⟨g, 0, rfl, by simpa using reads_sk (F := slck 1 3 (sv (some g) n cap) n xs • Mh • R) (E := 3) (xs := xs) 0 j⟩
    · refine ⟨?_, hmo, by omega⟩
      rcases hm with h | ⟨b, o, h1, h2⟩
      · exact .inl h
      · exact .inr ⟨b, o, h1, fun c w hs => h2 c w (hs.imp Imp.all)⟩
    · refine ⟨?_, fun u hu => hxo u (List.mem_of_mem_drop hu), by simp; omega⟩
      cases a with
      | none => left; dsimp only; obtain ⟨h, _⟩ := f4 rfl; rw [List.eq_nil_of_length_eq_zero (by omega : xs.length = 0)]; simp
      | some g =>
        by_cases hc : cap = k
        · left; dsimp only; exact List.drop_eq_nil_of_le (by omega)
        · right
          refine ⟨g, k, by simp [hc], ?_⟩
          have := reads_sk (a := g) (F := slck 1 3 (sv (some g) n cap) n xs • Mh • R) (E := 3) (xs := xs) k (xs.drop k).length
          rwa [List.take_length] at this
  refine W.tdn ?_
  refine W.ald1 12 (by kernel_rfl) rfl ?_
  refine W.bsl (h1 := ⟨fun u hu => by obtain ⟨p, _, rfl⟩ := List.mem_map.1 hu; rfl⟩) (vs := ps.map Part.v) rfl rfl rfl rfl (by rw [hv]; simp only [Int.toNat_natCast, Nat.mul_one, ← hj, ← hk]; exact ⟨rfl, rfl, rfl, rfl, rfl, rfl, trivial⟩) (by rw [List.length_map, hln]) rfl rfl fun g => ?_
  refine W.aft Imp.all ?_
  refine W.ald1 13 (by kernel_rfl) rfl ?_
  have hcc := concat_int (slck 1 3 (sv a n cap) n xs • Mh • R) g ps hok (by omega)
  rw [hln] at hcc
  rw [hl]
  refine W.call hcc rfl rfl rfl rfl Tryz.call153 ⟨rfl, trivial⟩ ?_
  rintro _ _ ⟨a', cap', rfl, rfl⟩
  simp only [sep_assoc']
  refine W.afb ?_
  refine W.ald1 14 (by kernel_rfl) rfl ?_
  (repeat (first | refine W.ctl rfl ?_ | refine W.op rfl rfl rfl rfl ?_ | refine W.skip rfl rfl ?_ | refine W.fld rfl rfl rfl rfl rfl ?_ | refine W.ld rfl rfl rfl rfl rfl ?_))
  refine W.afb (W.adn (by kernel_rfl) ?_)
  (repeat (first | refine W.ctl rfl ?_ | refine W.op rfl rfl rfl rfl ?_ | refine W.skip rfl rfl ?_ | refine W.fld rfl rfl rfl rfl rfl ?_ | refine W.ld rfl rfl rfl rfl rfl ?_))
  exact W.ret1 (.inr rfl) rfl rfl _ ⟨a', cap', rfl, rfl⟩ Imp.all
end Go.Proofs.YtbdhhedfplkidaaGreat
/- Nodes changed. -/
namespace Go.Proofs.YtbdhhedfplkidaaGreat
open Go
open M (Str)
set_option maxHeartbeats 400000
set_option maxRecDepth 2000
theorem map_ones {α : Type} (f : α → Value) (h : ∀ x, (f x).oneCell' = true) (xs : List α) : ∀ u ∈ xs.map f, u.oneCell' = true := fun u hu => by
  obtain ⟨x, _, rfl⟩ := List.mem_map.1 hu; exact h x
/-- One thing more, as a part. -/
theorem Part.one (g : Nat) (E : TypeId) (v : Value) : Part.ok (row g E [v]) ⟨some (g, 0), 1, [v]⟩ := by
  refine .inr ⟨g, 0, rfl, fun c w hs j u hj => ?_⟩
  rw [← sep_emp' (row g E [v])] at hs
  rw [hs.rcell]; simpa using hj
theorem Part.none (F : HProp) : Part.ok F ⟨none, 0, []⟩ := .inl rfl
theorem nput_leaf {N : M.Node} (hl : N.leaf = true) (key : Nat) (value : Str) : M.nput N key value = ⟨true, M.laid N.keys (M.place N.keys key).1 (if (M.place N.keys key).2 then 1 else 0 : Nat) [key], M.laid N.vals (M.place N.keys key).1 (if (M.place N.keys key).2 then 1 else 0 : Nat) [value], []⟩ := by
  rw [M.nput, if_neg (by simp [hl])]
  dsimp only
  split <;> rfl
theorem node_Put (N : M.Node) (x : NP) (key : Nat) (value : Str) (hN : NB N) (hl : N.leaf = true) : CS 63 [nodeV N x, u64 key, str value] (NodeH N x)
    fun v H' => ∃ y, v = nodeV (M.nput N key value) y ∧ H' = NodeH (M.nput N key value) y := by
  have hk := hN.keys
  have hv := hN.vals
  have hp := place_le N.keys key
  have hrw := nput_leaf hl key value
  obtain ⟨N', hN'⟩ : ∃ N', M.nput N key value = N' := ⟨_, rfl⟩
  rw [hN'] at hrw ⊢
  obtain ⟨gone, hgone⟩ : ∃ g : Nat, (if (M.place N.keys key).2 then 1 else 0 : Nat) = g := ⟨_, rfl⟩
  rw [hgone] at hrw
  have hg1 : gone ≤ 1 := by rw [← hgone]; split <;> omega
  obtain ⟨pl, hpl⟩ : ∃ p, (M.place N.keys key).1 = p := ⟨_, rfl⟩
  rw [hpl] at hrw hp
  have e1 : M.laid (N.keys.map u64) pl gone [u64 key] = N'.keys.map u64 := by rw [hrw]; exact laid_map u64 N.keys [key] pl gone
  have e2 : M.laid (N.vals.map str) pl gone [str value] = N'.vals.map str := by rw [hrw]; exact laid_map str N.vals [value] pl gone
  refine CS.walk Tryz.func63 rfl Tryz.ntmps63 rfl fun c R => ?_
  simp only [NodeH, NodeB, sep_assoc', emp_sep]
  (repeat (first | refine W.ctl rfl ?_ | refine W.op rfl rfl rfl rfl ?_ | refine W.skip rfl rfl ?_ | refine W.fld rfl rfl rfl rfl rfl ?_ | refine W.ld rfl rfl rfl rfl rfl ?_))
  refine W.box rfl rfl rfl rfl rfl fun nb => ?_
  refine W.alc rfl rfl rfl rfl fun res => ?_
  rw [hl]
  (repeat (first | refine W.ctl rfl ?_ | refine W.op rfl rfl rfl rfl ?_ | refine W.skip rfl rfl ?_ | refine W.fld rfl rfl rfl rfl rfl ?_ | refine W.ld rfl rfl rfl rfl rfl ?_))
  refine W.call (node_place x.ka x.kc N.keys key hk) rfl rfl rfl rfl Tryz.call112 ⟨rfl, rfl, trivial⟩ ?_
  rintro _ _ ⟨rfl, rfl⟩
  rw [hpl]
  (repeat (first | refine W.ctl rfl ?_ | refine W.op rfl rfl rfl rfl ?_ | refine W.skip rfl rfl ?_ | refine W.fld rfl rfl rfl rfl rfl ?_ | refine W.ld rfl rfl rfl rfl rfl ?_))
  refine W.join (σ := Unit) (fun _ => True) (fun _ => [(1, u64 key), (2, str value), (3, ptr nb), (6, ptr res), (7, int pl), (9, int gone)]) (fun _ => row nb 114 [Value.bool true, sv x.ka N.keys.length x.kc, sv x.va N.vals.length x.vc, sv x.da N.kids.length x.dc] • row res 114 [.bool false, .slice none 0 0, .slice none 0 0, .slice none 0 0] • NodeB N x R) ?_ fun _ _ => ?_
  · refine W.case 21 rfl (fun hb => ?_) (fun hb => ?_)
    · rw [hb] at hgone
      (repeat (first | refine W.ctl rfl ?_ | refine W.op rfl rfl rfl rfl ?_ | refine W.skip rfl rfl ?_ | refine W.fld rfl rfl rfl rfl rfl ?_ | refine W.ld rfl rfl rfl rfl rfl ?_))
      exact W.meet () trivial ⟨rfl, rfl, rfl, rfl, rfl, by rw [← hgone]; rfl, trivial⟩ Imp.all
    · rw [hb] at hgone
      (repeat (first | refine W.ctl rfl ?_ | refine W.op rfl rfl rfl rfl ?_ | refine W.skip rfl rfl ?_ | refine W.fld rfl rfl rfl rfl rfl ?_ | refine W.ld rfl rfl rfl rfl rfl ?_))
      exact W.meet () trivial ⟨rfl, rfl, rfl, rfl, rfl, by rw [← hgone]; rfl, trivial⟩ Imp.all
  (repeat (first | refine W.ctl rfl ?_ | refine W.op rfl rfl rfl rfl ?_ | refine W.skip rfl rfl ?_ | refine W.fld rfl rfl rfl rfl rfl ?_ | refine W.ld rfl rfl rfl rfl rfl ?_))
  refine W.anyh (f := 6) (fun _ => true) [0, 1, 2, 3, 4, 7, 8, 9, 10, 11] (by kernel_rfl) (by kernel_rfl) (by kernel_rfl) (by kernel_rfl) rfl (row nb 114 [Value.bool true, sv x.ka N.keys.length x.kc, sv x.va N.vals.length x.vc, sv x.da N.kids.length x.dc]) Imp.all ?_
  (repeat (first | refine W.ctl rfl ?_ | refine W.op rfl rfl rfl rfl ?_ | refine W.skip rfl rfl ?_ | refine W.fld rfl rfl rfl rfl rfl ?_ | refine W.ld rfl rfl rfl rfl rfl ?_))
  refine W.tdn ?_
  refine W.par (f := 2) [(3, ptr nb), (6, ptr res), (23, sv x.ka N.keys.length x.kc), (24, int pl), (25, int gone), (26, u64 key), (30, sv x.va N.vals.length x.vc), (31, int pl), (32, int gone), (33, str value)] ⟨rfl, rfl, rfl, rfl, rfl, rfl, rfl, rfl, rfl, rfl, trivial⟩ [5, 6] [12, 13] []
    (slck 1 35 (sv x.ka N.keys.length x.kc) N.keys.length (N.keys.map u64)) (slck 1 9 (sv x.va N.vals.length x.vc) N.vals.length (N.vals.map str)) emp
    (row nb 114 [Value.bool true, sv x.ka N.keys.length x.kc, sv x.va N.vals.length x.vc, sv x.da N.kids.length x.dc] • row res 114 [.bool false, .slice none 0 0, .slice none 0 0, .slice none 0 0] • R)
    (EA := fun l h => ∃ a' c' g, l = [(28, sv a' N'.keys.length c'), (27, g)] ∧ h = slck 1 35 (sv a' N'.keys.length c') N'.keys.length (N'.keys.map u64))
    (EB := fun l h => ∃ a' c' g, l = [(35, sv a' N'.vals.length c'), (34, g)] ∧ h = slck 1 9 (sv a' N'.vals.length c') N'.vals.length (N'.vals.map str))
    (by rfl) (by kernel_rfl) (by kernel_rfl) (by rw [emp_sep]; exact Imp.all) Imp.all ?_ ?_ Thr.nil ?_
  · refine ⟨_, _, rfl, rfl, fun b J S f li lx F k => ?_⟩
    refine W.bsl (vs := [_]) rfl rfl rfl rfl ⟨rfl, rfl, trivial⟩ rfl rfl rfl fun g => ?_
    refine W.eq (sep_assoc' _ _ _).symm (k _ _ ?_)
    refine ⟨_, _, rfl, rfl, fun b J S f li lx F k => ?_⟩
    have hc := laid_u64 x.ka N.keys.length x.kc (N.keys.map u64) pl gone ⟨some (g, 0), 1, [u64 key]⟩ (row g 35 [u64 key]) (Part.one _ _ _) (map_ones u64 (fun _ => rfl) [key]) (by simp) (map_ones u64 (fun _ => rfl) _) (by omega) (by omega) (by omega)
    dsimp only at hc
    rw [e1, List.length_map] at hc
    refine W.eq (sep_assoc' _ _ _) ?_
    refine W.call hc rfl rfl rfl rfl Tryz.call113 ⟨rfl, rfl, rfl, rfl, trivial⟩ ?_
    rintro _ _ ⟨a', c', rfl, rfl⟩
    exact W.imp rfl (by simp only [sep_assoc']; exact Imp.all) (k _ _ ⟨a', c', _, rfl, rfl⟩)
  · refine ⟨_, _, rfl, rfl, fun b J S f li lx F k => ?_⟩
    refine W.bsl (vs := [_]) rfl rfl rfl rfl ⟨rfl, rfl, trivial⟩ rfl rfl rfl fun g => ?_
    refine W.eq (sep_assoc' _ _ _).symm (k _ _ ?_)
    refine ⟨_, _, rfl, rfl, fun b J S f li lx F k => ?_⟩
    have hc := laid_str x.va N.vals.length x.vc (N.vals.map str) pl gone ⟨some (g, 0), 1, [str value]⟩ (row g 9 [str value]) (Part.one _ _ _) (map_ones str (fun _ => rfl) [value]) (by simp) (map_ones str (fun _ => rfl) _) (by omega) (by omega) (by omega)
    dsimp only at hc
    rw [e2, List.length_map] at hc
    refine W.eq (sep_assoc' _ _ _) ?_
    refine W.call hc rfl rfl rfl rfl Tryz.call114 ⟨rfl, rfl, rfl, rfl, trivial⟩ ?_
    rintro _ _ ⟨a', c', rfl, rfl⟩
    exact W.imp rfl (by simp only [sep_assoc']; exact Imp.all) (k _ _ ⟨a', c', _, rfl, rfl⟩)
  · rintro _ _ _ _ _ _ ⟨a', c', g, rfl, rfl⟩ ⟨b', d', g', rfl, rfl⟩ ⟨rfl, rfl⟩
    simp only [emp_sep]
    refine W.ald1 14 (by kernel_rfl) rfl ?_
    refine W.bld rfl rfl rfl rfl rfl ?_
    refine W.aft Imp.all ?_
    refine W.ald1 15 (by kernel_rfl) rfl ?_
    refine W.sts rfl rfl rfl rfl rfl rfl ?_
    refine W.aft Imp.all (W.adn (by kernel_rfl) ?_)
    (repeat (first | refine W.ctl rfl ?_ | refine W.op rfl rfl rfl rfl ?_ | refine W.skip rfl rfl ?_ | refine W.fld rfl rfl rfl rfl rfl ?_ | refine W.ld rfl rfl rfl rfl rfl ?_))
    have e3 : nodeV N' ⟨a', c', b', d', none, 0⟩ = .agg #[.bool true, sv a' N'.keys.length c', sv b' N'.vals.length d', .slice none 0 0] := by rw [hrw]; rfl
    refine W.rets (.inr rfl) rfl (.cons (RV1.cells rfl) .nil) _ ⟨⟨a', c', b', d', none, 0⟩, e3.symm, rfl⟩ ?_
    have e4 : N'.kids = [] := by rw [hrw]
    simp only [e4, List.length_nil, List.map_nil, skv_nil, sep_emp', sep_assoc']
    exact Imp.all
theorem node_Hang (N : M.Node) (x : NP) (i : Nat) (key : Nat) (kid : Int) (hN : NB N) (hl : N.leaf = false) (hi : i ≤ N.keys.length) : CS 67 [nodeV N x, int i, u64 key, int kid] (NodeH N x)
    fun v H' => ∃ y, v = nodeV (M.nhang N i key kid) y ∧ H' = NodeH (M.nhang N i key kid) y := by
  have hk := hN.keys
  have hd := hN.kids
  have hrw : M.nhang N i key kid = ⟨false, M.laid N.keys i (0 : Nat) [key], [], M.laid N.kids (i + 1 : Nat) (0 : Nat) [kid]⟩ := by
    rw [M.nhang, if_neg (by simp [hl]; omega)]; rfl
  obtain ⟨N', hN'⟩ : ∃ N', M.nhang N i key kid = N' := ⟨_, rfl⟩
  rw [hN'] at hrw ⊢
  have e1 : M.laid (N.keys.map u64) i (0 : Nat) [u64 key] = N'.keys.map u64 := by rw [hrw]; exact laid_map u64 N.keys [key] i 0
  have e2 : M.laid (N.kids.map int) (i + 1 : Nat) (0 : Nat) [int kid] = N'.kids.map int := by rw [hrw]; exact laid_map int N.kids [kid] _ _
  refine CS.walk Tryz.func67 rfl Tryz.ntmps67 rfl fun c R => ?_
  simp only [NodeH, NodeB, sep_assoc', emp_sep]
  (repeat (first | refine W.ctl rfl ?_ | refine W.op rfl rfl rfl rfl ?_ | refine W.skip rfl rfl ?_ | refine W.fld rfl rfl rfl rfl rfl ?_ | refine W.ld rfl rfl rfl rfl rfl ?_))
  refine W.box rfl rfl rfl rfl rfl fun nb => ?_
  refine W.alc rfl rfl rfl rfl fun res => ?_
  rw [hl]
  (repeat (first | refine W.ctl rfl ?_ | refine W.op rfl rfl rfl rfl ?_ | refine W.skip rfl rfl ?_ | refine W.fld rfl rfl rfl rfl rfl ?_ | refine W.ld rfl rfl rfl rfl rfl ?_))
  refine W.no rfl rfl rfl rfl (by omega : ¬ (i : Int) < 0) ?_
  (repeat (first | refine W.ctl rfl ?_ | refine W.op rfl rfl rfl rfl ?_ | refine W.skip rfl rfl ?_ | refine W.fld rfl rfl rfl rfl rfl ?_ | refine W.ld rfl rfl rfl rfl rfl ?_))
  refine W.len rfl rfl rfl rfl rfl ?_
  (repeat (first | refine W.ctl rfl ?_ | refine W.op rfl rfl rfl rfl ?_ | refine W.skip rfl rfl ?_ | refine W.fld rfl rfl rfl rfl rfl ?_ | refine W.ld rfl rfl rfl rfl rfl ?_))
  refine W.no rfl rfl rfl rfl (by omega : ¬ (N.keys.length : Int) < i) ?_
  (repeat (first | refine W.ctl rfl ?_ | refine W.op rfl rfl rfl rfl ?_ | refine W.skip rfl rfl ?_ | refine W.fld rfl rfl rfl rfl rfl ?_ | refine W.ld rfl rfl rfl rfl rfl ?_))
  refine W.anyh (f := 6) (fun _ => true) [0, 1, 2, 3, 6, 7, 8, 9, 10] (by kernel_rfl) (by kernel_rfl) (by kernel_rfl) (by kernel_rfl) rfl (row nb 114 [Value.bool false, sv x.ka N.keys.length x.kc, sv x.va N.vals.length x.vc, sv x.da N.kids.length x.dc]) Imp.all ?_
  (repeat (first | refine W.ctl rfl ?_ | refine W.op rfl rfl rfl rfl ?_ | refine W.skip rfl rfl ?_ | refine W.fld rfl rfl rfl rfl rfl ?_ | refine W.ld rfl rfl rfl rfl rfl ?_))
  refine W.ar (r := ((i + 1 : Nat) : Int)) rfl rfl rfl rfl rfl rfl rfl (wrap_i64 (by omega) (by omega)) ?_
  (repeat (first | refine W.ctl rfl ?_ | refine W.op rfl rfl rfl rfl ?_ | refine W.skip rfl rfl ?_ | refine W.fld rfl rfl rfl rfl rfl ?_ | refine W.ld rfl rfl rfl rfl rfl ?_))
  refine W.tdn ?_
  refine W.par (f := 2) [(4, ptr nb), (8, ptr res), (24, sv x.ka N.keys.length x.kc), (25, int i), (26, u64 key), (30, sv x.da N.kids.length x.dc), (32, int (i + 1 : Nat)), (33, int kid)] ⟨rfl, rfl, rfl, rfl, rfl, rfl, rfl, rfl, trivial⟩ [4, 5] [11, 12] []
    (slck 1 35 (sv x.ka N.keys.length x.kc) N.keys.length (N.keys.map u64)) (slck 1 3 (sv x.da N.kids.length x.dc) N.kids.length (N.kids.map int)) emp
    (row nb 114 [Value.bool false, sv x.ka N.keys.length x.kc, sv x.va N.vals.length x.vc, sv x.da N.kids.length x.dc] • row res 114 [.bool false, .slice none 0 0, .slice none 0 0, .slice none 0 0] • R)
    (EA := fun l h => ∃ a' c' g, l = [(28, sv a' N'.keys.length c'), (27, g)] ∧ h = slck 1 35 (sv a' N'.keys.length c') N'.keys.length (N'.keys.map u64))
    (EB := fun l h => ∃ a' c' g, l = [(35, sv a' N'.kids.length c'), (34, g)] ∧ h = slck 1 3 (sv a' N'.kids.length c') N'.kids.length (N'.kids.map int))
    (by rfl) (by kernel_rfl) (by kernel_rfl) (by rw [emp_sep]; exact Imp.all) Imp.all ?_ ?_ Thr.nil ?_
  · refine ⟨_, _, rfl, rfl, fun b J S f li lx F k => ?_⟩
    refine W.bsl (vs := [_]) rfl rfl rfl rfl ⟨rfl, rfl, trivial⟩ rfl rfl rfl fun g => ?_
    refine W.eq (sep_assoc' _ _ _).symm (k _ _ ?_)
    refine ⟨_, _, rfl, rfl, fun b J S f li lx F k => ?_⟩
    have hc := laid_u64 x.ka N.keys.length x.kc (N.keys.map u64) i 0 ⟨some (g, 0), 1, [u64 key]⟩ (row g 35 [u64 key]) (Part.one _ _ _) (map_ones u64 (fun _ => rfl) [key]) (by simp) (map_ones u64 (fun _ => rfl) _) (by omega) (by omega) (by omega)
    dsimp only at hc
    rw [e1, List.length_map] at hc
    refine W.eq (sep_assoc' _ _ _) ?_
    refine W.call hc rfl rfl rfl rfl Tryz.call113 ⟨rfl, rfl, rfl, rfl, trivial⟩ ?_
    rintro _ _ ⟨a', c', rfl, rfl⟩
    exact W.imp rfl (by simp only [sep_assoc']; exact Imp.all) (k _ _ ⟨a', c', _, rfl, rfl⟩)
  · refine ⟨_, _, rfl, rfl, fun b J S f li lx F k => ?_⟩
    refine W.bsl (vs := [_]) rfl rfl rfl rfl ⟨rfl, rfl, trivial⟩ rfl rfl rfl fun g => ?_
    refine W.eq (sep_assoc' _ _ _).symm (k _ _ ?_)
    refine ⟨_, _, rfl, rfl, fun b J S f li lx F k => ?_⟩
    have hc := laid_int x.da N.kids.length x.dc (N.kids.map int) (i + 1) 0 ⟨some (g, 0), 1, [int kid]⟩ (row g 3 [int kid]) (Part.one _ _ _) (map_ones int (fun _ => rfl) [kid]) (by simp) (map_ones int (fun _ => rfl) _) (by omega) (by omega) (by omega)
    dsimp only at hc
    rw [e2, List.length_map] at hc
    refine W.eq (sep_assoc' _ _ _) ?_
    refine W.call hc rfl rfl rfl rfl Tryz.call116 ⟨rfl, rfl, rfl, rfl, trivial⟩ ?_
    rintro _ _ ⟨a', c', rfl, rfl⟩
    exact W.imp rfl (by simp only [sep_assoc']; exact Imp.all) (k _ _ ⟨a', c', _, rfl, rfl⟩)
  · rintro _ _ _ _ _ _ ⟨a', c', g, rfl, rfl⟩ ⟨b', d', g', rfl, rfl⟩ ⟨rfl, rfl⟩
    simp only [emp_sep]
    refine W.ald1 13 (by kernel_rfl) rfl ?_
    refine W.bld rfl rfl rfl rfl rfl ?_
    refine W.aft Imp.all ?_
    refine W.ald1 14 (by kernel_rfl) rfl ?_
    refine W.sts rfl rfl rfl rfl rfl rfl ?_
    refine W.aft Imp.all (W.adn (by kernel_rfl) ?_)
    (repeat (first | refine W.ctl rfl ?_ | refine W.op rfl rfl rfl rfl ?_ | refine W.skip rfl rfl ?_ | refine W.fld rfl rfl rfl rfl rfl ?_ | refine W.ld rfl rfl rfl rfl rfl ?_))
    have e3 : nodeV N' ⟨a', c', none, 0, b', d'⟩ = .agg #[.bool false, sv a' N'.keys.length c', .slice none 0 0, sv b' N'.kids.length d'] := by rw [hrw]; rfl
    refine W.rets (.inr rfl) rfl (.cons (RV1.cells rfl) .nil) _ ⟨⟨a', c', none, 0, b', d'⟩, e3.symm, rfl⟩ ?_
    have e4 : N'.vals = [] := by rw [hrw]
    simp only [e4, List.length_nil, List.map_nil, skv_nil, emp_sep, sep_emp', sep_assoc']
    exact Imp.all
/-- laid, when nothing is laid: some things are gone. -/
theorem gone_u64 (a : Option Nat) (cap : Nat) (xs : List Nat) (at' gone : Nat) (ys : List Nat) (e : M.laid xs at' gone [] = ys) (hx : xs.length ≤ 8192) (ha : at' ≤ 100000) (hg : gone ≤ 100000) :
    CS 113 [sv a xs.length cap, int at', int gone, .slice none 0 0] (slck 1 35 (sv a xs.length cap) xs.length (xs.map u64))
      fun v H' => ∃ a' cap', v = sv a' ys.length cap' ∧ H' = (slck 1 35 (sv a' ys.length cap') ys.length (ys.map u64) • slck 1 35 (sv a xs.length cap) xs.length (xs.map u64)) := by
  have hc := laid_u64 a xs.length cap (xs.map u64) at' gone ⟨none, 0, []⟩ emp (Part.none _) (fun u hu => by cases hu) (by simp) (map_ones u64 (fun _ => rfl) _) hx ha hg
  dsimp only at hc
  rw [show M.laid (xs.map u64) at' gone [] = ys.map u64 by rw [← e]; exact laid_map u64 xs [] at' gone] at hc
  simp only [List.length_map, sep_emp'] at hc
  exact hc
theorem gone_str (a : Option Nat) (cap : Nat) (xs : List Str) (at' gone : Nat) (ys : List Str) (e : M.laid xs at' gone [] = ys) (hx : xs.length ≤ 8192) (ha : at' ≤ 100000) (hg : gone ≤ 100000) :
    CS 114 [sv a xs.length cap, int at', int gone, .slice none 0 0] (slck 1 9 (sv a xs.length cap) xs.length (xs.map str))
      fun v H' => ∃ a' cap', v = sv a' ys.length cap' ∧ H' = (slck 1 9 (sv a' ys.length cap') ys.length (ys.map str) • slck 1 9 (sv a xs.length cap) xs.length (xs.map str)) := by
  have hc := laid_str a xs.length cap (xs.map str) at' gone ⟨none, 0, []⟩ emp (Part.none _) (fun u hu => by cases hu) (by simp) (map_ones str (fun _ => rfl) _) hx ha hg
  dsimp only at hc
  rw [show M.laid (xs.map str) at' gone [] = ys.map str by rw [← e]; exact laid_map str xs [] at' gone] at hc
  simp only [List.length_map, sep_emp'] at hc
  exact hc
theorem gone_int (a : Option Nat) (cap : Nat) (xs : List Int) (at' gone : Nat) (ys : List Int) (e : M.laid xs at' gone [] = ys) (hx : xs.length ≤ 8192) (ha : at' ≤ 100000) (hg : gone ≤ 100000) :
    CS 116 [sv a xs.length cap, int at', int gone, .slice none 0 0] (slck 1 3 (sv a xs.length cap) xs.length (xs.map int))
      fun v H' => ∃ a' cap', v = sv a' ys.length cap' ∧ H' = (slck 1 3 (sv a' ys.length cap') ys.length (ys.map int) • slck 1 3 (sv a xs.length cap) xs.length (xs.map int)) := by
  have hc := laid_int a xs.length cap (xs.map int) at' gone ⟨none, 0, []⟩ emp (Part.none _) (fun u hu => by cases hu) (by simp) (map_ones int (fun _ => rfl) _) hx ha hg
  dsimp only at hc
  rw [show M.laid (xs.map int) at' gone [] = ys.map int by rw [← e]; exact laid_map int xs [] at' gone] at hc
  simp only [List.length_map, sep_emp'] at hc
  exact hc
theorem node_Without (N : M.Node) (x : NP) (i : Nat) (hN : NB N) (hl : N.leaf = true) (hi : i < N.keys.length) : CS 68 [nodeV N x, int i] (NodeH N x)
    fun v H' => ∃ y, v = nodeV (M.nwithout N i) y ∧ H' = NodeH (M.nwithout N i) y := by
  have hk := hN.keys
  have hv := hN.vals
  have hrw : M.nwithout N i = ⟨true, M.laid N.keys i (1 : Nat) [], M.laid N.vals i (1 : Nat) [], []⟩ := by
    rw [M.nwithout, if_neg (by simp [hl]; omega)]; rfl
  obtain ⟨N', hN'⟩ : ∃ N', M.nwithout N i = N' := ⟨_, rfl⟩
  rw [hN'] at hrw ⊢
  refine CS.walk Tryz.func68 rfl Tryz.ntmps68 rfl fun c R => ?_
  simp only [NodeH, NodeB, sep_assoc', emp_sep]
  (repeat (first | refine W.ctl rfl ?_ | refine W.op rfl rfl rfl rfl ?_ | refine W.skip rfl rfl ?_ | refine W.fld rfl rfl rfl rfl rfl ?_ | refine W.ld rfl rfl rfl rfl rfl ?_))
  refine W.box rfl rfl rfl rfl rfl fun nb => ?_
  refine W.alc rfl rfl rfl rfl fun res => ?_
  rw [hl]
  (repeat (first | refine W.ctl rfl ?_ | refine W.op rfl rfl rfl rfl ?_ | refine W.skip rfl rfl ?_ | refine W.fld rfl rfl rfl rfl rfl ?_ | refine W.ld rfl rfl rfl rfl rfl ?_))
  refine W.no rfl rfl rfl rfl (by omega : ¬ (i : Int) < 0) ?_
  (repeat (first | refine W.ctl rfl ?_ | refine W.op rfl rfl rfl rfl ?_ | refine W.skip rfl rfl ?_ | refine W.fld rfl rfl rfl rfl rfl ?_ | refine W.ld rfl rfl rfl rfl rfl ?_))
  refine W.len rfl rfl rfl rfl rfl ?_
  (repeat (first | refine W.ctl rfl ?_ | refine W.op rfl rfl rfl rfl ?_ | refine W.skip rfl rfl ?_ | refine W.fld rfl rfl rfl rfl rfl ?_ | refine W.ld rfl rfl rfl rfl rfl ?_))
  refine W.no rfl rfl rfl rfl (by omega : ¬ (N.keys.length : Int) ≤ i) ?_
  (repeat (first | refine W.ctl rfl ?_ | refine W.op rfl rfl rfl rfl ?_ | refine W.skip rfl rfl ?_ | refine W.fld rfl rfl rfl rfl rfl ?_ | refine W.ld rfl rfl rfl rfl rfl ?_))
  refine W.anyh (f := 4) (fun _ => true) [0, 1, 2, 4, 5, 6] (by kernel_rfl) (by kernel_rfl) (by kernel_rfl) (by kernel_rfl) rfl (row nb 114 [Value.bool true, sv x.ka N.keys.length x.kc, sv x.va N.vals.length x.vc, sv x.da N.kids.length x.dc]) Imp.all ?_
  (repeat (first | refine W.ctl rfl ?_ | refine W.op rfl rfl rfl rfl ?_ | refine W.skip rfl rfl ?_ | refine W.fld rfl rfl rfl rfl rfl ?_ | refine W.ld rfl rfl rfl rfl rfl ?_))
  refine W.tdn ?_
  refine W.ald1 3 (by kernel_rfl) rfl ?_
  refine W.call (gone_u64 x.ka x.kc N.keys i 1 N'.keys (by rw [hrw]) (by omega) (by omega) (by omega)) rfl rfl rfl rfl Tryz.call113 ⟨rfl, rfl, rfl, rfl, trivial⟩ ?_
  rintro _ _ ⟨a', c', rfl, rfl⟩
  simp only [sep_assoc']
  refine W.aft Imp.all ?_
  refine W.ald1 7 (by kernel_rfl) rfl ?_
  refine W.call (gone_str x.va x.vc N.vals i 1 N'.vals (by rw [hrw]) (by omega) (by omega) (by omega)) rfl rfl rfl rfl Tryz.call114 ⟨rfl, rfl, rfl, rfl, trivial⟩ ?_
  rintro _ _ ⟨b', d', rfl, rfl⟩
  simp only [sep_assoc']
  refine W.aft Imp.all ?_
  refine W.ald1 8 (by kernel_rfl) rfl ?_
  refine W.bld rfl rfl rfl rfl rfl ?_
  refine W.aft Imp.all ?_
  refine W.ald1 9 (by kernel_rfl) rfl ?_
  refine W.sts rfl rfl rfl rfl rfl rfl ?_
  refine W.aft Imp.all (W.adn (by kernel_rfl) ?_)
  (repeat (first | refine W.ctl rfl ?_ | refine W.op rfl rfl rfl rfl ?_ | refine W.skip rfl rfl ?_ | refine W.fld rfl rfl rfl rfl rfl ?_ | refine W.ld rfl rfl rfl rfl rfl ?_))
  have e3 : nodeV N' ⟨a', c', b', d', none, 0⟩ = .agg #[.bool true, sv a' N'.keys.length c', sv b' N'.vals.length d', .slice none 0 0] := by rw [hrw]; rfl
  refine W.rets (.inr rfl) rfl (.cons (RV1.cells rfl) .nil) _ ⟨⟨a', c', b', d', none, 0⟩, e3.symm, rfl⟩ ?_
  have e4 : N'.kids = [] := by rw [hrw]
  simp only [e4, List.length_nil, List.map_nil, skv_nil, sep_emp', sep_assoc']
  exact Imp.all
theorem node_Unhang (N : M.Node) (x : NP) (i : Nat) (hN : NB N) (hl : N.leaf = false) (hi : i < N.keys.length) : CS 119 [nodeV N x, int i] (NodeH N x)
    fun v H' => ∃ y, v = nodeV (M.nunhang N i) y ∧ H' = NodeH (M.nunhang N i) y := by
  have hk := hN.keys
  have hd := hN.kids
  have hrw : M.nunhang N i = ⟨false, M.laid N.keys i (1 : Nat) [], [], M.laid N.kids (i + 1 : Nat) (1 : Nat) []⟩ := by
    rw [M.nunhang, if_neg (by simp [hl]; omega)]; rfl
  obtain ⟨N', hN'⟩ : ∃ N', M.nunhang N i = N' := ⟨_, rfl⟩
  rw [hN'] at hrw ⊢
  refine CS.walk Tryz.func119 rfl Tryz.ntmps119 rfl fun c R => ?_
  simp only [NodeH, NodeB, sep_assoc', emp_sep]
  (repeat (first | refine W.ctl rfl ?_ | refine W.op rfl rfl rfl rfl ?_ | refine W.skip rfl rfl ?_ | refine W.fld rfl rfl rfl rfl rfl ?_ | refine W.ld rfl rfl rfl rfl rfl ?_))
  refine W.box rfl rfl rfl rfl rfl fun nb => ?_
  refine W.alc rfl rfl rfl rfl fun res => ?_
  rw [hl]
  (repeat (first | refine W.ctl rfl ?_ | refine W.op rfl rfl rfl rfl ?_ | refine W.skip rfl rfl ?_ | refine W.fld rfl rfl rfl rfl rfl ?_ | refine W.ld rfl rfl rfl rfl rfl ?_))
  refine W.no rfl rfl rfl rfl (by omega : ¬ (i : Int) < 0) ?_
  (repeat (first | refine W.ctl rfl ?_ | refine W.op rfl rfl rfl rfl ?_ | refine W.skip rfl rfl ?_ | refine W.fld rfl rfl rfl rfl rfl ?_ | refine W.ld rfl rfl rfl rfl rfl ?_))
  refine W.len rfl rfl rfl rfl rfl ?_
  (repeat (first | refine W.ctl rfl ?_ | refine W.op rfl rfl rfl rfl ?_ | refine W.skip rfl rfl ?_ | refine W.fld rfl rfl rfl rfl rfl ?_ | refine W.ld rfl rfl rfl rfl rfl ?_))
  refine W.no rfl rfl rfl rfl (by omega : ¬ (N.keys.length : Int) ≤ i) ?_
  (repeat (first | refine W.ctl rfl ?_ | refine W.op rfl rfl rfl rfl ?_ | refine W.skip rfl rfl ?_ | refine W.fld rfl rfl rfl rfl rfl ?_ | refine W.ld rfl rfl rfl rfl rfl ?_))
  refine W.anyh (f := 4) (fun _ => true) [0, 1, 2, 4, 5, 6, 7] (by kernel_rfl) (by kernel_rfl) (by kernel_rfl) (by kernel_rfl) rfl (row nb 114 [Value.bool false, sv x.ka N.keys.length x.kc, sv x.va N.vals.length x.vc, sv x.da N.kids.length x.dc]) Imp.all ?_
  (repeat (first | refine W.ctl rfl ?_ | refine W.op rfl rfl rfl rfl ?_ | refine W.skip rfl rfl ?_ | refine W.fld rfl rfl rfl rfl rfl ?_ | refine W.ld rfl rfl rfl rfl rfl ?_))
  refine W.ar (r := ((i + 1 : Nat) : Int)) rfl rfl rfl rfl rfl rfl rfl (wrap_i64 (by omega) (by omega)) ?_
  (repeat (first | refine W.ctl rfl ?_ | refine W.op rfl rfl rfl rfl ?_ | refine W.skip rfl rfl ?_ | refine W.fld rfl rfl rfl rfl rfl ?_ | refine W.ld rfl rfl rfl rfl rfl ?_))
  refine W.tdn ?_
  refine W.ald1 3 (by kernel_rfl) rfl ?_
  refine W.call (gone_u64 x.ka x.kc N.keys i 1 N'.keys (by rw [hrw]) (by omega) (by omega) (by omega)) rfl rfl rfl rfl Tryz.call113 ⟨rfl, rfl, rfl, rfl, trivial⟩ ?_
  rintro _ _ ⟨a', c', rfl, rfl⟩
  simp only [sep_assoc']
  refine W.aft Imp.all ?_
  refine W.ald1 8 (by kernel_rfl) rfl ?_
  refine W.call (gone_int x.da x.dc N.kids (i + 1) 1 N'.kids (by rw [hrw]) (by omega) (by omega) (by omega)) rfl rfl rfl rfl Tryz.call116 ⟨rfl, rfl, rfl, rfl, trivial⟩ ?_
  rintro _ _ ⟨b', d', rfl, rfl⟩
  simp only [sep_assoc']
  refine W.aft Imp.all ?_
  refine W.ald1 9 (by kernel_rfl) rfl ?_
  refine W.bld rfl rfl rfl rfl rfl ?_
  refine W.aft Imp.all ?_
  refine W.ald1 10 (by kernel_rfl) rfl ?_
  refine W.sts rfl rfl rfl rfl rfl rfl ?_
  refine W.aft Imp.all (W.adn (by kernel_rfl) ?_)
  (repeat (first | refine W.ctl rfl ?_ | refine W.op rfl rfl rfl rfl ?_ | refine W.skip rfl rfl ?_ | refine W.fld rfl rfl rfl rfl rfl ?_ | refine W.ld rfl rfl rfl rfl rfl ?_))
  have e3 : nodeV N' ⟨a', c', none, 0, b', d'⟩ = .agg #[.bool false, sv a' N'.keys.length c', .slice none 0 0, sv b' N'.kids.length d'] := by rw [hrw]; rfl
  refine W.rets (.inr rfl) rfl (.cons (RV1.cells rfl) .nil) _ ⟨⟨a', c', none, 0, b', d'⟩, e3.symm, rfl⟩ ?_
  have e4 : N'.vals = [] := by rw [hrw]
  simp only [e4, List.length_nil, List.map_nil, skv_nil, emp_sep, sep_emp', sep_assoc']
  exact Imp.all
end Go.Proofs.YtbdhhedfplkidaaGreat
/- A node split in two; two nodes as one. -/
namespace Go.Proofs.YtbdhhedfplkidaaGreat
open Go
open M (Str)
set_option maxHeartbeats 400000
set_option maxRecDepth 2000
theorem laid_take {α : Type} (xs : List α) (k g : Nat) (h : xs.length ≤ k + g) : M.laid xs k g [] = xs.take k := by
  simp only [M.laid, List.append_nil]
  rw [show (min (k : Int) xs.length).toNat = min k xs.length by omega, show (min (min (k : Int) xs.length + g) xs.length).toNat = xs.length by omega]
  simp
theorem laid_drop {α : Type} (xs : List α) (g : Nat) : M.laid xs (0 : Nat) g [] = xs.drop g := by
  simp only [M.laid, List.append_nil]
  rw [show (min ((0 : Nat) : Int) xs.length).toNat = 0 by omega, show (min (min ((0 : Nat) : Int) xs.length + g) xs.length).toNat = min g xs.length by omega]
  simp only [List.take_zero, List.nil_append]
  by_cases h : g ≤ xs.length
  · rw [Nat.min_eq_left h]
  · rw [Nat.min_eq_right (by omega), List.drop_eq_nil_of_le (by omega), List.drop_eq_nil_of_le (by omega)]
/-- As many values, or kids, as there should be. -/
structure Fit (N : M.Node) : Prop where
  vals : N.vals.length = if N.leaf then N.keys.length else 0
  kids : N.kids.length = if N.leaf then 0 else N.keys.length + 1
abbrev boxN (nb : Nat) (N : M.Node) (x : NP) : HProp := row nb 114 [Value.bool N.leaf, sv x.ka N.keys.length x.kc, sv x.va N.vals.length x.vc, sv x.da N.kids.length x.dc]
theorem split_front (N : M.Node) (x : NP) (nb k : Nat) (hN : NB N) (hf : Fit N) (hk : k ≤ N.keys.length) : CS 115 [int k, ptr nb] (boxN nb N x • NodeH N x)
    fun v H' => ∃ y, v = nodeV (M.nfront N k) y ∧ H' = (NodeH (M.nfront N k) y • boxN nb N x • NodeH N x) := by
  have h1 := hN.keys
  have h2 := hN.vals
  have h3 := hN.kids
  have f1 := hf.vals
  have f2 := hf.kids
  obtain ⟨N', hN'⟩ : ∃ N', M.nfront N k = N' := ⟨_, rfl⟩
  rw [hN']
  refine CS.walk Tryz.func115 rfl Tryz.ntmps115 rfl fun c R => ?_
  simp only [boxN, NodeH, NodeB, sep_assoc', emp_sep]
  (repeat (first | refine W.ctl rfl ?_ | refine W.op rfl rfl rfl rfl ?_ | refine W.skip rfl rfl ?_ | refine W.fld rfl rfl rfl rfl rfl ?_ | refine W.ld rfl rfl rfl rfl rfl ?_))
  refine W.alc rfl rfl rfl rfl fun res => ?_
  (repeat (first | refine W.ctl rfl ?_ | refine W.op rfl rfl rfl rfl ?_ | refine W.skip rfl rfl ?_ | refine W.fld rfl rfl rfl rfl rfl ?_ | refine W.ld rfl rfl rfl rfl rfl ?_))
  cases hl : N.leaf with
  | true =>
    rw [hl, if_pos rfl] at f1 f2
    have hrw : N' = ⟨true, N.keys.take k, N.vals.take k, []⟩ := by rw [← hN', M.nfront, if_pos hl]
    (repeat (first | refine W.ctl rfl ?_ | refine W.op rfl rfl rfl rfl ?_ | refine W.skip rfl rfl ?_ | refine W.fld rfl rfl rfl rfl rfl ?_ | refine W.ld rfl rfl rfl rfl rfl ?_))
    refine W.anyh (f := 4) (fun _ => true) [0, 1, 2, 3, 4, 5, 7, 8, 9, 10, 11, 12] (by kernel_rfl) (by kernel_rfl) (by kernel_rfl) (by kernel_rfl) rfl (row nb 114 [Value.bool true, sv x.ka N.keys.length x.kc, sv x.va N.vals.length x.vc, sv x.da N.kids.length x.dc]) Imp.all ?_
    (repeat (first | refine W.ctl rfl ?_ | refine W.op rfl rfl rfl rfl ?_ | refine W.skip rfl rfl ?_ | refine W.fld rfl rfl rfl rfl rfl ?_ | refine W.ld rfl rfl rfl rfl rfl ?_))
    refine W.len rfl rfl rfl rfl rfl ?_
    (repeat (first | refine W.ctl rfl ?_ | refine W.op rfl rfl rfl rfl ?_ | refine W.skip rfl rfl ?_ | refine W.fld rfl rfl rfl rfl rfl ?_ | refine W.ld rfl rfl rfl rfl rfl ?_))
    refine W.len rfl rfl rfl rfl rfl ?_
    refine W.tdn ?_
    refine W.ald1 6 (by kernel_rfl) rfl ?_
    refine W.call (gone_u64 x.ka x.kc N.keys k N.keys.length N'.keys (by rw [hrw]; exact laid_take _ _ _ (by omega)) (by omega) (by omega) (by omega)) rfl rfl rfl rfl Tryz.call113 ⟨rfl, rfl, rfl, rfl, trivial⟩ ?_
    rintro _ _ ⟨a', c', rfl, rfl⟩
    simp only [sep_assoc']
    refine W.aft Imp.all ?_
    refine W.ald1 13 (by kernel_rfl) rfl ?_
    refine W.call (gone_str x.va x.vc N.vals k N.keys.length N'.vals (by rw [hrw]; exact laid_take _ _ _ (by omega)) (by omega) (by omega) (by omega)) rfl rfl rfl rfl Tryz.call114 ⟨rfl, rfl, rfl, rfl, trivial⟩ ?_
    rintro _ _ ⟨b', d', rfl, rfl⟩
    simp only [sep_assoc']
    refine W.aft Imp.all ?_
    refine W.ald1 14 (by kernel_rfl) rfl ?_
    refine W.bld rfl rfl rfl rfl rfl ?_
    refine W.aft Imp.all ?_
    refine W.ald1 15 (by kernel_rfl) rfl ?_
    refine W.sts rfl rfl rfl rfl rfl rfl ?_
    refine W.aft Imp.all (W.adn (by kernel_rfl) ?_)
    (repeat (first | refine W.ctl rfl ?_ | refine W.op rfl rfl rfl rfl ?_ | refine W.skip rfl rfl ?_ | refine W.fld rfl rfl rfl rfl rfl ?_ | refine W.ld rfl rfl rfl rfl rfl ?_))
    have e3 : nodeV N' ⟨a', c', b', d', none, 0⟩ = .agg #[.bool true, sv a' N'.keys.length c', sv b' N'.vals.length d', .slice none 0 0] := by rw [hrw]; rfl
    refine W.rets (.inr rfl) rfl (.cons (RV1.cells rfl) .nil) _ ⟨⟨a', c', b', d', none, 0⟩, e3.symm, rfl⟩ ?_
    have e4 : N'.kids = [] := by rw [hrw]
    simp only [e4, List.length_nil, List.map_nil, skv_nil, sep_emp', emp_sep, sep_assoc']
    exact Imp.all
  | false =>
    rw [hl, if_neg (by simp)] at f1 f2
    have hrw : N' = ⟨false, N.keys.take k, [], N.kids.take (k + 1)⟩ := by rw [← hN', M.nfront, if_neg (by simp [hl])]
    (repeat (first | refine W.ctl rfl ?_ | refine W.op rfl rfl rfl rfl ?_ | refine W.skip rfl rfl ?_ | refine W.fld rfl rfl rfl rfl rfl ?_ | refine W.ld rfl rfl rfl rfl rfl ?_))
    refine W.anyh (f := 4) (fun _ => true) [0, 1, 2, 3, 4, 5, 7, 8, 9, 10, 11, 12, 13] (by kernel_rfl) (by kernel_rfl) (by kernel_rfl) (by kernel_rfl) rfl (row nb 114 [Value.bool false, sv x.ka N.keys.length x.kc, sv x.va N.vals.length x.vc, sv x.da N.kids.length x.dc]) Imp.all ?_
    (repeat (first | refine W.ctl rfl ?_ | refine W.op rfl rfl rfl rfl ?_ | refine W.skip rfl rfl ?_ | refine W.fld rfl rfl rfl rfl rfl ?_ | refine W.ld rfl rfl rfl rfl rfl ?_))
    refine W.len rfl rfl rfl rfl rfl ?_
    (repeat (first | refine W.ctl rfl ?_ | refine W.op rfl rfl rfl rfl ?_ | refine W.skip rfl rfl ?_ | refine W.fld rfl rfl rfl rfl rfl ?_ | refine W.ld rfl rfl rfl rfl rfl ?_))
    refine W.ar (r := ((k + 1 : Nat) : Int)) rfl rfl rfl rfl rfl rfl rfl (wrap_i64 (by omega) (by omega)) ?_
    (repeat (first | refine W.ctl rfl ?_ | refine W.op rfl rfl rfl rfl ?_ | refine W.skip rfl rfl ?_ | refine W.fld rfl rfl rfl rfl rfl ?_ | refine W.ld rfl rfl rfl rfl rfl ?_))
    refine W.len rfl rfl rfl rfl rfl ?_
    refine W.tdn ?_
    refine W.ald1 6 (by kernel_rfl) rfl ?_
    refine W.call (gone_u64 x.ka x.kc N.keys k N.keys.length N'.keys (by rw [hrw]; exact laid_take _ _ _ (by omega)) (by omega) (by omega) (by omega)) rfl rfl rfl rfl Tryz.call113 ⟨rfl, rfl, rfl, rfl, trivial⟩ ?_
    rintro _ _ ⟨a', c', rfl, rfl⟩
    simp only [sep_assoc']
    refine W.aft Imp.all ?_
    refine W.ald1 14 (by kernel_rfl) rfl ?_
    refine W.call (gone_int x.da x.dc N.kids (k + 1) N.kids.length N'.kids (by rw [hrw]; exact laid_take _ _ _ (by omega)) (by omega) (by omega) (by omega)) rfl rfl rfl rfl Tryz.call116 ⟨rfl, rfl, rfl, rfl, trivial⟩ ?_
    rintro _ _ ⟨b', d', rfl, rfl⟩
    simp only [sep_assoc']
    refine W.aft Imp.all ?_
    refine W.ald1 15 (by kernel_rfl) rfl ?_
    refine W.bld rfl rfl rfl rfl rfl ?_
    refine W.aft Imp.all ?_
    refine W.ald1 16 (by kernel_rfl) rfl ?_
    refine W.sts rfl rfl rfl rfl rfl rfl ?_
    refine W.aft Imp.all (W.adn (by kernel_rfl) ?_)
    (repeat (first | refine W.ctl rfl ?_ | refine W.op rfl rfl rfl rfl ?_ | refine W.skip rfl rfl ?_ | refine W.fld rfl rfl rfl rfl rfl ?_ | refine W.ld rfl rfl rfl rfl rfl ?_))
    have e3 : nodeV N' ⟨a', c', none, 0, b', d'⟩ = .agg #[.bool false, sv a' N'.keys.length c', .slice none 0 0, sv b' N'.kids.length d'] := by rw [hrw]; rfl
    refine W.rets (.inr rfl) rfl (.cons (RV1.cells rfl) .nil) _ ⟨⟨a', c', none, 0, b', d'⟩, e3.symm, rfl⟩ ?_
    have e4 : N'.vals = [] := by rw [hrw]
    simp only [e4, List.length_nil, List.map_nil, skv_nil, sep_emp', emp_sep, sep_assoc']
    exact Imp.all
theorem nfront_nb {N : M.Node} (h : NB N) (k : Nat) : NB (M.nfront N k) := by
  have h1 := h.keys
  have h2 := h.vals
  have h3 := h.kids
  unfold M.nfront
  split
  · exact ⟨by simp; omega, by simp; omega, by simp, fun v hv => h.val v (List.mem_of_mem_take hv)⟩
  · exact ⟨by simp; omega, by simp, by simp; omega, fun v hv => by simp at hv⟩
theorem nsize_le {N : M.Node} (h : NB N) : M.nsize N ≤ 20000000000000 := by
  have h1 := h.keys
  have h2 := h.vals
  have h3 := h.kids
  have h4 := sum_le h.val
  have h5 : N.vals.length * 4294967296 ≤ 4096 * 4294967296 := Nat.mul_le_mul_right _ h2
  unfold M.nsize
  split <;> omega
theorem splitAt_le (N : M.Node) : ∀ f k, M.splitAt N f k ≤ k + f ∧ k ≤ M.splitAt N f k
  | 0, k => by simp [M.splitAt]
  | f + 1, k => by
    unfold M.splitAt
    split
    · have := splitAt_le N f (k + 1); omega
    · omega
theorem node_Split (N : M.Node) (x : NP) (hN : NB N) (hf : Fit N) : CS 65 [nodeV N x] (NodeH N x)
    fun v H' => ∃ y z, v = .tuple #[nodeV (M.nsplit N).1 y, u64 (M.nsplit N).2.1, nodeV (M.nsplit N).2.2.1 z, .bool (M.nsplit N).2.2.2] ∧ H' = (NodeH (M.nsplit N).1 y • NodeH (M.nsplit N).2.2.1 z) := by
  have h1 := hN.keys
  have h2 := hN.vals
  have h3 := hN.kids
  have f1 := hf.vals
  have f2 := hf.kids
  obtain ⟨up, hup⟩ : ∃ up : Nat, (if N.leaf then 0 else 1 : Nat) = up := ⟨_, rfl⟩
  have hup1 : up ≤ 1 := by rw [← hup]; split <;> omega
  have hsp : M.nsplit N = if (N.keys.length : Int) - 1 - up < 1 then (M.Node.zero, 0, M.Node.zero, false) else (M.nfront N (M.splitAt N ((N.keys.length : Int) - 1 - up - 1).toNat 1), N.keys.getD (M.splitAt N ((N.keys.length : Int) - 1 - up - 1).toNat 1) 0, M.nback N (M.splitAt N ((N.keys.length : Int) - 1 - up - 1).toNat 1), true) := by
    rw [M.nsplit, ← hup]; cases N.leaf <;> rfl
  refine CS.walk Tryz.func65 rfl Tryz.ntmps65 rfl fun c R => ?_
  simp only [NodeH, NodeB, sep_assoc', emp_sep]
  (repeat (first | refine W.ctl rfl ?_ | refine W.op rfl rfl rfl rfl ?_ | refine W.skip rfl rfl ?_ | refine W.fld rfl rfl rfl rfl rfl ?_ | refine W.ld rfl rfl rfl rfl rfl ?_))
  refine W.box rfl rfl rfl rfl rfl fun nb => ?_
  refine W.alc rfl rfl rfl rfl fun ra => ?_
  (repeat (first | refine W.ctl rfl ?_ | refine W.op rfl rfl rfl rfl ?_ | refine W.skip rfl rfl ?_ | refine W.fld rfl rfl rfl rfl rfl ?_ | refine W.ld rfl rfl rfl rfl rfl ?_))
  refine W.alc rfl rfl rfl rfl fun rb => ?_
  (repeat (first | refine W.ctl rfl ?_ | refine W.op rfl rfl rfl rfl ?_ | refine W.skip rfl rfl ?_ | refine W.fld rfl rfl rfl rfl rfl ?_ | refine W.ld rfl rfl rfl rfl rfl ?_))
  refine W.join (σ := Unit) (fun _ => True) (fun _ => [(1, ptr nb), (2, ptr ra), (3, u64 (0 : Nat)), (4, ptr rb), (5, .bool false), (6, int up)]) (fun _ => row rb 114 [.bool false, .slice none 0 0, .slice none 0 0, .slice none 0 0] • row ra 114 [.bool false, .slice none 0 0, .slice none 0 0, .slice none 0 0] • boxN nb N x • NodeB N x R) ?_ fun _ _ => ?_
  · cases hl : N.leaf with
    | true =>
      simp only [hl, if_true] at hup
      (repeat (first | refine W.ctl rfl ?_ | refine W.op rfl rfl rfl rfl ?_ | refine W.skip rfl rfl ?_ | refine W.fld rfl rfl rfl rfl rfl ?_ | refine W.ld rfl rfl rfl rfl rfl ?_))
      exact W.meet () trivial ⟨rfl, rfl, rfl, rfl, rfl, by rw [← hup]; rfl, trivial⟩ (by rw [boxN, hl]; exact Imp.all)
    | false =>
      simp only [hl, Bool.false_eq_true, if_false] at hup
      (repeat (first | refine W.ctl rfl ?_ | refine W.op rfl rfl rfl rfl ?_ | refine W.skip rfl rfl ?_ | refine W.fld rfl rfl rfl rfl rfl ?_ | refine W.ld rfl rfl rfl rfl rfl ?_))
      exact W.meet () trivial ⟨rfl, rfl, rfl, rfl, rfl, by rw [← hup]; rfl, trivial⟩ (by rw [boxN, hl]; exact Imp.all)
  (repeat (first | refine W.ctl rfl ?_ | refine W.op rfl rfl rfl rfl ?_ | refine W.skip rfl rfl ?_ | refine W.fld rfl rfl rfl rfl rfl ?_ | refine W.ld rfl rfl rfl rfl rfl ?_))
  refine W.len rfl rfl rfl rfl rfl ?_
  refine W.ar (r := (N.keys.length : Int) - 1) rfl rfl rfl rfl rfl rfl rfl (wrap_i64 (by omega) (by omega)) ?_
  (repeat (first | refine W.ctl rfl ?_ | refine W.op rfl rfl rfl rfl ?_ | refine W.skip rfl rfl ?_ | refine W.fld rfl rfl rfl rfl rfl ?_ | refine W.ld rfl rfl rfl rfl rfl ?_))
  refine W.ar (r := (N.keys.length : Int) - 1 - up) rfl rfl rfl rfl rfl rfl rfl (wrap_i64 (by omega) (by omega)) ?_
  (repeat (first | refine W.ctl rfl ?_ | refine W.op rfl rfl rfl rfl ?_ | refine W.skip rfl rfl ?_ | refine W.fld rfl rfl rfl rfl rfl ?_ | refine W.ld rfl rfl rfl rfl rfl ?_))
  by_cases hm : (N.keys.length : Int) - 1 - up < 1
  · refine W.yes rfl rfl rfl rfl hm ?_
    rw [if_pos hm] at hsp
    (repeat (first | refine W.ctl rfl ?_ | refine W.op rfl rfl rfl rfl ?_ | refine W.skip rfl rfl ?_ | refine W.fld rfl rfl rfl rfl rfl ?_ | refine W.ld rfl rfl rfl rfl rfl ?_))
    refine W.bld rfl rfl rfl rfl rfl ?_
    refine W.bld rfl rfl rfl rfl rfl ?_
    refine W.sts rfl rfl rfl rfl rfl rfl ?_
    (repeat (first | refine W.ctl rfl ?_ | refine W.op rfl rfl rfl rfl ?_ | refine W.skip rfl rfl ?_ | refine W.fld rfl rfl rfl rfl rfl ?_ | refine W.ld rfl rfl rfl rfl rfl ?_))
    refine W.sts rfl rfl rfl rfl rfl rfl ?_
    (repeat (first | refine W.ctl rfl ?_ | refine W.op rfl rfl rfl rfl ?_ | refine W.skip rfl rfl ?_ | refine W.fld rfl rfl rfl rfl rfl ?_ | refine W.ld rfl rfl rfl rfl rfl ?_))
    rw [hsp]
    refine W.rets (.inr rfl) rfl (.cons (RV1.cells rfl) (.cons (RV1.tmp rfl) (.cons (RV1.cells rfl) (.cons (RV1.tmp rfl) .nil)))) _ ⟨⟨none, 0, none, 0, none, 0⟩, ⟨none, 0, none, 0, none, 0⟩, rfl, rfl⟩ ?_
    simp only [NodeB, M.Node.zero, sv, Option.map_none, List.length_nil, List.map_nil, slck_nil, emp_sep]
    exact Imp.all
  refine W.no rfl rfl rfl rfl hm ?_
  rw [if_neg hm] at hsp
  obtain ⟨most, hmost⟩ : ∃ m : Nat, (N.keys.length : Int) - 1 - up = m := ⟨((N.keys.length : Int) - 1 - up).toNat, by omega⟩
  rw [hmost] at hsp hm ⊢
  obtain ⟨kk, hkk⟩ : ∃ k, M.splitAt N ((most : Int) - 1).toNat 1 = k := ⟨_, rfl⟩
  rw [show ((most : Int) - 1).toNat = most - 1 by omega] at hkk hsp
  rw [hkk] at hsp
  (repeat (first | refine W.ctl rfl ?_ | refine W.op rfl rfl rfl rfl ?_ | refine W.skip rfl rfl ?_ | refine W.fld rfl rfl rfl rfl rfl ?_ | refine W.ld rfl rfl rfl rfl rfl ?_))
  refine W.mkf (vs := [ptr nb]) rfl rfl rfl rfl ⟨rfl, trivial⟩ ?_
  (repeat (first | refine W.ctlb rfl ?_ | refine W.op rfl rfl rfl rfl ?_ | refine W.skip rfl rfl ?_ | refine W.fld rfl rfl rfl rfl rfl ?_ | refine W.ld rfl rfl rfl rfl rfl ?_))
  have hkm : 1 ≤ kk ∧ kk ≤ most := by have := splitAt_le N (most - 1) 1; omega
  refine W.join (σ := Unit) (fun _ => True) (fun _ => [(1, ptr nb), (2, ptr ra), (3, u64 (0 : Nat)), (4, ptr rb), (5, .bool false), (6, int up), (7, int most), (8, .func (.func 115) #[] #[ptr nb]), (9, int kk)])
    (fun _ => row rb 114 [.bool false, .slice none 0 0, .slice none 0 0, .slice none 0 0] • row ra 114 [.bool false, .slice none 0 0, .slice none 0 0, .slice none 0 0] • boxN nb N x • NodeB N x R) ?_ fun _ _ => ?_
  · (repeat (first | refine W.ctl rfl ?_ | refine W.op rfl rfl rfl rfl ?_ | refine W.skip rfl rfl ?_ | refine W.fld rfl rfl rfl rfl rfl ?_ | refine W.ld rfl rfl rfl rfl rfl ?_))
    refine W.loop (σ := Nat) (fun k => 1 ≤ k ∧ k ≤ most ∧ M.splitAt N (most - k) k = kk) (fun k => [(1, ptr nb), (2, ptr ra), (3, u64 (0 : Nat)), (4, ptr rb), (5, .bool false), (6, int up), (7, int most), (8, .func (.func 115) #[] #[ptr nb]), (9, int k)])
      (fun _ => row rb 114 [.bool false, .slice none 0 0, .slice none 0 0, .slice none 0 0] • row ra 114 [.bool false, .slice none 0 0, .slice none 0 0, .slice none 0 0] • boxN nb N x • NodeB N x R) (fun k => most - k) 1 ⟨by omega, by omega, hkk⟩ ⟨rfl, rfl, rfl, rfl, rfl, rfl, rfl, rfl, rfl, trivial⟩ Imp.all ?_
    rintro k ⟨hk1, hk2, hk3⟩
    (repeat (first | refine W.ctl rfl ?_ | refine W.op rfl rfl rfl rfl ?_ | refine W.skip rfl rfl ?_ | refine W.fld rfl rfl rfl rfl rfl ?_ | refine W.ld rfl rfl rfl rfl rfl ?_))
    by_cases hk : (k : Int) < most
    · obtain ⟨f, hfm⟩ : ∃ f, most - k = f + 1 := ⟨most - k - 1, by omega⟩
      rw [hfm, M.splitAt] at hk3
      refine W.anyh (f := 6) (fun _ => true) [0, 1, 2, 3, 4, 5, 8] (by kernel_rfl) (by kernel_rfl) (by kernel_rfl) (by kernel_rfl) rfl (boxN nb N x) Imp.all ?_
      (repeat (first | refine W.ctl rfl ?_ | refine W.op rfl rfl rfl rfl ?_ | refine W.skip rfl rfl ?_ | refine W.fld rfl rfl rfl rfl rfl ?_ | refine W.ld rfl rfl rfl rfl rfl ?_))
      refine W.yes rfl rfl rfl rfl hk ?_
      (repeat (first | refine W.ctl rfl ?_ | refine W.op rfl rfl rfl rfl ?_ | refine W.skip rfl rfl ?_ | refine W.fld rfl rfl rfl rfl rfl ?_ | refine W.ld rfl rfl rfl rfl rfl ?_))
      refine W.lds rfl rfl rfl rfl rfl ?_
      refine W.tdn ?_
      refine W.ald1 6 (by kernel_rfl) rfl ?_
      (repeat (first | refine W.ctl rfl ?_ | refine W.op rfl rfl rfl rfl ?_ | refine W.skip rfl rfl ?_))
      refine W.callv (vs := [int k]) (caps := [ptr nb]) (split_front N x nb k hN hf (by omega)) rfl rfl rfl rfl rfl Tryz.call115 ⟨rfl, trivial⟩ ?_
      rintro _ _ ⟨y, rfl, rfl⟩
      simp only [NodeH, NodeB, sep_assoc', emp_sep]
      refine W.aft Imp.all ?_
      refine W.ald1 7 (by kernel_rfl) rfl ?_
      (repeat (first | refine W.ctl rfl ?_ | refine W.op rfl rfl rfl rfl ?_ | refine W.skip rfl rfl ?_))
      refine W.call (node_Size (M.nfront N k) y (nfront_nb hN k)) rfl rfl rfl rfl Tryz.call64 ⟨rfl, trivial⟩ ?_
      rintro _ _ ⟨rfl, rfl⟩
      simp only [NodeH, NodeB, sep_assoc', emp_sep]
      refine W.aft Imp.all ?_
      refine W.ald1 9 (by kernel_rfl) rfl ?_
      (repeat (first | refine W.ctl rfl ?_ | refine W.op rfl rfl rfl rfl ?_ | refine W.skip rfl rfl ?_))
      refine W.call (node_Size N x hN) rfl rfl rfl rfl Tryz.call64 ⟨rfl, trivial⟩ ?_
      rintro _ _ ⟨rfl, rfl⟩
      simp only [NodeH, NodeB, sep_assoc', emp_sep]
      refine W.aft Imp.all ?_
      refine W.ald1 10 (by kernel_rfl) rfl ?_
      (repeat (first | refine W.ctl rfl ?_ | refine W.op rfl rfl rfl rfl ?_ | refine W.skip rfl rfl ?_))
      refine W.bin rfl rfl rfl rfl rfl rfl (fun w => M.bin_quo _ (M.nsize N) 2 w (by decide) (by have := nsize_le hN; omega)) ?_
      refine W.aft Imp.all ?_
      refine W.ald1 11 (by kernel_rfl) rfl ?_
      (repeat (first | refine W.ctl rfl ?_ | refine W.op rfl rfl rfl rfl ?_ | refine W.skip rfl rfl ?_))
      by_cases hs : ((M.nsize (M.nfront N k) : Nat) : Int) < ((M.nsize N / 2 : Nat) : Int)
      · refine W.yes rfl rfl rfl rfl hs ?_
        refine W.aft Imp.all ?_
        refine W.ald1 12 (by kernel_rfl) rfl ?_
        (repeat (first | refine W.ctl rfl ?_ | refine W.op rfl rfl rfl rfl ?_ | refine W.skip rfl rfl ?_ | refine W.fld rfl rfl rfl rfl rfl ?_ | refine W.ld rfl rfl rfl rfl rfl ?_))
        refine W.aft Imp.all (W.adn (by kernel_rfl) ?_)
        (repeat (first | refine W.ctl rfl ?_ | refine W.op rfl rfl rfl rfl ?_ | refine W.skip rfl rfl ?_ | refine W.fld rfl rfl rfl rfl rfl ?_ | refine W.ld rfl rfl rfl rfl rfl ?_))
        refine W.ar (r := ((k + 1 : Nat) : Int)) rfl rfl rfl rfl rfl rfl rfl (wrap_i64 (by omega) (by omega)) ?_
        (repeat (first | refine W.ctl rfl ?_ | refine W.op rfl rfl rfl rfl ?_ | refine W.skip rfl rfl ?_ | refine W.fld rfl rfl rfl rfl rfl ?_ | refine W.ld rfl rfl rfl rfl rfl ?_))
        rw [if_pos (by omega)] at hk3
        exact W.again (k + 1) ⟨by omega, by omega, by rw [show most - (k + 1) = f by omega]; exact hk3⟩ (by omega) ⟨rfl, rfl, rfl, rfl, rfl, rfl, rfl, rfl, rfl, trivial⟩ Imp.all
      · refine W.no rfl rfl rfl rfl hs ?_
        refine W.aft Imp.all ?_
        refine W.ald1 12 (by kernel_rfl) rfl ?_
        (repeat (first | refine W.ctl rfl ?_ | refine W.op rfl rfl rfl rfl ?_ | refine W.skip rfl rfl ?_ | refine W.fld rfl rfl rfl rfl rfl ?_ | refine W.ld rfl rfl rfl rfl rfl ?_))
        refine W.aft Imp.all (W.adn (by kernel_rfl) ?_)
        rw [if_neg (by omega)] at hk3
        subst hk3
        (repeat (first | refine W.ctl rfl ?_ | refine W.op rfl rfl rfl rfl ?_ | refine W.skip rfl rfl ?_ | refine W.fld rfl rfl rfl rfl rfl ?_ | refine W.ld rfl rfl rfl rfl rfl ?_))
        exact W.meet () trivial ⟨rfl, rfl, rfl, rfl, rfl, rfl, rfl, rfl, rfl, trivial⟩ Imp.all
    · have hkm : k = most := by omega
      rw [show most - k = 0 by omega, M.splitAt] at hk3
      subst hk3
      refine W.draw (by kernel_rfl) (by kernel_rfl) ?_
      (repeat (first | refine W.ctl rfl ?_ | refine W.op rfl rfl rfl rfl ?_ | refine W.skip rfl rfl ?_ | refine W.fld rfl rfl rfl rfl rfl ?_ | refine W.ld rfl rfl rfl rfl rfl ?_))
      refine W.no rfl rfl rfl rfl hk ?_
      (repeat (first | refine W.ctl rfl ?_ | refine W.op rfl rfl rfl rfl ?_ | refine W.skip rfl rfl ?_ | refine W.fld rfl rfl rfl rfl rfl ?_ | refine W.ld rfl rfl rfl rfl rfl ?_))
      exact W.meet () trivial ⟨rfl, rfl, rfl, rfl, rfl, rfl, rfl, rfl, rfl, trivial⟩ Imp.all
  (repeat (first | refine W.ctl rfl ?_ | refine W.op rfl rfl rfl rfl ?_ | refine W.skip rfl rfl ?_ | refine W.fld rfl rfl rfl rfl rfl ?_ | refine W.ld rfl rfl rfl rfl rfl ?_))
  have hrw : M.nback N kk = if N.leaf then ⟨true, N.keys.drop (kk + up), N.vals.drop kk, []⟩ else ⟨false, N.keys.drop (kk + up), [], N.kids.drop (kk + 1)⟩ := by
    rw [M.nback, ← hup]; cases N.leaf <;> rfl
  obtain ⟨N', hN'⟩ : ∃ N', M.nback N kk = N' := ⟨_, rfl⟩
  have hkey : N'.keys = N.keys.drop (kk + up) := by rw [← hN', hrw]; split <;> rfl
  rw [hN'] at hrw hsp
  refine W.anyh (f := 3) (fun _ => true) [0, 1, 2, 3, 4, 5, 6] (by kernel_rfl) (by kernel_rfl) (by kernel_rfl) (by kernel_rfl) rfl (boxN nb N x) Imp.all ?_
  (repeat (first | refine W.ctl rfl ?_ | refine W.op rfl rfl rfl rfl ?_ | refine W.skip rfl rfl ?_ | refine W.fld rfl rfl rfl rfl rfl ?_ | refine W.ld rfl rfl rfl rfl rfl ?_))
  refine W.ar (r := ((kk + up : Nat) : Int)) rfl rfl rfl rfl rfl rfl rfl (wrap_i64 (by omega) (by omega)) ?_
  refine W.tdn ?_
  refine W.ald1 7 (by kernel_rfl) rfl ?_
  refine W.call (gone_u64 x.ka x.kc N.keys 0 (kk + up) N'.keys (by rw [hkey]; exact laid_drop _ _) (by omega) (by omega) (by omega)) rfl rfl rfl rfl Tryz.call113 ⟨rfl, rfl, rfl, rfl, trivial⟩ ?_
  rintro _ _ ⟨a', c', rfl, rfl⟩
  simp only [sep_assoc']
  refine W.aft Imp.all ?_
  refine W.ald1 8 (by kernel_rfl) rfl ?_
  refine W.bld rfl rfl rfl rfl rfl ?_
  refine W.aft Imp.all ?_
  refine W.ald1 9 (by kernel_rfl) rfl ?_
  refine W.sts rfl rfl rfl rfl rfl rfl ?_
  refine W.aft Imp.all (W.adn (by kernel_rfl) ?_)
  (repeat (first | refine W.ctl rfl ?_ | refine W.op rfl rfl rfl rfl ?_ | refine W.skip rfl rfl ?_ | refine W.fld rfl rfl rfl rfl rfl ?_ | refine W.ld rfl rfl rfl rfl rfl ?_))
  refine W.join (σ := NP) (fun _ => True) (fun _ => [(1, ptr nb), (2, ptr ra), (4, ptr rb), (8, .func (.func 115) #[] #[ptr nb]), (9, int kk)])
    (fun z => boxN rb N' z • NodeB N' z (row ra 114 [.bool false, .slice none 0 0, .slice none 0 0, .slice none 0 0] • boxN nb N x • NodeB N x R)) ?_ ?_
  · cases hl : N.leaf with
    | true =>
      rw [hl, if_pos rfl] at hrw
      have e5 : N'.leaf = true := by rw [hrw]
      have e4 : N'.kids = [] := by rw [hrw]
      simp only [boxN, hl]
      (repeat (first | refine W.ctl rfl ?_ | refine W.op rfl rfl rfl rfl ?_ | refine W.skip rfl rfl ?_ | refine W.fld rfl rfl rfl rfl rfl ?_ | refine W.ld rfl rfl rfl rfl rfl ?_))
      refine W.call (gone_str x.va x.vc N.vals 0 kk N'.vals (by rw [hrw]; exact laid_drop _ _) (by omega) (by omega) (by omega)) rfl rfl rfl rfl Tryz.call114 ⟨rfl, rfl, rfl, rfl, trivial⟩ ?_
      rintro _ _ ⟨b', d', rfl, rfl⟩
      simp only [sep_assoc']
      (repeat (first | refine W.ctl rfl ?_ | refine W.op rfl rfl rfl rfl ?_ | refine W.skip rfl rfl ?_ | refine W.fld rfl rfl rfl rfl rfl ?_ | refine W.ld rfl rfl rfl rfl rfl ?_))
      refine W.st rfl rfl rfl rfl rfl ?_
      (repeat (first | refine W.ctl rfl ?_ | refine W.op rfl rfl rfl rfl ?_ | refine W.skip rfl rfl ?_ | refine W.fld rfl rfl rfl rfl rfl ?_ | refine W.ld rfl rfl rfl rfl rfl ?_))
      refine W.meet ⟨a', c', b', d', none, 0⟩ trivial ⟨rfl, rfl, rfl, rfl, rfl, trivial⟩ ?_
      simp only [NodeB, e5, e4, sv, Option.map_none, List.length_nil, List.map_nil, slck_nil, emp_sep]
      exact Imp.all
    | false =>
      rw [hl, if_neg (by simp)] at hrw
      have e5 : N'.leaf = false := by rw [hrw]
      have e4 : N'.vals = [] := by rw [hrw]
      simp only [boxN, hl]
      (repeat (first | refine W.ctl rfl ?_ | refine W.op rfl rfl rfl rfl ?_ | refine W.skip rfl rfl ?_ | refine W.fld rfl rfl rfl rfl rfl ?_ | refine W.ld rfl rfl rfl rfl rfl ?_))
      refine W.ar (r := ((kk + 1 : Nat) : Int)) rfl rfl rfl rfl rfl rfl rfl (wrap_i64 (by omega) (by omega)) ?_
      refine W.call (gone_int x.da x.dc N.kids 0 (kk + 1) N'.kids (by rw [hrw]; exact laid_drop _ _) (by omega) (by omega) (by omega)) rfl rfl rfl rfl Tryz.call116 ⟨rfl, rfl, rfl, rfl, trivial⟩ ?_
      rintro _ _ ⟨b', d', rfl, rfl⟩
      simp only [sep_assoc']
      (repeat (first | refine W.ctl rfl ?_ | refine W.op rfl rfl rfl rfl ?_ | refine W.skip rfl rfl ?_ | refine W.fld rfl rfl rfl rfl rfl ?_ | refine W.ld rfl rfl rfl rfl rfl ?_))
      refine W.st rfl rfl rfl rfl rfl ?_
      (repeat (first | refine W.ctl rfl ?_ | refine W.op rfl rfl rfl rfl ?_ | refine W.skip rfl rfl ?_ | refine W.fld rfl rfl rfl rfl rfl ?_ | refine W.ld rfl rfl rfl rfl rfl ?_))
      refine W.meet ⟨a', c', none, 0, b', d'⟩ trivial ⟨rfl, rfl, rfl, rfl, rfl, trivial⟩ ?_
      simp only [NodeB, e5, e4, sv, Option.map_none, List.length_nil, List.map_nil, slck_nil, emp_sep]
      exact Imp.all
  rintro z -
  (repeat (first | refine W.ctl rfl ?_ | refine W.op rfl rfl rfl rfl ?_ | refine W.skip rfl rfl ?_ | refine W.fld rfl rfl rfl rfl rfl ?_ | refine W.ld rfl rfl rfl rfl rfl ?_))
  have hkl : kk < N.keys.length := by omega
  refine W.anyh (f := 5) (fun _ => true) [0, 1, 3, 4, 5, 6, 7, 8] (by kernel_rfl) (by kernel_rfl) (by kernel_rfl) (by kernel_rfl) rfl (boxN nb N x • boxN rb N' z • slck 1 35 (sv x.ka N.keys.length x.kc) N.keys.length (N.keys.map u64)) Imp.all ?_
  (repeat (first | refine W.ctl rfl ?_ | refine W.op rfl rfl rfl rfl ?_ | refine W.skip rfl rfl ?_ | refine W.fld rfl rfl rfl rfl rfl ?_ | refine W.ld rfl rfl rfl rfl rfl ?_))
  refine W.idxk rfl rfl rfl rfl rfl rfl (by omega) (by omega) ?_
  refine W.ldk (v := u64 (N.keys[kk])) rfl rfl rfl rfl rfl (by simp [hkl]) ?_
  refine W.lds rfl rfl rfl rfl rfl ?_
  refine W.tdn ?_
  refine W.ald1 2 (by kernel_rfl) rfl ?_
  refine W.callv (vs := [int kk]) (caps := [ptr nb]) (split_front N x nb kk hN hf (by omega)) rfl rfl rfl rfl rfl Tryz.call115 ⟨rfl, trivial⟩ ?_
  rintro _ _ ⟨y, rfl, rfl⟩
  simp only [NodeH, NodeB, sep_assoc', emp_sep]
  refine W.aft Imp.all ?_
  refine W.ald1 9 (by kernel_rfl) rfl ?_
  refine W.sts rfl rfl rfl rfl rfl rfl ?_
  refine W.aft Imp.all ?_
  refine W.ald1 10 (by kernel_rfl) rfl ?_
  (repeat (first | refine W.ctl rfl ?_ | refine W.op rfl rfl rfl rfl ?_ | refine W.skip rfl rfl ?_))
  refine W.aft Imp.all ?_
  refine W.ald1 11 (by kernel_rfl) rfl ?_
  refine W.sts rfl rfl rfl rfl rfl rfl ?_
  refine W.aft Imp.all ?_
  refine W.ald1 12 (by kernel_rfl) rfl ?_
  (repeat (first | refine W.ctl rfl ?_ | refine W.op rfl rfl rfl rfl ?_ | refine W.skip rfl rfl ?_))
  refine W.aft Imp.all (W.adn (by kernel_rfl) ?_)
  (repeat (first | refine W.ctl rfl ?_ | refine W.op rfl rfl rfl rfl ?_ | refine W.skip rfl rfl ?_ | refine W.fld rfl rfl rfl rfl rfl ?_ | refine W.ld rfl rfl rfl rfl rfl ?_))
  rw [hsp, show N.keys.getD kk 0 = N.keys[kk] by simp [List.getD_eq_getElem?_getD, hkl]]
  refine W.rets (.inr rfl) rfl (.cons (RV1.cells rfl) (.cons (RV1.tmp rfl) (.cons (RV1.cells rfl) (.cons (RV1.tmp rfl) .nil)))) _ ⟨y, z, rfl, rfl⟩ Imp.all
end Go.Proofs.YtbdhhedfplkidaaGreat
/- Two nodes as one. -/
namespace Go.Proofs.YtbdhhedfplkidaaGreat
open Go
open M (Str)
set_option maxHeartbeats 400000
set_option maxRecDepth 2000
/-- An owned slice as a part. -/
theorem Part.own (a : Option Nat) (E : TypeId) (n cap : Nat) (xs : List Value) (_hn : n = xs.length) (F R : HProp) [hk : Sk F a E 1 n cap xs R] (h : a = .none → xs = []) : Part.ok F ⟨a.map fun g => (g, 0), cap, xs⟩ := by
  cases a with
  | none => exact .inl (h rfl)
  | some g =>
    refine .inr ⟨g, 0, rfl, ?_⟩
    have := reads_sk (F := F) (E := E) (a := g) (n := n) (cap := cap) (xs := xs) 0 xs.length
    simpa using this
theorem Part.own_v (a : Option Nat) (cap : Nat) (xs : List Value) : Part.v ⟨a.map fun g => (g, 0), cap, xs⟩ = sv a xs.length cap := by
  cases a <;> rfl
theorem tree_both (A B : M.Node) (x y : NP) (mid : Nat) (hA : NB A) (hB : NB B) : CS 118 [nodeV A x, u64 mid, nodeV B y] (NodeH A x • NodeH B y)
    fun v H' => ∃ z, v = nodeV (M.nboth A mid B) z ∧ H' = NodeH (M.nboth A mid B) z := by
  have a1 := hA.keys
  have a2 := hA.vals
  have a3 := hA.kids
  have b1 := hB.keys
  have b2 := hB.vals
  have b3 := hB.kids
  obtain ⟨N', hN'⟩ : ∃ N', M.nboth A mid B = N' := ⟨_, rfl⟩
  rw [hN']
  have hvals : N'.vals = A.vals ++ B.vals := by rw [← hN']; rfl
  have hkids : N'.kids = A.kids ++ B.kids := by rw [← hN']; rfl
  have hleaf : N'.leaf = A.leaf := by rw [← hN']; rfl
  refine CS.walk Tryz.func118 rfl Tryz.ntmps118 rfl fun c R => ?_
  simp only [NodeH, NodeB, sep_assoc', emp_sep]
  (repeat (first | refine W.ctl rfl ?_ | refine W.op rfl rfl rfl rfl ?_ | refine W.skip rfl rfl ?_ | refine W.fld rfl rfl rfl rfl rfl ?_ | refine W.ld rfl rfl rfl rfl rfl ?_))
  refine W.box rfl rfl rfl rfl rfl fun na => ?_
  refine W.box rfl rfl rfl rfl rfl fun nb => ?_
  refine W.alc rfl rfl rfl rfl fun res => ?_
  refine W.skf x.va 9 (fun _ _ _ sa => ?_)
  refine W.skf y.va 9 (fun _ _ _ sb => ?_)
  refine W.skf x.da 3 (fun _ _ _ ia => ?_)
  refine W.skf y.da 3 (fun _ _ _ ib => ?_)
  refine W.skf x.ka 35 (fun _ _ _ ka => ?_)
  refine W.skf y.ka 35 (fun _ _ _ kb => ?_)
  (repeat (first | refine W.ctl rfl ?_ | refine W.op rfl rfl rfl rfl ?_ | refine W.skip rfl rfl ?_ | refine W.fld rfl rfl rfl rfl rfl ?_ | refine W.ld rfl rfl rfl rfl rfl ?_))
  refine W.join (σ := Nat × Option Nat × Nat × Option Nat × Nat) (fun _ => True) (fun p => [(1, u64 mid), (3, ptr na), (5, ptr nb), (6, ptr res), (7, ptr p.1)])
    (fun p => row p.1 114 [.bool A.leaf, .slice none 0 0, sv p.2.1 N'.vals.length p.2.2.1, sv p.2.2.2.1 N'.kids.length p.2.2.2.2] • slck 1 9 (sv p.2.1 N'.vals.length p.2.2.1) N'.vals.length (N'.vals.map str) • slck 1 3 (sv p.2.2.2.1 N'.kids.length p.2.2.2.2) N'.kids.length (N'.kids.map int) •
      boxN na A x • boxN nb B y • row res 114 [.bool false, .slice none 0 0, .slice none 0 0, .slice none 0 0] • slck 1 35 (sv x.ka A.keys.length x.kc) A.keys.length (A.keys.map u64) • slck 1 35 (sv y.ka B.keys.length y.kc) B.keys.length (B.keys.map u64) • R) ?_ ?_
  · refine W.anyh (f := 7) (fun _ => true) [0, 1, 2, 3, 4, 5, 8, 9, 10, 11] (by kernel_rfl) (by kernel_rfl) (by kernel_rfl) (by kernel_rfl) rfl (boxN na A x • boxN nb B y) Imp.all ?_
    (repeat (first | refine W.ctl rfl ?_ | refine W.op rfl rfl rfl rfl ?_ | refine W.skip rfl rfl ?_ | refine W.fld rfl rfl rfl rfl rfl ?_ | refine W.ld rfl rfl rfl rfl rfl ?_))
    refine W.tdn ?_
    refine W.parc (f := 2) [(1, u64 mid), (3, ptr na), (5, ptr nb), (6, ptr res), (9, .bool A.leaf), (11, sv x.va A.vals.length x.vc), (13, sv y.va B.vals.length y.vc), (17, sv x.da A.kids.length x.dc), (19, sv y.da B.kids.length y.dc)] ⟨rfl, rfl, rfl, rfl, rfl, rfl, rfl, rfl, rfl, trivial⟩ [6, 7] [12, 13] 15
      (slck 1 9 (sv x.va A.vals.length x.vc) A.vals.length (A.vals.map str) • slck 1 9 (sv y.va B.vals.length y.vc) B.vals.length (B.vals.map str))
      (slck 1 3 (sv x.da A.kids.length x.dc) A.kids.length (A.kids.map int) • slck 1 3 (sv y.da B.kids.length y.dc) B.kids.length (B.kids.map int)) emp
      ((boxN na A x • boxN nb B y) • row res 114 [.bool false, .slice none 0 0, .slice none 0 0, .slice none 0 0] • slck 1 35 (sv x.ka A.keys.length x.kc) A.keys.length (A.keys.map u64) • slck 1 35 (sv y.ka B.keys.length y.kc) B.keys.length (B.keys.map u64) • R)
      (EA := fun l h => ∃ a' c' g, l = [(15, sv a' N'.vals.length c'), (14, g)] ∧ h = slck 1 9 (sv a' N'.vals.length c') N'.vals.length (N'.vals.map str))
      (EB := fun l h => ∃ a' c' g, l = [(21, sv a' N'.kids.length c'), (20, g)] ∧ h = slck 1 3 (sv a' N'.kids.length c') N'.kids.length (N'.kids.map int))
      (EC := fun l h => ∃ g, l = [(7, ptr g)] ∧ h = row g 114 [.bool false, .slice none 0 0, .slice none 0 0, .slice none 0 0])
      (by rfl) (by kernel_rfl) (by kernel_rfl) (by simp only [emp_sep, sep_assoc']; exact Imp.all) Imp.all ?_ ?_ ?_ ?_ ?_
    · refine ⟨_, _, rfl, rfl, fun b J S f li lx F k => ?_⟩
      refine W.bsl (vs := [_, _]) rfl rfl rfl rfl ⟨rfl, rfl, rfl, rfl, trivial⟩ rfl rfl rfl fun g => ?_
      refine W.eq (sep_assoc' _ _ _).symm (k _ _ ?_)
      refine ⟨_, _, rfl, rfl, fun b J S f li lx F k => ?_⟩
      have hc := concat_str (slck 1 9 (sv x.va A.vals.length x.vc) A.vals.length (A.vals.map str) • slck 1 9 (sv y.va B.vals.length y.vc) B.vals.length (B.vals.map str)) g
        [⟨x.va.map fun g => (g, 0), x.vc, A.vals.map str⟩, ⟨y.va.map fun g => (g, 0), y.vc, B.vals.map str⟩]
        (fun p hp => by
          simp only [List.mem_cons, List.not_mem_nil, or_false] at hp
          rcases hp with rfl | rfl
          · exact ⟨Part.own x.va 9 A.vals.length _ _ (by simp) _ _ (fun h => by have := (sa h).1; simpa using List.eq_nil_of_length_eq_zero this), map_ones str (fun _ => rfl) _, by simp; omega⟩
          · exact ⟨Part.own y.va 9 B.vals.length _ _ (by simp) _ _ (fun h => by have := (sb h).1; simpa using List.eq_nil_of_length_eq_zero this), map_ones str (fun _ => rfl) _, by simp; omega⟩) (by simp)
      have hv : ([⟨x.va.map fun g => (g, 0), x.vc, A.vals.map str⟩, ⟨y.va.map fun g => (g, 0), y.vc, B.vals.map str⟩] : List Part).map Part.v = [sv x.va A.vals.length x.vc, sv y.va B.vals.length y.vc] := by
        simp only [List.map_cons, List.map_nil, Part.own_v, List.length_map]
      rw [hv] at hc
      simp only [List.map_cons, List.map_nil, List.flatten_cons, List.flatten_nil, List.append_nil] at hc
      rw [← List.map_append, ← hvals, List.length_map] at hc
      refine W.eq (sep_assoc' _ _ _) ?_
      simp only [sep_assoc']
      refine W.call hc rfl rfl rfl rfl Tryz.call152 ⟨rfl, trivial⟩ ?_
      rintro _ _ ⟨a', c', rfl, rfl⟩
      exact W.imp rfl (by simp only [sep_assoc']; exact Imp.all) (k _ _ ⟨a', c', _, rfl, rfl⟩)
    · refine ⟨_, _, rfl, rfl, fun b J S f li lx F k => ?_⟩
      refine W.bsl (vs := [_, _]) rfl rfl rfl rfl ⟨rfl, rfl, rfl, rfl, trivial⟩ rfl rfl rfl fun g => ?_
      refine W.eq (sep_assoc' _ _ _).symm (k _ _ ?_)
      refine ⟨_, _, rfl, rfl, fun b J S f li lx F k => ?_⟩
      have hc := concat_int (slck 1 3 (sv x.da A.kids.length x.dc) A.kids.length (A.kids.map int) • slck 1 3 (sv y.da B.kids.length y.dc) B.kids.length (B.kids.map int)) g
        [⟨x.da.map fun g => (g, 0), x.dc, A.kids.map int⟩, ⟨y.da.map fun g => (g, 0), y.dc, B.kids.map int⟩]
        (fun p hp => by
          simp only [List.mem_cons, List.not_mem_nil, or_false] at hp
          rcases hp with rfl | rfl
          · exact ⟨Part.own x.da 3 A.kids.length _ _ (by simp) _ _ (fun h => by have := (ia h).1; simpa using List.eq_nil_of_length_eq_zero this), map_ones int (fun _ => rfl) _, by simp; omega⟩
          · exact ⟨Part.own y.da 3 B.kids.length _ _ (by simp) _ _ (fun h => by have := (ib h).1; simpa using List.eq_nil_of_length_eq_zero this), map_ones int (fun _ => rfl) _, by simp; omega⟩) (by simp)
      have hv : ([⟨x.da.map fun g => (g, 0), x.dc, A.kids.map int⟩, ⟨y.da.map fun g => (g, 0), y.dc, B.kids.map int⟩] : List Part).map Part.v = [sv x.da A.kids.length x.dc, sv y.da B.kids.length y.dc] := by
        simp only [List.map_cons, List.map_nil, Part.own_v, List.length_map]
      rw [hv] at hc
      simp only [List.map_cons, List.map_nil, List.flatten_cons, List.flatten_nil, List.append_nil] at hc
      rw [← List.map_append, ← hkids, List.length_map] at hc
      refine W.eq (sep_assoc' _ _ _) ?_
      simp only [sep_assoc']
      refine W.call hc rfl rfl rfl rfl Tryz.call153 ⟨rfl, trivial⟩ ?_
      rintro _ _ ⟨a', c', rfl, rfl⟩
      exact W.imp rfl (by simp only [sep_assoc']; exact Imp.all) (k _ _ ⟨a', c', _, rfl, rfl⟩)
    · refine ⟨_, _, rfl, rfl, fun b J S f li lx F k => ?_⟩
      refine W.alc rfl rfl rfl rfl fun g => ?_
      rw [emp_sep]
      exact k _ _ ⟨g, rfl, rfl⟩
    · rintro _ _ _ _ _ _ ⟨a', c', g1, rfl, rfl⟩ ⟨b', d', g2, rfl, rfl⟩ ⟨g, rfl, rfl⟩
      simp only [sep_assoc']
      refine W.ald1 14 (by kernel_rfl) rfl ?_
      refine W.bld rfl rfl rfl rfl rfl ?_
      refine W.aft Imp.all ?_
      refine W.ald1 16 (by kernel_rfl) rfl ?_
      refine W.sts rfl rfl rfl rfl rfl rfl ?_
      refine W.aft Imp.all (W.adn (by kernel_rfl) ?_)
      exact W.meet (g, a', c', b', d') trivial ⟨rfl, rfl, rfl, rfl, rfl, trivial⟩ Imp.all
    · rintro _ _ _ _ ⟨a', c', g1, rfl, rfl⟩ ⟨b', d', g2, rfl, rfl⟩
      simp only [sep_assoc', emp_sep]
      refine W.ald2 14 15 (by kernel_rfl) rfl rfl ?_ ?_
      · refine W.bld rfl rfl rfl rfl rfl ?_
        refine W.aft Imp.all ?_
        refine W.ald1 15 (by kernel_rfl) rfl ?_
        refine W.alc rfl rfl rfl rfl fun g => ?_
        refine W.aft Imp.all ?_
        refine W.ald1 16 (by kernel_rfl) rfl ?_
        refine W.sts rfl rfl rfl rfl rfl rfl ?_
        refine W.aft Imp.all (W.adn (by kernel_rfl) ?_)
        exact W.meet (g, a', c', b', d') trivial ⟨rfl, rfl, rfl, rfl, rfl, trivial⟩ Imp.all
      · refine W.alc rfl rfl rfl rfl fun g => ?_
        refine W.aft Imp.all ?_
        refine W.ald1 14 (by kernel_rfl) rfl ?_
        refine W.bld rfl rfl rfl rfl rfl ?_
        refine W.aft Imp.all ?_
        refine W.ald1 16 (by kernel_rfl) rfl ?_
        refine W.sts rfl rfl rfl rfl rfl rfl ?_
        refine W.aft Imp.all (W.adn (by kernel_rfl) ?_)
        exact W.meet (g, a', c', b', d') trivial ⟨rfl, rfl, rfl, rfl, rfl, trivial⟩ Imp.all
  rintro ⟨g, a', c', b', d'⟩ -
  dsimp only
  (repeat (first | refine W.ctl rfl ?_ | refine W.op rfl rfl rfl rfl ?_ | refine W.skip rfl rfl ?_ | refine W.fld rfl rfl rfl rfl rfl ?_ | refine W.ld rfl rfl rfl rfl rfl ?_))
  refine W.join (σ := Option Nat × Nat) (fun _ => True) (fun _ => [(6, ptr res), (7, ptr g)])
    (fun p => boxN g N' ⟨p.1, p.2, a', c', b', d'⟩ • NodeB N' ⟨p.1, p.2, a', c', b', d'⟩ (row res 114 [.bool false, .slice none 0 0, .slice none 0 0, .slice none 0 0] • R)) ?_ ?_
  · cases hl : A.leaf with
    | true =>
      have hkeys : N'.keys = A.keys ++ B.keys := by rw [← hN', M.nboth, if_pos hl]
      rw [hl] at hleaf
      simp only [boxN, hl, hleaf]
      (repeat (first | refine W.ctl rfl ?_ | refine W.op rfl rfl rfl rfl ?_ | refine W.skip rfl rfl ?_ | refine W.fld rfl rfl rfl rfl rfl ?_ | refine W.ld rfl rfl rfl rfl rfl ?_))
      refine W.bsl (vs := [_, _]) rfl rfl rfl rfl ⟨rfl, rfl, rfl, rfl, trivial⟩ rfl rfl rfl fun g3 => ?_
      have hc := concat_u64 (slck 1 35 (sv x.ka A.keys.length x.kc) A.keys.length (A.keys.map u64) • slck 1 35 (sv y.ka B.keys.length y.kc) B.keys.length (B.keys.map u64)) g3
        [⟨x.ka.map fun g => (g, 0), x.kc, A.keys.map u64⟩, ⟨y.ka.map fun g => (g, 0), y.kc, B.keys.map u64⟩]
        (fun p hp => by
          simp only [List.mem_cons, List.not_mem_nil, or_false] at hp
          rcases hp with rfl | rfl
          · exact ⟨Part.own x.ka 35 A.keys.length _ _ (by simp) _ _ (fun h => by have := (ka h).1; simpa using List.eq_nil_of_length_eq_zero this), map_ones u64 (fun _ => rfl) _, by simp; omega⟩
          · exact ⟨Part.own y.ka 35 B.keys.length _ _ (by simp) _ _ (fun h => by have := (kb h).1; simpa using List.eq_nil_of_length_eq_zero this), map_ones u64 (fun _ => rfl) _, by simp; omega⟩) (by simp)
      have hv : ([⟨x.ka.map fun g => (g, 0), x.kc, A.keys.map u64⟩, ⟨y.ka.map fun g => (g, 0), y.kc, B.keys.map u64⟩] : List Part).map Part.v = [sv x.ka A.keys.length x.kc, sv y.ka B.keys.length y.kc] := by
        simp only [List.map_cons, List.map_nil, Part.own_v, List.length_map]
      rw [hv] at hc
      simp only [List.map_cons, List.map_nil, List.flatten_cons, List.flatten_nil, List.append_nil] at hc
      rw [← List.map_append, ← hkeys, List.length_map] at hc
      refine W.call hc rfl rfl rfl rfl Tryz.call151 ⟨rfl, trivial⟩ ?_
      rintro _ _ ⟨k', kc', rfl, rfl⟩
      simp only [sep_assoc']
      (repeat (first | refine W.ctl rfl ?_ | refine W.op rfl rfl rfl rfl ?_ | refine W.skip rfl rfl ?_ | refine W.fld rfl rfl rfl rfl rfl ?_ | refine W.ld rfl rfl rfl rfl rfl ?_))
      refine W.st rfl rfl rfl rfl rfl ?_
      (repeat (first | refine W.ctl rfl ?_ | refine W.op rfl rfl rfl rfl ?_ | refine W.skip rfl rfl ?_ | refine W.fld rfl rfl rfl rfl rfl ?_ | refine W.ld rfl rfl rfl rfl rfl ?_))
      refine W.meet (k', kc') trivial ⟨rfl, rfl, trivial⟩ ?_
      exact Imp.all
    | false =>
      have hkeys : N'.keys = A.keys ++ ([mid] ++ B.keys) := by rw [← hN', M.nboth, if_neg (by simp [hl])]; simp
      rw [hl] at hleaf
      simp only [boxN, hl, hleaf]
      (repeat (first | refine W.ctl rfl ?_ | refine W.op rfl rfl rfl rfl ?_ | refine W.skip rfl rfl ?_ | refine W.fld rfl rfl rfl rfl rfl ?_ | refine W.ld rfl rfl rfl rfl rfl ?_))
      refine W.bsl (vs := [_]) rfl rfl rfl rfl ⟨rfl, rfl, trivial⟩ rfl rfl rfl fun g4 => ?_
      (repeat (first | refine W.ctl rfl ?_ | refine W.op rfl rfl rfl rfl ?_ | refine W.skip rfl rfl ?_ | refine W.fld rfl rfl rfl rfl rfl ?_ | refine W.ld rfl rfl rfl rfl rfl ?_))
      refine W.bsl (vs := [_, _, _]) rfl rfl rfl rfl ⟨rfl, rfl, rfl, rfl, rfl, rfl, trivial⟩ rfl rfl rfl fun g3 => ?_
      have hc := concat_u64 (slck 1 35 (sv x.ka A.keys.length x.kc) A.keys.length (A.keys.map u64) • slck 1 35 (sv y.ka B.keys.length y.kc) B.keys.length (B.keys.map u64) • row g4 35 [u64 mid]) g3
        [⟨x.ka.map fun g => (g, 0), x.kc, A.keys.map u64⟩, ⟨some (g4, 0), 1, [mid].map u64⟩, ⟨y.ka.map fun g => (g, 0), y.kc, B.keys.map u64⟩]
        (fun p hp => by
          simp only [List.mem_cons, List.not_mem_nil, or_false] at hp
          rcases hp with rfl | rfl | rfl
          · exact ⟨Part.own x.ka 35 A.keys.length _ _ (by simp) _ _ (fun h => by have := (ka h).1; simpa using List.eq_nil_of_length_eq_zero this), map_ones u64 (fun _ => rfl) _, by simp; omega⟩
          · refine ⟨?_, map_ones u64 (fun _ => rfl) _, by simp⟩
            rcases Part.one g4 35 (u64 mid) with h | ⟨b, o, h1, h2⟩
            · cases h
            · exact .inr ⟨b, o, h1, fun c w hs => h2 c w (hs.imp Imp.all)⟩
          · exact ⟨Part.own y.ka 35 B.keys.length _ _ (by simp) _ _ (fun h => by have := (kb h).1; simpa using List.eq_nil_of_length_eq_zero this), map_ones u64 (fun _ => rfl) _, by simp; omega⟩) (by simp)
      have hv : ([⟨x.ka.map fun g => (g, 0), x.kc, A.keys.map u64⟩, ⟨some (g4, 0), 1, [mid].map u64⟩, ⟨y.ka.map fun g => (g, 0), y.kc, B.keys.map u64⟩] : List Part).map Part.v = [sv x.ka A.keys.length x.kc, .slice (some ⟨g4, 0, none⟩) 1 1, sv y.ka B.keys.length y.kc] := by
        simp only [List.map_cons, List.map_nil, Part.own_v, List.length_map]; rfl
      rw [hv] at hc
      have hkm : N'.keys.map u64 = A.keys.map u64 ++ ([mid].map u64 ++ B.keys.map u64) := by rw [hkeys, List.map_append, List.map_append]
      simp only [List.map_cons, List.map_nil, List.flatten_cons, List.flatten_nil, List.append_nil] at hc hkm
      rw [← hkm, List.length_map] at hc
      refine W.call hc rfl rfl rfl rfl Tryz.call151 ⟨rfl, trivial⟩ ?_
      rintro _ _ ⟨k', kc', rfl, rfl⟩
      simp only [sep_assoc']
      (repeat (first | refine W.ctl rfl ?_ | refine W.op rfl rfl rfl rfl ?_ | refine W.skip rfl rfl ?_ | refine W.fld rfl rfl rfl rfl rfl ?_ | refine W.ld rfl rfl rfl rfl rfl ?_))
      refine W.st rfl rfl rfl rfl rfl ?_
      (repeat (first | refine W.ctl rfl ?_ | refine W.op rfl rfl rfl rfl ?_ | refine W.skip rfl rfl ?_ | refine W.fld rfl rfl rfl rfl rfl ?_ | refine W.ld rfl rfl rfl rfl rfl ?_))
      refine W.meet (k', kc') trivial ⟨rfl, rfl, trivial⟩ ?_
      exact Imp.all
  rintro ⟨k', kc'⟩ -
  dsimp only
  (repeat (first | refine W.ctl rfl ?_ | refine W.op rfl rfl rfl rfl ?_ | refine W.skip rfl rfl ?_ | refine W.fld rfl rfl rfl rfl rfl ?_ | refine W.ld rfl rfl rfl rfl rfl ?_))
  refine W.lds rfl rfl rfl rfl rfl ?_
  refine W.sts rfl rfl rfl rfl rfl rfl ?_
  (repeat (first | refine W.ctl rfl ?_ | refine W.op rfl rfl rfl rfl ?_ | refine W.skip rfl rfl ?_ | refine W.fld rfl rfl rfl rfl rfl ?_ | refine W.ld rfl rfl rfl rfl rfl ?_))
  refine W.rets (.inr rfl) rfl (.cons (RV1.cells rfl) .nil) _ ⟨⟨k', kc', a', c', b', d'⟩, rfl, rfl⟩ ?_
  simp only [sep_assoc', emp_sep]
  exact Imp.all
end Go.Proofs.YtbdhhedfplkidaaGreat
/- Rules for elements of several cells. -/
namespace Go.Proofs.YtbdhhedfplkidaaGreat
open Go
section
variable {c : World} {Q : Exit → Act → World → Prop} {n : Nat} {l : List (Nat × Value)} {H R : HProp} {ks : List Kn}
variable {q q1 q2 : Md} {all : Array Oper} {o : Oper} {rest : List Oper} {d : Nat} {v : Value}
/-- []T{x}, x of several cells -/
theorem W.bsa [NX q1 q2] {t e : TypeId} {i : TypeInfo} {z : Value} {kk by' : Nat} {x : Operand} {vs : List Value} (hg : o.guard = none) (hd : o.dst = some d) (hn : Nat.blt d n = true) (ho : o.op = .buildSlice t 1 #[(0, x)]) [ht : TD t (.slice e)] [tb : TB e i z kk by']
    (hx : ev l x = some v) [hc : Cl v vs] (hl : vs.length = kk) (hk : Nat.ble kk 1000 = true) (hk0 : Nat.ble 1 kk = true)
    (k : ∀ b, WS c Q n (.ops q2 all rest ks) ((d, .slice (some ⟨b, 0, none⟩) 1 1) :: l) (row b e vs • H)) : WS c Q n (.ops q1 all (o :: rest) ks) l H := by
  have hk := Nat.le_of_ble_eq_true hk
  have hk0 := Nat.le_of_ble_eq_true hk0
  refine W.valw (val := fun b => .slice (some ⟨b, 0, none⟩) 1 1) (K := fun b => row b e vs • H) hg hd hn (fun a w hf hs' => ?_) k
  refine ⟨w.heap.size, w.alloc (.cells vs.toArray e), ?_, hs'.ralloc e vs.toArray⟩
  have hr := run_buildSlice (P := Pg) w t e 1 #[(0, v)] vs.toArray i z ht.eq tb.eq tb.zero (by rw [tb.size]; omega) (by rw [tb.size]; omega) (by
    rw [tb.size]
    obtain ⟨zs, hzs⟩ : ∃ zs : List Value, (Array.range (1 * kk)).map (z.cells[· % z.cells.size]!) = zs.toArray := ⟨_, (Array.toArray_toList).symm⟩
    have hzl : zs.length = kk := by have := congrArg Array.size hzs; simpa using this.symm
    rw [hzs]
    simp only [Instr.fill, hc.eq]
    have h3 : (vs.zipIdx 0).foldl (fun cs (x : Value × Nat) => cs.setIfInBounds (0 + x.2) x.1) zs.toArray = vs.toArray := by
      rw [fold_setAll, setAll_eq _ _ _ (by omega)]
      simp [hl, ← hzl]
    rw [if_neg (by simp [hl, hzl])]
    simpa using h3)
  simp only [execOp, ho, Sem.run_bind, List.map_toArray, List.map_cons, List.map_nil, hf.eval hx, hr, Result.andThen_ok]
  rfl
/-- A load of a value of several cells. -/
theorem W.ldr [hNL : NL q1 q2] {t : TypeId} {x : Operand} {z : Value} {b i s : Nat} {E : TypeId} {cs : List Value} (vs : List Value) (hg : o.guard = none) (hd : o.dst = some d) (hn : Nat.blt d n = true) (ho : o.op = .load t x) [ti : TI t z s true]
    (hx : ev l x = some (.pointer (some ⟨b, i, none⟩))) [hr : Rw H b E cs R] (hl : vs.length = s) (hv : ∀ j, j < s → cs[i + j]? = vs[j]?) (k : WS c Q n (.ops q2 all rest ks) ((d, .agg vs.toArray) :: l) H) : WS c Q n (.ops q1 all (o :: rest) ks) l H := by
  refine W.val hg hd hn (fun a w hf hs => ?_) k
  rw [hr.eq] at hs
  have hld := run_loadCells_list (P := Pg) w ⟨b, i, none⟩ vs (fun j u hu => by
    rw [add_none, hs.rcell, hv j (by have := List.getElem?_eq_some_iff.1 hu; have := this.1; omega)]; exact hu)
  rw [hl] at hld
  simp [execOp, ho, hf.eval hx, Instr.loadAt, Instr.sureAddr, loadVar, ti.agg, ti.size, hld]
/-- A load of an element of several cells of an owned slice. -/
theorem W.ldkr [hNL : NL q1 q2] {t : TypeId} {x : Operand} {z : Value} {i s m cap : Nat} {a : Option Nat} {xs : List Value} (vs : List Value) (hg : o.guard = none) (hd : o.dst = some d) (hn : Nat.blt d n = true) (ho : o.op = .load t x) [ti : TI t z s true]
    (hx : ev l x = some (.pointer (some ⟨a.getD 0, i, none⟩))) [hk : Sk H a t s m cap xs R] (hl : vs.length = s) (hv : ∀ j, j < s → xs[i + j]? = vs[j]?) (k : WS c Q n (.ops q2 all rest ks) ((d, .agg vs.toArray) :: l) H) : WS c Q n (.ops q1 all (o :: rest) ks) l H := by
  refine W.val hg hd hn (fun ac w hf hs => ?_) k
  rw [hk.eq] at hs
  have hld := run_loadCells_list (P := Pg) w ⟨a.getD 0, i, none⟩ vs (fun j u hu => by
    rw [add_none]
    exact hs.sk_cell (i + j) u (by rw [hv j (by have := List.getElem?_eq_some_iff.1 hu; have := this.1; omega)]; exact hu))
  rw [hl] at hld
  simp [execOp, ho, hf.eval hx, Instr.loadAt, Instr.sureAddr, loadVar, ti.agg, ti.size, hld]
/-- A store into an element's cell of an owned slice. -/
theorem W.stk [NX q1 q2] {t : TypeId} {x y : Operand} {z : Value} {a' : Bool} {i kk m cap : Nat} {a : Option Nat} {xs : List Value} (hg : o.guard = none) (hd : o.dst = none) (ho : o.op = .store t x y) [ti : TI t z 1 a']
    (hx : ev l x = some (.pointer (some ⟨a.getD 0, i, none⟩))) (hy : ev l y = some v) [h1 : One v] [hk : Sk H a t kk m cap xs R] (hi : i < xs.length) (k : WS c Q n (.ops q2 all rest ks) l (slck kk t (sv a m cap) m (xs.set i v) • R)) : WS c Q n (.ops q1 all (o :: rest) ks) l H := by
  refine W.unit hg hd (fun ac w hf hs => ?_) k
  rw [hk.eq] at hs
  obtain ⟨hl, q1, q2, q3⟩ := hs.skv
  rcases q3 with ⟨_, hz, _⟩ | ⟨g, sp, rfl, h4, h5⟩
  · rw [hz, Nat.zero_mul] at hl; omega
  · have h2 := run_store Pg w ⟨g, i, none⟩ v .plain h1.one
    rw [h5.rcell, List.getElem?_append_left hi, List.getElem?_eq_getElem hi] at h2
    simp only [h5.rfrozen i, Bool.false_eq_true, if_false] at h2
    refine ⟨w.setCell ⟨g, i, none⟩ v, ?_, ?_⟩
    · simp only [Option.getD_some] at hx
      simp [execOp, ho, hf.eval hx, hf.eval hy, Instr.storeAt, Instr.sureAddr, storeVar, h1.cells, ti.size, storeCells, add_none, h2]
    · have h6 := h5.rset i v
      rw [List.set_append_left _ _ hi] at h6
      exact h6.imp (Imp.sep (slck_mk (by simpa using hl) q1 q2 (by simpa using h4)) (Imp.refl _))
/-- copy of elements that can be read into a row -/
theorem W.cpy [NX q1 q2] {t t' e : TypeId} {x y : Operand} {z : Value} {ag : Bool} {b off m cp g o2 m2 cp2 : Nat} {E : TypeId} {cs news : List Value} (hr : Reads H g o2 news) (hg : o.guard = none) (hd : o.dst = some d) (hn : Nat.blt d n = true) (ho : o.op = .call { callee := .builtin .copy, args := #[x, y], argTypes := #[t, t'] })
    [ht : TD t (.slice e)] [ti : TI e z 1 ag] (hx : ev l x = some (.slice (some ⟨b, off, none⟩) m cp)) (hy : ev l y = some (.slice (some ⟨g, o2, none⟩) m2 cp2)) [hrw : Rw H b E cs R] (hl : news.length = min m2 m) (h1 : ∀ u ∈ news, u.oneCell' = true) (hc : off + news.length ≤ cs.length)
    (k : WS c Q n (.ops q2 all rest ks) ((d, .int .i64 news.length) :: l) (row b E (setAll cs off news) • R)) : WS c Q n (.ops q1 all (o :: rest) ks) l H := by
  refine W.valw (σ := Unit) (val := fun _ => .int .i64 news.length) (K := fun _ => row b E (setAll cs off news) • R) hg hd hn (fun a w hf hs' => ?_) (fun _ => k)
  have hnews : ∀ (j : Nat) (u : Value), news[j]? = some u → w.cell? ((⟨g, o2, none⟩ : Addr).add j) = some u := fun j u hu => by
    rw [add_none]; exact hr c w hs' j u hu
  rw [hrw.eq] at hs'
  obtain ⟨w', h2, h3⟩ := SL.storeCells news cs off 0 w hs' (by simpa using hc) h1
  refine ⟨(), w', ?_, h3⟩
  have hfc := run_firstCells_some (P := Pg) w 1 news.length ⟨g, o2, none⟩ m2 cp2 news (by omega) hnews
  have hmin : Nat.min m2 m = news.length := hl.symm
  have hrun : (Builtin.copy_ #[t, t'] o.type #[.slice (some ⟨b, off, none⟩) m cp, .slice (some ⟨g, o2, none⟩) m2 cp2]).run Pg w = .ok (.int .i64 news.length) w' := by
    simp only [Builtin.copy_, List.getElem?_toArray, List.getElem?_cons_zero, List.getElem?_cons_succ, run_underlying ht.eq, Sem.run_bind, Result.andThen_ok, Builtin.lenOf, Sem.run_pure, hmin, ti.size, hfc, h2, goInt]
  simp [execOp, ho, resolve, hf.eval hx, hf.eval hy, invoke, builtin, hrun]
end
end Go.Proofs.YtbdhhedfplkidaaGreat
/- The plain model, fourth part: layer tree, getting and putting. -/
namespace Go.Proofs.YtbdhhedfplkidaaGreat.M
structure Work where
  s : Store
  read : Int
  e : Int
def Work.fail (w : Work) (e : Int) : Work := if w.e = 0 then { w with e := e } else w
def Work.node (w : Work) (at' deep : Int) : Work × Node :=
  if w.read + 1 > 640 then (({ w with read := w.read + 1 } : Work).fail 2, Node.zero) else
  let r := w.s.read at'
  let w1 := ({ w with read := w.read + 1, s := r.1 } : Work).fail r.2.2.2
  if w1.e ≠ 0 then (w1, Node.zero) else
  let d := decode r.2.2.1
  if r.2.1 ≠ 2 ∨ d.2 ≠ 0 ∨ deep > 10 then (w1.fail 2, Node.zero) else (w1, d.1)
def Work.write (w : Work) (at' : Int) (n : Node) : Work :=
  if (encode n).2 ≠ 0 then w.fail 2 else ({ w with s := (w.s.write at' 2 (encode n).1).1 } : Work).fail (w.s.write at' 2 (encode n).1).2
def Work.fresh (w : Work) (n : Node) : Work × Int :=
  let w1 := ({ w with s := w.s.take.1 } : Work).fail w.s.take.2.2
  if w1.e ≠ 0 then (w1, 0) else (w1.write w.s.take.2.1 n, w.s.take.2.1)
def Work.lay (w : Work) (at' : Int) (n : Node) : Work × Int :=
  if at' ∈ w.s.fresh then (w.write at' n, at') else
  let w1 := ({ w with s := (w.s.give at').1 } : Work).fail (w.s.give at').2
  if w1.e ≠ 0 then (w1, 0) else w1.fresh n
structure Spot where
  at' : Int
  n : Node
  i : Nat
def way : Nat → Work → Int → Int → Nat → List Spot → Work × List Spot
  | 0, w, _, _, _, p => (w, p)
  | f + 1, w, at', deep, key, p =>
    let r := w.node at' deep
    if r.1.e ≠ 0 then (r.1, p) else
    let i := (find r.2 key).1
    let p' := p ++ [⟨at', r.2, i⟩]
    if r.2.leaf then (r.1, p') else way f r.1 (r.2.kids.getD i 0) (deep + 1) key p'
def treeGet (s : Store) (root : Int) (key : Nat) : Store × Str × Bool × Int :=
  if root = 0 then (s, [], false, 0) else
  let r := way 11 ⟨s, 0, 0⟩ root 1 key []
  if r.1.e ≠ 0 then (r.1.s, [], false, r.1.e) else
  match r.2.getLast? with
  | none => (r.1.s, [], false, 0)
  | some sp => if (find sp.n key).2 then (r.1.s, sp.n.vals.getD (find sp.n key).1 [], true, 0) else (r.1.s, [], false, 0)
/-- A node, in two if it is too great. -/
def splitQ (n : Node) : Node × Nat × Node × Bool := if nsize n > 240 then nsplit n else (n, 0, Node.zero, false)
/-- From the leaf up: the node n is laid at the spot; what is left of the way stands above. (p: from the root down.) -/
def putUp : List Spot → Work → Int → Node → Work × Int
  | above, w, at', n =>
    let sp := splitQ n
    if nsize n > 240 ∧ sp.2.2.2 = false then ({ w with e := 2 }, 0) else
    let r := w.lay at' sp.1
    let o := if sp.2.2.2 = true ∧ r.1.e = 0 then r.1.fresh sp.2.2.1 else (r.1, 0)
    if o.1.e ≠ 0 then (o.1, 0) else
    match above with
    | [] => if sp.2.2.2 then o.1.fresh ⟨false, [sp.2.1], [], [r.2, o.2]⟩ else (o.1, r.2)
    | x :: above =>
      let n' : Node := { x.n with kids := x.n.kids.set x.i r.2 }
      putUp above o.1 x.at' (if sp.2.2.2 then nhang n' x.i sp.2.1 o.2 else n')
def doneE (w : Work) (root : Int) : Int × Int := if w.e ≠ 0 then (0, w.e) else (root, 0)
def treePut (s : Store) (root : Int) (key : Nat) (value : Str) : Store × Int × Int :=
  if value.length > 40 then (s, 0, 1) else
  if root = 0 then
    let r := (⟨s, 0, 0⟩ : Work).fresh ⟨true, [key], [value], []⟩
    (r.1.s, doneE r.1 r.2)
  else
  let r := way 11 ⟨s, 0, 0⟩ root 1 key []
  if r.1.e ≠ 0 then (r.1.s, 0, r.1.e) else
  match r.2.reverse with
  | [] => (r.1.s, 0, 2)
  | x :: above =>
    let q := putUp above r.1 x.at' (nput x.n key value)
    (q.1.s, doneE q.1 q.2)
end Go.Proofs.YtbdhhedfplkidaaGreat.M
/- A call of layer tree under way. -/
namespace Go.Proofs.YtbdhhedfplkidaaGreat
open Go
open M (Str Store Work)
set_option maxHeartbeats 400000
set_option maxRecDepth 2000
/-! what is read off a page -/
theorem opens_len (b : Str) : (M.opens b).2.1.length ≤ 250 := by
  unfold M.opens
  split
  · simp
  split
  · simp
  · dsimp only
    split
    · simp; omega
    · simp
theorem read_text_len (S : Store) (n : Int) : (S.read n).2.2.1.length ≤ 250 := by
  unfold Store.read
  split
  · simp
  split
  · simp
  · dsimp only
    unfold M.pageRead
    dsimp only
    split
    · simp
    · exact opens_len _
theorem nb_right {N : M.Node} (h : M.right N = true) : NB N := by
  obtain ⟨h1, h2, h3, h4, _⟩ := right_bounds h
  refine ⟨by omega, ?_, ?_, fun v hv => by have := h4 v hv; omega⟩
  · rw [h2]; split <;> omega
  · rw [h3]; split <;> omega
theorem fit_right {N : M.Node} (h : M.right N = true) : Fit N := by
  obtain ⟨_, h2, h3, _⟩ := right_bounds h
  exact ⟨h2, h3⟩
theorem decode_cases (s : Str) : M.decode s = (M.Node.zero, 2) ∨ ∃ (leaf : Bool) (k : Nat) (d0 : M.Dec), d0.keys = [] ∧ M.right ⟨leaf, (M.dloop leaf k d0).keys, (M.dloop leaf k d0).vals, (M.dloop leaf k d0).kids⟩ = true ∧
    M.decode s = (⟨leaf, (M.dloop leaf k d0).keys, (M.dloop leaf k d0).vals, (M.dloop leaf k d0).kids⟩, 0) := by
  unfold M.decode
  dsimp only
  by_cases h1 : decide ((M.take s 1).2.2 ≠ 0) = true ∨ (M.take s 1).1 ≠ 1 ∧ (M.take s 1).1 ≠ 2
  · left; rw [if_pos h1]
  · rw [if_neg h1]
    obtain ⟨leaf, hleaf⟩ : ∃ b, decide ((M.take s 1).1 = 1) = b := ⟨_, rfl⟩
    rw [hleaf]
    obtain ⟨d0, hd0⟩ : ∃ d0 : M.Dec, (if leaf = true then (⟨[], [], [], (M.take s 1).2.1, decide ((M.take s 1).2.2 ≠ 0)⟩ : M.Dec) else (⟨[], [], [], (M.take s 1).2.1, decide ((M.take s 1).2.2 ≠ 0)⟩ : M.Dec).kid) = d0 := ⟨_, rfl⟩
    have hk : d0.keys = [] := by rw [← hd0]; cases leaf <;> rfl
    rw [hd0]
    by_cases h2 : (M.dloop leaf s.length d0).bad = true ∨ M.right ⟨leaf, (M.dloop leaf s.length d0).keys, (M.dloop leaf s.length d0).vals, (M.dloop leaf s.length d0).kids⟩ = false
    · left; rw [if_pos h2]
    · right
      refine ⟨leaf, s.length, d0, hk, ?_, ?_⟩
      · cases hr : M.right _ with
        | true => rfl
        | false => exact absurd (.inr hr) h2
      · rw [if_neg h2]
theorem decode_right {s : Str} (h : (M.decode s).2 = 0) : M.right (M.decode s).1 = true := by
  rcases decode_cases s with e | ⟨leaf, k, d0, _, h1, e⟩
  · rw [e] at h; simp at h
  · rw [e]; exact h1
theorem dloop_keys (leaf : Bool) : ∀ (k : Nat) (s : M.Dec), (∀ x ∈ s.keys, x < 18446744073709551616) → ∀ x ∈ (M.dloop leaf k s).keys, x < 18446744073709551616
  | 0, s, h => h
  | k + 1, s, h => by
    unfold M.dloop
    split
    · refine dloop_keys leaf k _ ?_
      have h8 := take_fst_lt s.b 8
      rw [show (256 : Nat) ^ (8 : Int).toNat = 18446744073709551616 by decide] at h8
      intro x hx
      unfold M.dstep at hx
      split at hx <;> simp only [M.Dec.key, M.Dec.val, M.Dec.kid, List.mem_append, List.mem_singleton] at hx <;> rcases hx with hx | rfl <;> first | exact h x hx | exact h8
    · exact h
theorem decode_kb (s : Str) : KB (M.decode s).1 := by
  intro x hx
  rcases decode_cases s with e | ⟨leaf, k, d0, h0, h1, e⟩
  · rw [e] at hx; simp [M.Node.zero] at hx
  · rw [e] at hx
    exact dloop_keys leaf k d0 (fun y hy => by rw [h0] at hy; cases hy) x hx
theorem nb_zero : NB M.Node.zero := ⟨by simp [M.Node.zero], by simp [M.Node.zero], by simp [M.Node.zero], fun v hv => by simp [M.Node.zero] at hv⟩
theorem nodeH_zero : NodeH M.Node.zero ⟨none, 0, none, 0, none, 0⟩ = emp := by
  simp only [NodeH, NodeB, M.Node.zero, sv, Option.map_none, List.length_nil, List.map_nil, slck_nil, emp_sep]
/-! the work -/
abbrev WkR (wp sp : Nat) (X : Work) : HProp := row wp 108 [ptr sp, int X.read, int X.e]
abbrev WkH (wp sp dp : Nat) (X : Work) : HProp := WkR wp sp X • StoreP sp dp X.s
theorem fail_s (X : Work) (e : Int) : (X.fail e).s = X.s ∧ (X.fail e).read = X.read := by unfold Work.fail; split <;> exact ⟨rfl, rfl⟩
theorem work_fail (wp sp : Nat) (X : Work) (e : Int) : CS 70 [ptr wp, int e] (WkR wp sp X) fun v H' => v = .bool (decide ((X.fail e).e ≠ 0)) ∧ H' = WkR wp sp (X.fail e) := by
  refine CS.walk Tryz.func70 rfl Tryz.ntmps70 rfl fun c R => ?_
  (repeat (first | refine W.ctl rfl ?_ | refine W.op rfl rfl rfl rfl ?_ | refine W.skip rfl rfl ?_ | refine W.fld rfl rfl rfl rfl rfl ?_ | refine W.ld rfl rfl rfl rfl rfl ?_))
  by_cases h : X.e = 0
  · refine W.yes rfl rfl rfl rfl h ?_
    (repeat (first | refine W.ctl rfl ?_ | refine W.op rfl rfl rfl rfl ?_ | refine W.skip rfl rfl ?_ | refine W.fld rfl rfl rfl rfl rfl ?_ | refine W.ld rfl rfl rfl rfl rfl ?_))
    refine W.st rfl rfl rfl rfl rfl ?_
    (repeat (first | refine W.ctl rfl ?_ | refine W.op rfl rfl rfl rfl ?_ | refine W.skip rfl rfl ?_ | refine W.fld rfl rfl rfl rfl rfl ?_ | refine W.ld rfl rfl rfl rfl rfl ?_))
    refine W.cmp rfl rfl rfl rfl ?_
    (repeat (first | refine W.ctl rfl ?_ | refine W.op rfl rfl rfl rfl ?_ | refine W.skip rfl rfl ?_ | refine W.fld rfl rfl rfl rfl rfl ?_ | refine W.ld rfl rfl rfl rfl rfl ?_))
    have e1 : X.fail e = { X with e := e } := by unfold Work.fail; rw [if_pos h]
    rw [e1]
    exact W.ret1 (.inr rfl) rfl rfl _ ⟨rfl, rfl⟩ Imp.all
  · refine W.no rfl rfl rfl rfl h ?_
    (repeat (first | refine W.ctl rfl ?_ | refine W.op rfl rfl rfl rfl ?_ | refine W.skip rfl rfl ?_ | refine W.fld rfl rfl rfl rfl rfl ?_ | refine W.ld rfl rfl rfl rfl rfl ?_))
    refine W.cmp rfl rfl rfl rfl ?_
    (repeat (first | refine W.ctl rfl ?_ | refine W.op rfl rfl rfl rfl ?_ | refine W.skip rfl rfl ?_ | refine W.fld rfl rfl rfl rfl rfl ?_ | refine W.ld rfl rfl rfl rfl rfl ?_))
    have e1 : X.fail e = X := by unfold Work.fail; rw [if_neg h]
    rw [e1]
    exact W.ret1 (.inr rfl) rfl rfl _ ⟨rfl, rfl⟩ Imp.all
theorem work_done (wp sp : Nat) (X : Work) (root : Int) : CS 59 [ptr wp, int root] (WkR wp sp X) fun v H' => v = .tuple #[int (M.doneE X root).1, int (M.doneE X root).2] ∧ H' = WkR wp sp X := by
  refine CS.walk Tryz.func59 rfl Tryz.ntmps59 rfl fun c R => ?_
  (repeat (first | refine W.ctl rfl ?_ | refine W.op rfl rfl rfl rfl ?_ | refine W.skip rfl rfl ?_ | refine W.fld rfl rfl rfl rfl rfl ?_ | refine W.ld rfl rfl rfl rfl rfl ?_))
  by_cases h : X.e ≠ 0
  · refine W.yes rfl rfl rfl rfl h ?_
    (repeat (first | refine W.ctl rfl ?_ | refine W.op rfl rfl rfl rfl ?_ | refine W.skip rfl rfl ?_ | refine W.fld rfl rfl rfl rfl rfl ?_ | refine W.ld rfl rfl rfl rfl rfl ?_))
    refine W.draw (by kernel_rfl) (by kernel_rfl) ?_
    (repeat (first | refine W.ctl rfl ?_ | refine W.op rfl rfl rfl rfl ?_ | refine W.skip rfl rfl ?_ | refine W.fld rfl rfl rfl rfl rfl ?_ | refine W.ld rfl rfl rfl rfl rfl ?_))
    have e1 : M.doneE X root = (0, X.e) := by unfold M.doneE; rw [if_pos h]
    rw [e1]
    exact W.ret2 (.inr rfl) rfl rfl rfl _ ⟨rfl, rfl⟩ Imp.all
  · refine W.no rfl rfl rfl rfl h ?_
    (repeat (first | refine W.ctl rfl ?_ | refine W.op rfl rfl rfl rfl ?_ | refine W.skip rfl rfl ?_ | refine W.fld rfl rfl rfl rfl rfl ?_ | refine W.ld rfl rfl rfl rfl rfl ?_))
    have e1 : M.doneE X root = (root, 0) := by unfold M.doneE; rw [if_neg h]
    rw [e1]
    exact W.ret2 (.inr rfl) rfl rfl rfl _ ⟨rfl, rfl⟩ Imp.all
theorem encode_len (N : M.Node) : (M.encode N).1.length ≤ 1000000 := by
  unfold M.encode
  split
  · simp
  · rename_i h
    have hr : M.right N = true := by cases hh : M.right N <;> simp_all
    obtain ⟨q1, q2, q3, q4, q5, q6⟩ := right_bounds hr
    unfold M.encBody
    split
    · have hL := enc_len M.encK 49 N.vals (fun a v hv => by have := q4 v hv; simp [M.encK, M.be_length]; omega) N.keys (List.zipWith M.encK N.keys N.vals).length
      rw [List.take_length, List.length_zipWith] at hL
      simp only [List.length_cons]
      have : min N.keys.length N.vals.length ≤ 29 := by omega
      omega
    · have hL := enc_len M.encB 10 N.kids.tail (fun a v hv => by simp [M.encB, M.be_length]) N.keys (List.zipWith M.encB N.keys N.kids.tail).length
      rw [List.take_length, List.length_zipWith] at hL
      simp only [List.length_cons, List.length_append, M.be_length]
      have : min N.keys.length N.kids.tail.length ≤ 29 := by omega
      omega
theorem work_write (wp sp dp : Nat) (X : Work) (at' : Int) (N : M.Node) (x : NP) (hN : NB N) (hK : KB N) : CS 110 [ptr wp, int at', nodeV N x] (WkH wp sp dp X • NodeH N x)
    fun v H' => v = int at' ∧ H' = (WkH wp sp dp (X.write at' N) • NodeH N x) := by
  refine CS.walk Tryz.func110 rfl Tryz.ntmps110 rfl fun c R => ?_
  simp only [WkH, NodeH, NodeB, sep_assoc', emp_sep]
  (repeat (first | refine W.ctl rfl ?_ | refine W.op rfl rfl rfl rfl ?_ | refine W.skip rfl rfl ?_ | refine W.fld rfl rfl rfl rfl rfl ?_ | refine W.ld rfl rfl rfl rfl rfl ?_))
  refine W.box rfl rfl rfl rfl rfl fun nb => ?_
  (repeat (first | refine W.ctl rfl ?_ | refine W.op rfl rfl rfl rfl ?_ | refine W.skip rfl rfl ?_ | refine W.fld rfl rfl rfl rfl rfl ?_ | refine W.ld rfl rfl rfl rfl rfl ?_))
  refine W.lds rfl rfl rfl rfl rfl ?_
  (repeat (first | refine W.ctl rfl ?_ | refine W.op rfl rfl rfl rfl ?_ | refine W.skip rfl rfl ?_))
  refine W.call (node_Encode N x hN hK) rfl rfl rfl rfl Tryz.call149 ⟨rfl, trivial⟩ ?_
  rintro _ _ ⟨rfl, rfl⟩
  simp only [NodeH, NodeB, sep_assoc', emp_sep]
  (repeat (first | refine W.ctl rfl ?_ | refine W.op rfl rfl rfl rfl ?_ | refine W.skip rfl rfl ?_ | refine W.fld rfl rfl rfl rfl rfl ?_ | refine W.ld rfl rfl rfl rfl rfl ?_))
  by_cases h : (M.encode N).2 ≠ 0
  · refine W.yes rfl rfl rfl rfl h ?_
    (repeat (first | refine W.ctl rfl ?_ | refine W.op rfl rfl rfl rfl ?_ | refine W.skip rfl rfl ?_ | refine W.fld rfl rfl rfl rfl rfl ?_ | refine W.ld rfl rfl rfl rfl rfl ?_))
    refine W.call (work_fail wp sp X 2) rfl rfl rfl rfl Tryz.call70 ⟨rfl, rfl, trivial⟩ ?_
    rintro _ _ ⟨rfl, rfl⟩
    (repeat (first | refine W.ctl rfl ?_ | refine W.op rfl rfl rfl rfl ?_ | refine W.skip rfl rfl ?_ | refine W.fld rfl rfl rfl rfl rfl ?_ | refine W.ld rfl rfl rfl rfl rfl ?_))
    have e1 : X.write at' N = X.fail 2 := by unfold Work.write; rw [if_pos h]
    refine W.ret1 (.inr rfl) rfl rfl _ ⟨rfl, rfl⟩ ?_
    rw [e1, (fail_s X 2).1]
    simp only [sep_assoc', emp_sep]
    exact Imp.all
  · refine W.no rfl rfl rfl rfl h ?_
    (repeat (first | refine W.ctl rfl ?_ | refine W.op rfl rfl rfl rfl ?_ | refine W.skip rfl rfl ?_ | refine W.fld rfl rfl rfl rfl rfl ?_ | refine W.ld rfl rfl rfl rfl rfl ?_))
    refine W.call (shadow_Write sp dp X.s at' 2 (M.encode N).1 (by have := encode_len N; omega)) rfl rfl rfl rfl Tryz.call150 ⟨rfl, rfl, rfl, rfl, trivial⟩ ?_
    rintro _ _ ⟨rfl, rfl⟩
    (repeat (first | refine W.ctl rfl ?_ | refine W.op rfl rfl rfl rfl ?_ | refine W.skip rfl rfl ?_ | refine W.fld rfl rfl rfl rfl rfl ?_ | refine W.ld rfl rfl rfl rfl rfl ?_))
    refine W.call (work_fail wp sp { X with s := (X.s.write at' 2 (M.encode N).1).1 } (X.s.write at' 2 (M.encode N).1).2) rfl rfl rfl rfl Tryz.call70 ⟨rfl, rfl, trivial⟩ ?_
    rintro _ _ ⟨rfl, rfl⟩
    (repeat (first | refine W.ctl rfl ?_ | refine W.op rfl rfl rfl rfl ?_ | refine W.skip rfl rfl ?_ | refine W.fld rfl rfl rfl rfl rfl ?_ | refine W.ld rfl rfl rfl rfl rfl ?_))
    have e1 : X.write at' N = Work.fail { X with s := (X.s.write at' 2 (M.encode N).1).1 } (X.s.write at' 2 (M.encode N).1).2 := by unfold Work.write; rw [if_neg h]
    refine W.ret1 (.inr rfl) rfl rfl _ ⟨rfl, rfl⟩ ?_
    rw [e1, (fail_s _ _).1]
    simp only [sep_assoc', emp_sep]
    exact Imp.all
theorem work_fresh (wp sp dp : Nat) (X : Work) (N : M.Node) (x : NP) (hN : NB N) (hK : KB N) : CS 60 [ptr wp, nodeV N x] (WkH wp sp dp X • NodeH N x)
    fun v H' => v = int (X.fresh N).2 ∧ H' = (WkH wp sp dp (X.fresh N).1 • NodeH N x) := by
  refine CS.walk Tryz.func60 rfl Tryz.ntmps60 rfl fun c R => ?_
  simp only [WkH, NodeH, NodeB, sep_assoc', emp_sep]
  (repeat (first | refine W.ctl rfl ?_ | refine W.op rfl rfl rfl rfl ?_ | refine W.skip rfl rfl ?_ | refine W.fld rfl rfl rfl rfl rfl ?_ | refine W.ld rfl rfl rfl rfl rfl ?_))
  refine W.box rfl rfl rfl rfl rfl fun nb => ?_
  (repeat (first | refine W.ctl rfl ?_ | refine W.op rfl rfl rfl rfl ?_ | refine W.skip rfl rfl ?_ | refine W.fld rfl rfl rfl rfl rfl ?_ | refine W.ld rfl rfl rfl rfl rfl ?_))
  refine W.call (shadow_Take sp dp X.s) rfl rfl rfl rfl Tryz.call109 ⟨rfl, trivial⟩ ?_
  rintro _ _ ⟨rfl, rfl⟩
  (repeat (first | refine W.ctl rfl ?_ | refine W.op rfl rfl rfl rfl ?_ | refine W.skip rfl rfl ?_ | refine W.fld rfl rfl rfl rfl rfl ?_ | refine W.ld rfl rfl rfl rfl rfl ?_))
  refine W.call (work_fail wp sp { X with s := X.s.take.1 } X.s.take.2.2) rfl rfl rfl rfl Tryz.call70 ⟨rfl, rfl, trivial⟩ ?_
  rintro _ _ ⟨rfl, rfl⟩
  obtain ⟨W1, hW1⟩ : ∃ W1, Work.fail { X with s := X.s.take.1 } X.s.take.2.2 = W1 := ⟨_, rfl⟩
  have hs : W1.s = X.s.take.1 := by rw [← hW1]; exact (fail_s _ _).1
  have e0 : X.fresh N = if W1.e ≠ 0 then (W1, 0) else (W1.write X.s.take.2.1 N, X.s.take.2.1) := by unfold Work.fresh; rw [hW1]
  rw [hW1, ← hs]
  by_cases h : W1.e ≠ 0
  · rw [decide_eq_true h]
    rw [if_pos h] at e0
    (repeat (first | refine W.ctl rfl ?_ | refine W.op rfl rfl rfl rfl ?_ | refine W.skip rfl rfl ?_ | refine W.fld rfl rfl rfl rfl rfl ?_ | refine W.ld rfl rfl rfl rfl rfl ?_))
    rw [e0]
    refine W.ret1 (.inr rfl) rfl rfl _ ⟨rfl, rfl⟩ ?_
    simp only [sep_assoc', emp_sep]
    exact Imp.all
  · rw [decide_eq_false h]
    rw [if_neg h] at e0
    (repeat (first | refine W.ctl rfl ?_ | refine W.op rfl rfl rfl rfl ?_ | refine W.skip rfl rfl ?_ | refine W.fld rfl rfl rfl rfl rfl ?_ | refine W.ld rfl rfl rfl rfl rfl ?_))
    refine W.lds rfl rfl rfl rfl rfl ?_
    (repeat (first | refine W.ctl rfl ?_ | refine W.op rfl rfl rfl rfl ?_ | refine W.skip rfl rfl ?_))
    refine W.call (work_write wp sp dp W1 X.s.take.2.1 N x hN hK) rfl rfl rfl rfl Tryz.call110 ⟨rfl, rfl, rfl, trivial⟩ ?_
    rintro _ _ ⟨rfl, rfl⟩
    (repeat (first | refine W.ctl rfl ?_ | refine W.op rfl rfl rfl rfl ?_ | refine W.skip rfl rfl ?_ | refine W.fld rfl rfl rfl rfl rfl ?_ | refine W.ld rfl rfl rfl rfl rfl ?_))
    rw [e0]
    refine W.ret1 (.inr rfl) rfl rfl _ ⟨rfl, rfl⟩ ?_
    simp only [sep_assoc', emp_sep]
    exact Imp.all
theorem work_lay (wp sp dp : Nat) (X : Work) (at' : Int) (N : M.Node) (x : NP) (hN : NB N) (hK : KB N) (h0 : -9223372036854775808 ≤ at') (h1 : at' < 9223372036854775808) : CS 66 [ptr wp, int at', nodeV N x] (WkH wp sp dp X • NodeH N x)
    fun v H' => v = int (X.lay at' N).2 ∧ H' = (WkH wp sp dp (X.lay at' N).1 • NodeH N x) := by
  refine CS.walk Tryz.func66 rfl Tryz.ntmps66 rfl fun c R => ?_
  simp only [WkH, NodeH, NodeB, sep_assoc', emp_sep]
  (repeat (first | refine W.ctl rfl ?_ | refine W.op rfl rfl rfl rfl ?_ | refine W.skip rfl rfl ?_ | refine W.fld rfl rfl rfl rfl rfl ?_ | refine W.ld rfl rfl rfl rfl rfl ?_))
  refine W.box rfl rfl rfl rfl rfl fun nb => ?_
  (repeat (first | refine W.ctl rfl ?_ | refine W.op rfl rfl rfl rfl ?_ | refine W.skip rfl rfl ?_ | refine W.fld rfl rfl rfl rfl rfl ?_ | refine W.ld rfl rfl rfl rfl rfl ?_))
  refine W.call (shadow_Fresh sp dp X.s at') rfl rfl rfl rfl Tryz.call117 ⟨rfl, rfl, trivial⟩ ?_
  rintro _ _ ⟨rfl, rfl⟩
  by_cases h : at' ∈ X.s.fresh
  · rw [decide_eq_true h]
    (repeat (first | refine W.ctl rfl ?_ | refine W.op rfl rfl rfl rfl ?_ | refine W.skip rfl rfl ?_ | refine W.fld rfl rfl rfl rfl rfl ?_ | refine W.ld rfl rfl rfl rfl rfl ?_))
    refine W.lds rfl rfl rfl rfl rfl ?_
    (repeat (first | refine W.ctl rfl ?_ | refine W.op rfl rfl rfl rfl ?_ | refine W.skip rfl rfl ?_))
    refine W.call (work_write wp sp dp X at' N x hN hK) rfl rfl rfl rfl Tryz.call110 ⟨rfl, rfl, rfl, trivial⟩ ?_
    rintro _ _ ⟨rfl, rfl⟩
    (repeat (first | refine W.ctl rfl ?_ | refine W.op rfl rfl rfl rfl ?_ | refine W.skip rfl rfl ?_ | refine W.fld rfl rfl rfl rfl rfl ?_ | refine W.ld rfl rfl rfl rfl rfl ?_))
    have e1 : X.lay at' N = (X.write at' N, at') := by unfold Work.lay; rw [if_pos h]
    rw [e1]
    refine W.ret1 (.inr rfl) rfl rfl _ ⟨rfl, rfl⟩ ?_
    simp only [sep_assoc', emp_sep]
    exact Imp.all
  rw [decide_eq_false h]
  (repeat (first | refine W.ctl rfl ?_ | refine W.op rfl rfl rfl rfl ?_ | refine W.skip rfl rfl ?_ | refine W.fld rfl rfl rfl rfl rfl ?_ | refine W.ld rfl rfl rfl rfl rfl ?_))
  refine W.call (shadow_Give sp dp X.s at' h0 h1) rfl rfl rfl rfl Tryz.call71 ⟨rfl, rfl, trivial⟩ ?_
  rintro _ _ ⟨rfl, rfl⟩
  (repeat (first | refine W.ctl rfl ?_ | refine W.op rfl rfl rfl rfl ?_ | refine W.skip rfl rfl ?_ | refine W.fld rfl rfl rfl rfl rfl ?_ | refine W.ld rfl rfl rfl rfl rfl ?_))
  refine W.call (work_fail wp sp { X with s := (X.s.give at').1 } (X.s.give at').2) rfl rfl rfl rfl Tryz.call70 ⟨rfl, rfl, trivial⟩ ?_
  rintro _ _ ⟨rfl, rfl⟩
  obtain ⟨W1, hW1⟩ : ∃ W1, Work.fail { X with s := (X.s.give at').1 } (X.s.give at').2 = W1 := ⟨_, rfl⟩
  have hs : W1.s = (X.s.give at').1 := by rw [← hW1]; exact (fail_s _ _).1
  have e0 : X.lay at' N = if W1.e ≠ 0 then (W1, 0) else W1.fresh N := by unfold Work.lay; rw [if_neg h, hW1]
  rw [hW1, ← hs]
  by_cases h2 : W1.e ≠ 0
  · rw [decide_eq_true h2]
    rw [if_pos h2] at e0
    (repeat (first | refine W.ctl rfl ?_ | refine W.op rfl rfl rfl rfl ?_ | refine W.skip rfl rfl ?_ | refine W.fld rfl rfl rfl rfl rfl ?_ | refine W.ld rfl rfl rfl rfl rfl ?_))
    rw [e0]
    refine W.ret1 (.inr rfl) rfl rfl _ ⟨rfl, rfl⟩ ?_
    simp only [sep_assoc', emp_sep]
    exact Imp.all
  · rw [decide_eq_false h2]
    rw [if_neg h2] at e0
    (repeat (first | refine W.ctl rfl ?_ | refine W.op rfl rfl rfl rfl ?_ | refine W.skip rfl rfl ?_ | refine W.fld rfl rfl rfl rfl rfl ?_ | refine W.ld rfl rfl rfl rfl rfl ?_))
    refine W.lds rfl rfl rfl rfl rfl ?_
    (repeat (first | refine W.ctl rfl ?_ | refine W.op rfl rfl rfl rfl ?_ | refine W.skip rfl rfl ?_))
    refine W.call (work_fresh wp sp dp W1 N x hN hK) rfl rfl rfl rfl Tryz.call60 ⟨rfl, rfl, trivial⟩ ?_
    rintro _ _ ⟨rfl, rfl⟩
    (repeat (first | refine W.ctl rfl ?_ | refine W.op rfl rfl rfl rfl ?_ | refine W.skip rfl rfl ?_ | refine W.fld rfl rfl rfl rfl rfl ?_ | refine W.ld rfl rfl rfl rfl rfl ?_))
    rw [e0]
    refine W.ret1 (.inr rfl) rfl rfl _ ⟨rfl, rfl⟩ ?_
    simp only [sep_assoc', emp_sep]
    exact Imp.all
theorem node_ok (X : Work) (at' deep : Int) (h : (X.node at' deep).1.e = 0) : M.right (X.node at' deep).2 = true := by
  unfold Work.node at h ⊢
  dsimp only at h ⊢
  split at h
  · rename_i h1
    unfold Work.fail at h
    split at h
    · simp at h
    · rename_i h2; exact absurd h h2
  · rename_i h1
    rw [if_neg h1]
    split at h
    · rename_i h2; exact absurd h h2
    · rename_i h2
      rw [if_neg h2]
      obtain ⟨X1, hX1⟩ : ∃ X1, Work.fail { X with read := X.read + 1, s := (X.s.read at').1 } (X.s.read at').2.2.2 = X1 := ⟨_, rfl⟩
      rw [hX1] at h ⊢
      by_cases h3 : (X.s.read at').2.1 ≠ 2 ∨ (M.decode (X.s.read at').2.2.1).2 ≠ 0 ∨ deep > 10
      · rw [if_pos h3] at h
        unfold Work.fail at h
        split at h
        · simp at h
        · rename_i h4; exact absurd h h4
      · rw [if_neg h3]
        exact decode_right (by simp only [not_or, Decidable.not_not] at h3; exact h3.2.1)
theorem work_node (wp sp dp : Nat) (X : Work) (at' deep : Int) (h0 : 0 ≤ X.read) (h1 : X.read < 1000000) : CS 75 [ptr wp, int at', int deep] (WkH wp sp dp X)
    fun v H' => ∃ x, v = nodeV (X.node at' deep).2 x ∧ H' = (WkH wp sp dp (X.node at' deep).1 • NodeH (X.node at' deep).2 x) := by
  refine CS.walk Tryz.func75 rfl Tryz.ntmps75 rfl fun c R => ?_
  simp only [WkH, sep_assoc']
  (repeat (first | refine W.ctl rfl ?_ | refine W.op rfl rfl rfl rfl ?_ | refine W.skip rfl rfl ?_ | refine W.fld rfl rfl rfl rfl rfl ?_ | refine W.ld rfl rfl rfl rfl rfl ?_))
  refine W.alc rfl rfl rfl rfl fun nb => ?_
  (repeat (first | refine W.ctl rfl ?_ | refine W.op rfl rfl rfl rfl ?_ | refine W.skip rfl rfl ?_ | refine W.fld rfl rfl rfl rfl rfl ?_ | refine W.ld rfl rfl rfl rfl rfl ?_))
  refine W.ar (r := X.read + 1) rfl rfl rfl rfl rfl rfl rfl (wrap_i64 (by omega) (by omega)) ?_
  (repeat (first | refine W.ctl rfl ?_ | refine W.op rfl rfl rfl rfl ?_ | refine W.skip rfl rfl ?_ | refine W.fld rfl rfl rfl rfl rfl ?_ | refine W.ld rfl rfl rfl rfl rfl ?_))
  refine W.st rfl rfl rfl rfl rfl ?_
  (repeat (first | refine W.ctl rfl ?_ | refine W.op rfl rfl rfl rfl ?_ | refine W.skip rfl rfl ?_ | refine W.fld rfl rfl rfl rfl rfl ?_ | refine W.ld rfl rfl rfl rfl rfl ?_))
  by_cases h : 640 < X.read + 1
  · refine W.yes rfl rfl rfl rfl h ?_
    (repeat (first | refine W.ctl rfl ?_ | refine W.op rfl rfl rfl rfl ?_ | refine W.skip rfl rfl ?_ | refine W.fld rfl rfl rfl rfl rfl ?_ | refine W.ld rfl rfl rfl rfl rfl ?_))
    refine W.call (work_fail wp sp { X with read := X.read + 1 } 2) rfl rfl rfl rfl Tryz.call70 ⟨rfl, rfl, trivial⟩ ?_
    rintro _ _ ⟨rfl, rfl⟩
    (repeat (first | refine W.ctl rfl ?_ | refine W.op rfl rfl rfl rfl ?_ | refine W.skip rfl rfl ?_ | refine W.fld rfl rfl rfl rfl rfl ?_ | refine W.ld rfl rfl rfl rfl rfl ?_))
    refine W.lds rfl rfl rfl rfl rfl ?_
    refine W.sts rfl rfl rfl rfl rfl rfl ?_
    (repeat (first | refine W.ctl rfl ?_ | refine W.op rfl rfl rfl rfl ?_ | refine W.skip rfl rfl ?_ | refine W.fld rfl rfl rfl rfl rfl ?_ | refine W.ld rfl rfl rfl rfl rfl ?_))
    have e1 : X.node at' deep = (Work.fail { X with read := X.read + 1 } 2, M.Node.zero) := by unfold Work.node; rw [if_pos h]
    rw [e1]
    refine W.rets (.inr rfl) rfl (.cons (RV1.cells rfl) .nil) _ ⟨⟨none, 0, none, 0, none, 0⟩, rfl, rfl⟩ ?_
    rw [nodeH_zero, (fail_s _ _).1]
    simp only [sep_assoc', emp_sep]
    exact Imp.all
  refine W.no rfl rfl rfl rfl h ?_
  (repeat (first | refine W.ctl rfl ?_ | refine W.op rfl rfl rfl rfl ?_ | refine W.skip rfl rfl ?_ | refine W.fld rfl rfl rfl rfl rfl ?_ | refine W.ld rfl rfl rfl rfl rfl ?_))
  refine W.call (shadow_Read sp dp X.s at') rfl rfl rfl rfl Tryz.call122 ⟨rfl, rfl, trivial⟩ ?_
  rintro _ _ ⟨rfl, rfl⟩
  (repeat (first | refine W.ctl rfl ?_ | refine W.op rfl rfl rfl rfl ?_ | refine W.skip rfl rfl ?_ | refine W.fld rfl rfl rfl rfl rfl ?_ | refine W.ld rfl rfl rfl rfl rfl ?_))
  refine W.call (work_fail wp sp { X with read := X.read + 1, s := (X.s.read at').1 } (X.s.read at').2.2.2) rfl rfl rfl rfl Tryz.call70 ⟨rfl, rfl, trivial⟩ ?_
  rintro _ _ ⟨rfl, rfl⟩
  obtain ⟨W1, hW1⟩ : ∃ W1, Work.fail { X with read := X.read + 1, s := (X.s.read at').1 } (X.s.read at').2.2.2 = W1 := ⟨_, rfl⟩
  have hs : W1.s = (X.s.read at').1 := by rw [← hW1]; exact (fail_s _ _).1
  have e0 : X.node at' deep = if W1.e ≠ 0 then (W1, M.Node.zero) else if (X.s.read at').2.1 ≠ 2 ∨ (M.decode (X.s.read at').2.2.1).2 ≠ 0 ∨ deep > 10 then (W1.fail 2, M.Node.zero) else (W1, (M.decode (X.s.read at').2.2.1).1) := by
    unfold Work.node; rw [if_neg h]; dsimp only; rw [hW1]
  rw [hW1, ← hs]
  by_cases h2 : W1.e ≠ 0
  · rw [decide_eq_true h2]
    rw [if_pos h2] at e0
    (repeat (first | refine W.ctl rfl ?_ | refine W.op rfl rfl rfl rfl ?_ | refine W.skip rfl rfl ?_ | refine W.fld rfl rfl rfl rfl rfl ?_ | refine W.ld rfl rfl rfl rfl rfl ?_))
    refine W.lds rfl rfl rfl rfl rfl ?_
    refine W.sts rfl rfl rfl rfl rfl rfl ?_
    (repeat (first | refine W.ctl rfl ?_ | refine W.op rfl rfl rfl rfl ?_ | refine W.skip rfl rfl ?_ | refine W.fld rfl rfl rfl rfl rfl ?_ | refine W.ld rfl rfl rfl rfl rfl ?_))
    rw [e0]
    refine W.rets (.inr rfl) rfl (.cons (RV1.cells rfl) .nil) _ ⟨⟨none, 0, none, 0, none, 0⟩, rfl, rfl⟩ ?_
    rw [nodeH_zero]
    simp only [sep_assoc', emp_sep]
    exact Imp.all
  rw [decide_eq_false h2]
  rw [if_neg h2] at e0
  (repeat (first | refine W.ctl rfl ?_ | refine W.op rfl rfl rfl rfl ?_ | refine W.skip rfl rfl ?_ | refine W.fld rfl rfl rfl rfl rfl ?_ | refine W.ld rfl rfl rfl rfl rfl ?_))
  refine W.call (node_Decode (X.s.read at').2.2.1 (by have := read_text_len X.s at'; omega)) rfl rfl rfl rfl Tryz.call123 ⟨rfl, trivial⟩ ?_
  rintro _ _ ⟨x, rfl, rfl⟩
  (repeat (first | refine W.ctl rfl ?_ | refine W.op rfl rfl rfl rfl ?_ | refine W.skip rfl rfl ?_ | refine W.fld rfl rfl rfl rfl rfl ?_ | refine W.ld rfl rfl rfl rfl rfl ?_))
  refine W.sts rfl rfl rfl rfl rfl rfl ?_
  (repeat (first | refine W.ctl rfl ?_ | refine W.op rfl rfl rfl rfl ?_ | refine W.skip rfl rfl ?_ | refine W.fld rfl rfl rfl rfl rfl ?_ | refine W.ld rfl rfl rfl rfl rfl ?_))
  by_cases k1 : (X.s.read at').2.1 ≠ 2
  · refine W.yes rfl rfl rfl rfl k1 ?_
    rw [if_pos (.inl k1)] at e0
    (repeat (first | refine W.ctl rfl ?_ | refine W.op rfl rfl rfl rfl ?_ | refine W.skip rfl rfl ?_ | refine W.fld rfl rfl rfl rfl rfl ?_ | refine W.ld rfl rfl rfl rfl rfl ?_))
    refine W.call (work_fail wp sp W1 2) rfl rfl rfl rfl Tryz.call70 ⟨rfl, rfl, trivial⟩ ?_
    rintro _ _ ⟨rfl, rfl⟩
    (repeat (first | refine W.ctl rfl ?_ | refine W.op rfl rfl rfl rfl ?_ | refine W.skip rfl rfl ?_ | refine W.fld rfl rfl rfl rfl rfl ?_ | refine W.ld rfl rfl rfl rfl rfl ?_))
    refine W.bld rfl rfl rfl rfl rfl ?_
    refine W.sts rfl rfl rfl rfl rfl rfl ?_
    (repeat (first | refine W.ctl rfl ?_ | refine W.op rfl rfl rfl rfl ?_ | refine W.skip rfl rfl ?_ | refine W.fld rfl rfl rfl rfl rfl ?_ | refine W.ld rfl rfl rfl rfl rfl ?_))
    rw [e0]
    refine W.rets (.inr rfl) rfl (.cons (RV1.cells rfl) .nil) _ ⟨⟨none, 0, none, 0, none, 0⟩, rfl, rfl⟩ ?_
    rw [nodeH_zero, (fail_s _ _).1]
    simp only [NodeH, NodeB, sep_assoc', emp_sep]
    exact Imp.all
  refine W.no rfl rfl rfl rfl k1 ?_
  (repeat (first | refine W.ctl rfl ?_ | refine W.op rfl rfl rfl rfl ?_ | refine W.skip rfl rfl ?_ | refine W.fld rfl rfl rfl rfl rfl ?_ | refine W.ld rfl rfl rfl rfl rfl ?_))
  by_cases k2 : (M.decode (X.s.read at').2.2.1).2 ≠ 0
  · refine W.yes rfl rfl rfl rfl k2 ?_
    rw [if_pos (.inr (.inl k2))] at e0
    (repeat (first | refine W.ctl rfl ?_ | refine W.op rfl rfl rfl rfl ?_ | refine W.skip rfl rfl ?_ | refine W.fld rfl rfl rfl rfl rfl ?_ | refine W.ld rfl rfl rfl rfl rfl ?_))
    refine W.call (work_fail wp sp W1 2) rfl rfl rfl rfl Tryz.call70 ⟨rfl, rfl, trivial⟩ ?_
    rintro _ _ ⟨rfl, rfl⟩
    (repeat (first | refine W.ctl rfl ?_ | refine W.op rfl rfl rfl rfl ?_ | refine W.skip rfl rfl ?_ | refine W.fld rfl rfl rfl rfl rfl ?_ | refine W.ld rfl rfl rfl rfl rfl ?_))
    refine W.bld rfl rfl rfl rfl rfl ?_
    refine W.sts rfl rfl rfl rfl rfl rfl ?_
    (repeat (first | refine W.ctl rfl ?_ | refine W.op rfl rfl rfl rfl ?_ | refine W.skip rfl rfl ?_ | refine W.fld rfl rfl rfl rfl rfl ?_ | refine W.ld rfl rfl rfl rfl rfl ?_))
    rw [e0]
    refine W.rets (.inr rfl) rfl (.cons (RV1.cells rfl) .nil) _ ⟨⟨none, 0, none, 0, none, 0⟩, rfl, rfl⟩ ?_
    rw [nodeH_zero, (fail_s _ _).1]
    simp only [NodeH, NodeB, sep_assoc', emp_sep]
    exact Imp.all
  refine W.no rfl rfl rfl rfl k2 ?_
  (repeat (first | refine W.ctl rfl ?_ | refine W.op rfl rfl rfl rfl ?_ | refine W.skip rfl rfl ?_ | refine W.fld rfl rfl rfl rfl rfl ?_ | refine W.ld rfl rfl rfl rfl rfl ?_))
  by_cases k3 : 10 < deep
  · refine W.yes rfl rfl rfl rfl k3 ?_
    rw [if_pos (.inr (.inr k3))] at e0
    (repeat (first | refine W.ctl rfl ?_ | refine W.op rfl rfl rfl rfl ?_ | refine W.skip rfl rfl ?_ | refine W.fld rfl rfl rfl rfl rfl ?_ | refine W.ld rfl rfl rfl rfl rfl ?_))
    refine W.call (work_fail wp sp W1 2) rfl rfl rfl rfl Tryz.call70 ⟨rfl, rfl, trivial⟩ ?_
    rintro _ _ ⟨rfl, rfl⟩
    (repeat (first | refine W.ctl rfl ?_ | refine W.op rfl rfl rfl rfl ?_ | refine W.skip rfl rfl ?_ | refine W.fld rfl rfl rfl rfl rfl ?_ | refine W.ld rfl rfl rfl rfl rfl ?_))
    refine W.bld rfl rfl rfl rfl rfl ?_
    refine W.sts rfl rfl rfl rfl rfl rfl ?_
    (repeat (first | refine W.ctl rfl ?_ | refine W.op rfl rfl rfl rfl ?_ | refine W.skip rfl rfl ?_ | refine W.fld rfl rfl rfl rfl rfl ?_ | refine W.ld rfl rfl rfl rfl rfl ?_))
    rw [e0]
    refine W.rets (.inr rfl) rfl (.cons (RV1.cells rfl) .nil) _ ⟨⟨none, 0, none, 0, none, 0⟩, rfl, rfl⟩ ?_
    rw [nodeH_zero, (fail_s _ _).1]
    simp only [NodeH, NodeB, sep_assoc', emp_sep]
    exact Imp.all
  refine W.no rfl rfl rfl rfl k3 ?_
  rw [if_neg (by rintro (h | h | h) <;> contradiction)] at e0
  (repeat (first | refine W.ctl rfl ?_ | refine W.op rfl rfl rfl rfl ?_ | refine W.skip rfl rfl ?_ | refine W.fld rfl rfl rfl rfl rfl ?_ | refine W.ld rfl rfl rfl rfl rfl ?_))
  refine W.lds rfl rfl rfl rfl rfl ?_
  refine W.sts rfl rfl rfl rfl rfl rfl ?_
  (repeat (first | refine W.ctl rfl ?_ | refine W.op rfl rfl rfl rfl ?_ | refine W.skip rfl rfl ?_ | refine W.fld rfl rfl rfl rfl rfl ?_ | refine W.ld rfl rfl rfl rfl rfl ?_))
  rw [e0]
  refine W.rets (.inr rfl) rfl (.cons (RV1.cells rfl) .nil) _ ⟨x, rfl, rfl⟩ ?_
  simp only [NodeH, NodeB, sep_assoc', emp_sep]
  exact Imp.all
end Go.Proofs.YtbdhhedfplkidaaGreat
/- The way down a tree: a stack of spots. -/
namespace Go.Proofs.YtbdhhedfplkidaaGreat
open Go
open M (Str Store Work Spot)
set_option maxHeartbeats 400000
set_option maxRecDepth 2000
/-- A spot, and where its node's slices lie. -/
structure Sp where
  m : Spot
  y : NP
abbrev Sp.cells (s : Sp) : List Value := [int s.m.at', .bool s.m.n.leaf, sv s.y.ka s.m.n.keys.length s.y.kc, sv s.y.va s.m.n.vals.length s.y.vc, sv s.y.da s.m.n.kids.length s.y.dc, int s.m.i]
abbrev Sp.v (s : Sp) : Value := .agg s.cells.toArray
def spotsC : List Sp → List Value
  | [] => []
  | s :: l => s.cells ++ spotsC l
theorem spotsC_length : ∀ l, (spotsC l).length = l.length * 6
  | [] => rfl
  | s :: l => by simp only [spotsC, List.length_append, spotsC_length l, List.length_cons, List.length_nil]; omega
theorem spotsC_snoc : ∀ (l : List Sp) (s : Sp), spotsC (l ++ [s]) = spotsC l ++ s.cells
  | [], s => by simp [spotsC]
  | t :: l, s => by simp only [List.cons_append, spotsC, spotsC_snoc l s, List.append_assoc]
def nodesH : List Sp → HProp
  | [] => emp
  | s :: l => NodeH s.m.n s.y • nodesH l
theorem nodesH_snoc : ∀ (l : List Sp) (s : Sp), nodesH (l ++ [s]) = (nodesH l • NodeH s.m.n s.y)
  | [], s => by simp only [List.nil_append, nodesH, sep_emp', emp_sep]
  | t :: l, s => by simp only [List.cons_append, nodesH, nodesH_snoc l s, sep_assoc']
abbrev StkB (kp : Nat) (l : List Sp) (x : Option Nat × Nat) (R : HProp) : HProp := row kp 129 [sv x.1 l.length x.2] • slck 6 118 (sv x.1 l.length x.2) l.length (spotsC l) • R
def Stk (kp : Nat) (l : List Sp) : HProp := ex fun x => pr True • StkB kp l x emp
theorem Stk.opn (kp : Nat) (l : List Sp) (R : HProp) : Imp (Stk kp l • R) (ex fun x => pr True • StkB kp l x R) :=
  Imp.opn' fun x => by simp only [StkB, sep_assoc', emp_sep]
theorem Stk.mk {kp : Nat} {l : List Sp} (x : Option Nat × Nat) : Imp (StkB kp l x emp) (Stk kp l) := Imp.mk (B := fun x => StkB kp l x emp) (φ := fun _ => True) x trivial
theorem stack_push (kp : Nat) (l : List Sp) (s : Sp) (hl : l.length ≤ 1000) : CS 111 [ptr kp, s.v] (Stk kp l) fun v H' => v = .tuple #[] ∧ H' = Stk kp (l ++ [s]) := by
  refine CS.walk Tryz.func111 rfl Tryz.ntmps111 rfl fun c R => ?_
  refine W.open (Stk.opn kp l) rfl ?_
  rintro ⟨a, cap⟩ _
  (repeat (first | refine W.ctl rfl ?_ | refine W.op rfl rfl rfl rfl ?_ | refine W.skip rfl rfl ?_ | refine W.fld rfl rfl rfl rfl rfl ?_ | refine W.ld rfl rfl rfl rfl rfl ?_))
  refine W.box rfl rfl rfl rfl rfl fun b => ?_
  (repeat (first | refine W.ctl rfl ?_ | refine W.op rfl rfl rfl rfl ?_ | refine W.skip rfl rfl ?_ | refine W.fld rfl rfl rfl rfl rfl ?_ | refine W.ld rfl rfl rfl rfl rfl ?_))
  refine W.anyh (f := 5) (fun j => !Nat.beq j 10) [0, 1, 2, 3, 4, 5] (by kernel_rfl) (by kernel_rfl) (by kernel_rfl) (by kernel_rfl) rfl (row kp 129 [sv a l.length cap] • row b 118 s.cells) Imp.all ?_
  (repeat (first | refine W.ctl rfl ?_ | refine W.op rfl rfl rfl rfl ?_ | refine W.skip rfl rfl ?_ | refine W.fld rfl rfl rfl rfl rfl ?_ | refine W.ld rfl rfl rfl rfl rfl ?_))
  refine W.lds rfl rfl rfl rfl rfl ?_
  (repeat (first | refine W.ctl rfl ?_ | refine W.op rfl rfl rfl rfl ?_ | refine W.skip rfl rfl ?_ | refine W.fld rfl rfl rfl rfl rfl ?_ | refine W.ld rfl rfl rfl rfl rfl ?_))
  refine W.tdn ?_
  refine W.ald1 6 (by kernel_rfl) rfl ?_
  refine W.bsa rfl rfl rfl rfl rfl rfl rfl rfl fun g => ?_
  refine W.aft Imp.all ?_
  refine W.ald1 7 (by kernel_rfl) rfl ?_
  refine W.appk (kk := 6) (news := s.cells) rfl rfl rfl rfl rfl rfl rfl rfl rfl (by omega) (by omega) fun a' cap' => ?_
  refine W.aft Imp.all ?_
  refine W.ald1 8 (by kernel_rfl) rfl ?_
  (repeat (first | refine W.ctl rfl ?_ | refine W.op rfl rfl rfl rfl ?_ | refine W.skip rfl rfl ?_))
  refine W.aft Imp.all ?_
  refine W.ald1 9 (by kernel_rfl) rfl ?_
  refine W.fld rfl rfl rfl rfl rfl ?_
  refine W.aft Imp.all ?_
  refine W.ald1 10 (by kernel_rfl) rfl ?_
  refine W.st rfl rfl rfl rfl rfl ?_
  refine W.afb (W.adn (by kernel_rfl) ?_)
  (repeat (first | refine W.ctl rfl ?_ | refine W.op rfl rfl rfl rfl ?_ | refine W.skip rfl rfl ?_ | refine W.fld rfl rfl rfl rfl rfl ?_ | refine W.ld rfl rfl rfl rfl rfl ?_))
  have e := Stk.mk (kp := kp) (l := l ++ [s]) (a', cap')
  simp only [StkB, List.length_append, List.length_singleton, spotsC_snoc, sep_emp'] at e
  exact W.ret0 (.inl rfl) rfl _ ⟨rfl, rfl⟩ (Imp.pack e Imp.all)
abbrev spotZ : Value := .agg #[int 0, .bool false, .slice none 0 0, .slice none 0 0, .slice none 0 0, int 0]
theorem stack_pop0 (kp : Nat) : CS 62 [ptr kp] (Stk kp []) fun v H' => v = .tuple #[spotZ, .bool false] ∧ H' = Stk kp [] := by
  refine CS.walk Tryz.func62 rfl Tryz.ntmps62 rfl fun c R => ?_
  refine W.open (Stk.opn kp []) rfl ?_
  rintro ⟨a, cap⟩ _
  (repeat (first | refine W.ctl rfl ?_ | refine W.op rfl rfl rfl rfl ?_ | refine W.skip rfl rfl ?_ | refine W.fld rfl rfl rfl rfl rfl ?_ | refine W.ld rfl rfl rfl rfl rfl ?_))
  refine W.alc rfl rfl rfl rfl fun b => ?_
  (repeat (first | refine W.ctl rfl ?_ | refine W.op rfl rfl rfl rfl ?_ | refine W.skip rfl rfl ?_ | refine W.fld rfl rfl rfl rfl rfl ?_ | refine W.ld rfl rfl rfl rfl rfl ?_))
  refine W.len rfl rfl rfl rfl rfl ?_
  refine W.yes rfl rfl rfl rfl (by simp) ?_
  (repeat (first | refine W.ctl rfl ?_ | refine W.op rfl rfl rfl rfl ?_ | refine W.skip rfl rfl ?_ | refine W.fld rfl rfl rfl rfl rfl ?_ | refine W.ld rfl rfl rfl rfl rfl ?_))
  refine W.lds rfl rfl rfl rfl rfl ?_
  refine W.sts rfl rfl rfl rfl rfl rfl ?_
  (repeat (first | refine W.ctl rfl ?_ | refine W.op rfl rfl rfl rfl ?_ | refine W.skip rfl rfl ?_ | refine W.fld rfl rfl rfl rfl rfl ?_ | refine W.ld rfl rfl rfl rfl rfl ?_))
  exact W.rets (.inr rfl) rfl (.cons (RV1.cells rfl) (.cons (RV1.tmp rfl) .nil)) _ ⟨rfl, rfl⟩ (Imp.pack (Stk.mk (a, cap)) Imp.all)
theorem stack_pop (kp : Nat) (l : List Sp) (s : Sp) (hl : l.length ≤ 1000) : CS 62 [ptr kp] (Stk kp (l ++ [s])) fun v H' => v = .tuple #[s.v, .bool true] ∧ H' = Stk kp l := by
  refine CS.walk Tryz.func62 rfl Tryz.ntmps62 rfl fun c R => ?_
  refine W.open (Stk.opn kp (l ++ [s])) rfl ?_
  rintro ⟨a, cap⟩ _
  simp only [StkB, List.length_append, List.length_singleton, spotsC_snoc]
  (repeat (first | refine W.ctl rfl ?_ | refine W.op rfl rfl rfl rfl ?_ | refine W.skip rfl rfl ?_ | refine W.fld rfl rfl rfl rfl rfl ?_ | refine W.ld rfl rfl rfl rfl rfl ?_))
  refine W.alc rfl rfl rfl rfl fun b => ?_
  (repeat (first | refine W.ctl rfl ?_ | refine W.op rfl rfl rfl rfl ?_ | refine W.skip rfl rfl ?_ | refine W.fld rfl rfl rfl rfl rfl ?_ | refine W.ld rfl rfl rfl rfl rfl ?_))
  refine W.len rfl rfl rfl rfl rfl ?_
  refine W.no rfl rfl rfl rfl (by omega) ?_
  (repeat (first | refine W.ctl rfl ?_ | refine W.op rfl rfl rfl rfl ?_ | refine W.skip rfl rfl ?_ | refine W.fld rfl rfl rfl rfl rfl ?_ | refine W.ld rfl rfl rfl rfl rfl ?_))
  refine W.anyq (f := 1) (fun j => !Nat.beq j 12) [0, 1, 2, 3, 4, 5, 6, 7, 8, 9, 10, 11] (by kernel_rfl) (by kernel_rfl) (by kernel_rfl) (by kernel_rfl) rfl ?_
  (repeat (first | refine W.ctl rfl ?_ | refine W.op rfl rfl rfl rfl ?_ | refine W.skip rfl rfl ?_ | refine W.fld rfl rfl rfl rfl rfl ?_ | refine W.ld rfl rfl rfl rfl rfl ?_))
  refine W.len rfl rfl rfl rfl rfl ?_
  refine W.ar (r := (l.length : Int)) rfl rfl rfl rfl rfl rfl (congrArg some (by omega)) (wrap_i64 (by omega) (by omega)) ?_
  refine W.idxk rfl rfl rfl rfl rfl rfl (by omega) (by omega) ?_
  refine W.ldkr s.cells rfl rfl rfl rfl rfl rfl (fun j hj => by
    rw [Int.toNat_natCast, List.getElem?_append_right (by rw [spotsC_length]; omega), spotsC_length]
    congr 1; omega) ?_
  refine W.tdn ?_
  refine W.ald1 12 (by kernel_rfl) rfl ?_
  refine W.sts rfl rfl rfl rfl rfl rfl ?_
  refine W.afb (W.adn (by kernel_rfl) ?_)
  (repeat (first | refine W.ctl rfl ?_ | refine W.op rfl rfl rfl rfl ?_ | refine W.skip rfl rfl ?_ | refine W.fld rfl rfl rfl rfl rfl ?_ | refine W.ld rfl rfl rfl rfl rfl ?_))
  refine W.anyq (f := 1) (fun j => !Nat.beq j 14) [0, 1, 2, 3, 4, 5, 6, 7, 8, 9, 10, 11, 12, 13] (by kernel_rfl) (by kernel_rfl) (by kernel_rfl) (by kernel_rfl) rfl ?_
  (repeat (first | refine W.ctl rfl ?_ | refine W.op rfl rfl rfl rfl ?_ | refine W.skip rfl rfl ?_ | refine W.fld rfl rfl rfl rfl rfl ?_ | refine W.ld rfl rfl rfl rfl rfl ?_))
  refine W.len rfl rfl rfl rfl rfl ?_
  refine W.ar (r := (l.length : Int)) rfl rfl rfl rfl rfl rfl (congrArg some (by omega)) (wrap_i64 (by omega) (by omega)) ?_
  refine W.skf a 118 (fun f1 f2 f3 f4 => ?_)
  refine W.sltk rfl rfl rfl rfl rfl rfl (by omega) (by omega) ?_
  (repeat (first | refine W.ctl rfl ?_ | refine W.op rfl rfl rfl rfl ?_ | refine W.skip rfl rfl ?_ | refine W.fld rfl rfl rfl rfl rfl ?_ | refine W.ld rfl rfl rfl rfl rfl ?_))
  refine W.tdn ?_
  refine W.ald1 14 (by kernel_rfl) rfl ?_
  refine W.st rfl rfl rfl rfl rfl ?_
  refine W.afb (W.adn (by kernel_rfl) ?_)
  (repeat (first | refine W.ctl rfl ?_ | refine W.op rfl rfl rfl rfl ?_ | refine W.skip rfl rfl ?_ | refine W.fld rfl rfl rfl rfl rfl ?_ | refine W.ld rfl rfl rfl rfl rfl ?_))
  refine W.lds rfl rfl rfl rfl rfl ?_
  refine W.sts rfl rfl rfl rfl rfl rfl ?_
  (repeat (first | refine W.ctl rfl ?_ | refine W.op rfl rfl rfl rfl ?_ | refine W.skip rfl rfl ?_ | refine W.fld rfl rfl rfl rfl rfl ?_ | refine W.ld rfl rfl rfl rfl rfl ?_))
  rw [Int.toNat_natCast]
  refine W.skE (m := l.length + 1) a 118 rfl (by omega) ?_
  rintro g sp rfl q1 q2 q3 q4
  refine W.rets (.inr rfl) rfl (.cons (RV1.cells rfl) (.cons (RV1.tmp rfl) .nil)) _ ⟨rfl, rfl⟩ ?_
  rw [List.append_assoc] at q3 ⊢
  have e1 : Imp (row g 118 (spotsC l ++ (s.cells ++ sp))) (slck 6 118 (sv (some g) l.length cap) l.length (spotsC l)) := slck_mk (k := 6) (E := 118) (g := g) (n := l.length) (cap := cap) (xs := spotsC l) (sp := s.cells ++ sp) (spotsC_length l) (by omega) q2 q3
  have e2 := Stk.mk (kp := kp) (l := l) (some g, cap)
  simp only [StkB, sep_emp'] at e2
  exact Imp.trans (Imp.pack (K := row kp 129 [sv (some g) l.length cap] • R) e1 Imp.all) (Imp.pack e2 Imp.all)
end Go.Proofs.YtbdhhedfplkidaaGreat
/- The way down to a key's leaf; a key's value. -/
namespace Go.Proofs.YtbdhhedfplkidaaGreat
open Go
open M (Str Store Work Spot)
set_option maxHeartbeats 400000
set_option maxRecDepth 2000
theorem node_kb (X : Work) (at' deep : Int) : KB (X.node at' deep).2 := by
  have hz : KB M.Node.zero := fun k hk => by simp [M.Node.zero] at hk
  unfold Work.node
  dsimp only
  split
  · exact hz
  split
  · exact hz
  split
  · exact hz
  · exact decode_kb _
theorem node_read (X : Work) (at' deep : Int) : (X.node at' deep).1.read = X.read + 1 := by
  unfold Work.node
  dsimp only
  split
  · rw [(fail_s _ _).2]
  split
  · rw [(fail_s _ _).2]
  split
  · rw [(fail_s _ _).2, (fail_s _ _).2]
  · rw [(fail_s _ _).2]
theorem node_deep (X : Work) (at' deep : Int) (h : 10 < deep) : (X.node at' deep).1.e ≠ 0 := by
  have hf : ∀ (Y : Work) , (Y.fail 2).e ≠ 0 := fun Y => by
    unfold Work.fail
    split
    · simp
    · rename_i h; exact h
  unfold Work.node
  dsimp only
  split
  · exact hf _
  split
  · rename_i h; exact h
  split
  · exact hf _
  · rename_i h2; exact absurd (.inr (.inr h)) h2
theorem find_le (N : M.Node) (key : Nat) : (M.find N key).1 ≤ N.keys.length := by
  have h := place_le N.keys key
  unfold M.find
  split
  · exact h
  · dsimp only
    split
    · rename_i h2
      simp only [M.place, decide_eq_true_eq] at h2
      have := (List.getElem?_eq_some_iff.1 h2).1
      simp only [M.place]; omega
    · exact h
/-- What is known of a spot. -/
structure SpOk (s : Spot) : Prop where
  right : M.right s.n = true
  kb : KB s.n
  i : s.i ≤ s.n.keys.length
  a0 : -9223372036854775808 ≤ s.at'
  a1 : s.at' < 9223372036854775808
theorem work_way (wp sp dp : Nat) (X : Work) (root : Int) (key : Nat) (h0 : 0 ≤ X.read) (h1 : X.read < 900000) (r0 : -9223372036854775808 ≤ root) (r1 : root < 9223372036854775808) : CS 61 [ptr wp, int root, u64 key] (WkH wp sp dp X)
    fun v H' => ∃ kp l, (v = ptr kp ∧ l.map Sp.m = (M.way 11 X root 1 key []).2 ∧ l.length ≤ 11 ∧ ∀ s ∈ l, SpOk s.m) ∧ H' = (WkH wp sp dp (M.way 11 X root 1 key []).1 • Stk kp l • nodesH l) := by
  refine CS.walk Tryz.func61 rfl Tryz.ntmps61 rfl fun c R => ?_
  simp only [WkH, sep_assoc']
  (repeat (first | refine W.ctl rfl ?_ | refine W.op rfl rfl rfl rfl ?_ | refine W.skip rfl rfl ?_ | refine W.fld rfl rfl rfl rfl rfl ?_ | refine W.ld rfl rfl rfl rfl rfl ?_))
  refine W.bld rfl rfl rfl rfl rfl ?_
  refine W.box rfl rfl rfl rfl rfl fun kp => ?_
  (repeat (first | refine W.ctl rfl ?_ | refine W.op rfl rfl rfl rfl ?_ | refine W.skip rfl rfl ?_ | refine W.fld rfl rfl rfl rfl rfl ?_ | refine W.ld rfl rfl rfl rfl rfl ?_))
  refine W.imp (H' := WkR wp sp X • StoreP sp dp X.s • Stk kp [] • nodesH [] • R) rfl ?_ ?_
  · have e := Stk.mk (kp := kp) (l := []) (none, 0)
    simp only [StkB, List.length_nil, spotsC, skv_nil, sep_emp'] at e
    simp only [sv, Option.map_none] at e
    simp only [nodesH, emp_sep]
    exact Imp.trans (Imp.pack (K := WkR wp sp X • StoreP sp dp X.s • R) e Imp.all) Imp.all
  refine W.loop (σ := Nat × Work × Int × List Sp) (fun p => 1 ≤ p.1 ∧ p.1 ≤ 11 ∧ M.way p.1 p.2.1 p.2.2.1 (12 - p.1) key (p.2.2.2.map Sp.m) = M.way 11 X root 1 key [] ∧ 0 ≤ p.2.1.read ∧ p.2.1.read ≤ X.read + (11 - p.1) ∧ p.2.2.2.length + p.1 ≤ 11 ∧ (∀ s ∈ p.2.2.2, SpOk s.m) ∧ -9223372036854775808 ≤ p.2.2.1 ∧ p.2.2.1 < 9223372036854775808)
    (fun p => [(0, ptr wp), (2, u64 key), (7, ptr kp), (8, int p.2.2.1), (9, int (12 - p.1))]) (fun p => WkR wp sp p.2.1 • StoreP sp dp p.2.1.s • Stk kp p.2.2.2 • nodesH p.2.2.2 • R) (fun p => p.1) (11, X, root, []) ⟨by omega, by omega, rfl, h0, by dsimp only; omega, by simp, fun s hs => (by cases hs), r0, r1⟩ ⟨rfl, rfl, rfl, rfl, rfl, trivial⟩ Imp.all ?_
  rintro ⟨k, Y, at', l⟩ ⟨i1, i2, i3, i4, i5, i6, i7, i8, i9⟩
  dsimp only at i1 i2 i3 i4 i5 i6 i7 i8 i9 ⊢
  obtain ⟨k, rfl⟩ : ∃ j, k = j + 1 := ⟨k - 1, by omega⟩
  (repeat (first | refine W.ctl rfl ?_ | refine W.op rfl rfl rfl rfl ?_ | refine W.skip rfl rfl ?_ | refine W.fld rfl rfl rfl rfl rfl ?_ | refine W.ld rfl rfl rfl rfl rfl ?_))
  refine W.call (work_node wp sp dp Y at' (12 - (k + 1 : Nat)) i4 (by omega)) rfl rfl rfl rfl Tryz.call75 ⟨rfl, rfl, rfl, trivial⟩ ?_
  rintro _ _ ⟨x, rfl, rfl⟩
  obtain ⟨Z, hZ⟩ : ∃ Z, Y.node at' (12 - (k + 1 : Nat)) = Z := ⟨_, rfl⟩
  have z1 := node_kb Y at' (12 - (k + 1 : Nat))
  have z2 := node_read Y at' (12 - (k + 1 : Nat))
  have z3 := node_ok Y at' (12 - (k + 1 : Nat))
  have z4 := node_deep Y at' (12 - (k + 1 : Nat))
  rw [M.way] at i3
  rw [hZ] at z1 z2 z3 z4 i3 ⊢
  obtain ⟨Y', N⟩ := Z
  dsimp only at z1 z2 z3 z4 i3 ⊢
  simp only [NodeH, NodeB, sep_assoc', emp_sep]
  (repeat (first | refine W.ctl rfl ?_ | refine W.op rfl rfl rfl rfl ?_ | refine W.skip rfl rfl ?_ | refine W.fld rfl rfl rfl rfl rfl ?_ | refine W.ld rfl rfl rfl rfl rfl ?_))
  refine W.alc rfl rfl rfl rfl fun nb => ?_
  refine W.sts rfl rfl rfl rfl rfl rfl ?_
  (repeat (first | refine W.ctl rfl ?_ | refine W.op rfl rfl rfl rfl ?_ | refine W.skip rfl rfl ?_ | refine W.fld rfl rfl rfl rfl rfl ?_ | refine W.ld rfl rfl rfl rfl rfl ?_))
  by_cases he : Y'.e ≠ 0
  · refine W.yes rfl rfl rfl rfl he ?_
    (repeat (first | refine W.ctl rfl ?_ | refine W.op rfl rfl rfl rfl ?_ | refine W.skip rfl rfl ?_ | refine W.fld rfl rfl rfl rfl rfl ?_ | refine W.ld rfl rfl rfl rfl rfl ?_))
    rw [if_pos he] at i3
    refine W.ret1 (.inr rfl) rfl rfl _ ⟨kp, l, ⟨rfl, by rw [← i3], by omega, i7⟩, rfl⟩ ?_
    rw [← i3]
    simp only [sep_assoc']
    exact Imp.all
  refine W.no rfl rfl rfl rfl he ?_
  rw [if_neg he] at i3
  have hr := z3 (by simpa using he)
  have hNB := nb_right hr
  obtain ⟨q1, q2, q3, q4, q5, q6⟩ := right_bounds hr
  have hk0 : 0 < k := by
    rcases Nat.eq_zero_or_pos k with h | h
    · subst h; exact absurd (z4 (by omega)) he
    · exact h
  have hfl := find_le N key
  (repeat (first | refine W.ctl rfl ?_ | refine W.op rfl rfl rfl rfl ?_ | refine W.skip rfl rfl ?_ | refine W.fld rfl rfl rfl rfl rfl ?_ | refine W.ld rfl rfl rfl rfl rfl ?_))
  refine W.lds rfl rfl rfl rfl rfl ?_
  (repeat (first | refine W.ctl rfl ?_ | refine W.op rfl rfl rfl rfl ?_ | refine W.skip rfl rfl ?_))
  refine W.call (node_Find N x key hNB) rfl rfl rfl rfl Tryz.call79 ⟨rfl, rfl, trivial⟩ ?_
  rintro _ _ ⟨rfl, rfl⟩
  simp only [NodeH, NodeB, sep_assoc', emp_sep]
  (repeat (first | refine W.ctl rfl ?_ | refine W.op rfl rfl rfl rfl ?_ | refine W.skip rfl rfl ?_ | refine W.fld rfl rfl rfl rfl rfl ?_ | refine W.ld rfl rfl rfl rfl rfl ?_))
  refine W.keep [(0, ptr wp), (2, u64 key), (7, ptr kp), (9, int (12 - (k + 1 : Nat))), (10, ptr nb), (11, int (M.find N key).1), (34, ptr kp), (35, int at')] ⟨rfl, rfl, rfl, rfl, rfl, rfl, rfl, rfl, trivial⟩ ?_
  refine W.lds rfl rfl rfl rfl rfl ?_
  (repeat (first | refine W.ctl rfl ?_ | refine W.op rfl rfl rfl rfl ?_ | refine W.skip rfl rfl ?_))
  refine W.bld rfl rfl rfl rfl rfl ?_
  refine W.call (stack_push kp l ⟨⟨at', N, (M.find N key).1⟩, x⟩ (by omega)) rfl rfl rfl rfl Tryz.call111 ⟨rfl, rfl, trivial⟩ ?_
  rintro _ _ ⟨rfl, rfl⟩
  have hsp : ∀ s ∈ l ++ [(⟨⟨at', N, (M.find N key).1⟩, x⟩ : Sp)], SpOk s.m := by
    intro s hs
    rcases List.mem_append.1 hs with hs | hs
    · exact i7 s hs
    · simp at hs; subst hs; exact ⟨hr, z1, hfl, i8, i9⟩
  have hmap : (l ++ [(⟨⟨at', N, (M.find N key).1⟩, x⟩ : Sp)]).map Sp.m = l.map Sp.m ++ [⟨at', N, (M.find N key).1⟩] := by simp
  have hnod : nodesH (l ++ [(⟨⟨at', N, (M.find N key).1⟩, x⟩ : Sp)]) = (nodesH l • NodeH N x) := nodesH_snoc l _
  cases hl : N.leaf with
  | true =>
    rw [if_pos hl] at i3
    (repeat (first | refine W.ctl rfl ?_ | refine W.op rfl rfl rfl rfl ?_ | refine W.skip rfl rfl ?_ | refine W.fld rfl rfl rfl rfl rfl ?_ | refine W.ld rfl rfl rfl rfl rfl ?_))
    refine W.ret1 (.inr rfl) rfl rfl _ ⟨kp, _, ⟨rfl, by rw [hmap, ← i3], by simp; omega, hsp⟩, rfl⟩ ?_
    rw [← i3, hnod]
    simp only [NodeH, NodeB, sep_assoc', emp_sep]
    exact Imp.all
  | false =>
    rw [if_neg (by simp [hl])] at i3
    rw [hl, if_neg (by simp)] at q3
    have hki : (M.find N key).1 < N.kids.length := by omega
    have hkd := q5 _ (List.getElem_mem hki)
    (repeat (first | refine W.ctl rfl ?_ | refine W.op rfl rfl rfl rfl ?_ | refine W.skip rfl rfl ?_ | refine W.fld rfl rfl rfl rfl rfl ?_ | refine W.ld rfl rfl rfl rfl rfl ?_))
    refine W.idxk rfl rfl rfl rfl rfl rfl (by omega) (by omega) ?_
    refine W.ldk (v := int (N.kids[(M.find N key).1])) rfl rfl rfl rfl rfl (by simp [hki]) ?_
    (repeat (first | refine W.ctl rfl ?_ | refine W.op rfl rfl rfl rfl ?_ | refine W.skip rfl rfl ?_ | refine W.fld rfl rfl rfl rfl rfl ?_ | refine W.ld rfl rfl rfl rfl rfl ?_))
    refine W.ar (r := (12 - (k : Int))) rfl rfl rfl rfl rfl rfl (congrArg some (by omega)) (wrap_i64 (by omega) (by omega)) ?_
    (repeat (first | refine W.ctl rfl ?_ | refine W.op rfl rfl rfl rfl ?_ | refine W.skip rfl rfl ?_ | refine W.fld rfl rfl rfl rfl rfl ?_ | refine W.ld rfl rfl rfl rfl rfl ?_))
    refine W.again (k, Y', N.kids[(M.find N key).1], l ++ [⟨⟨at', N, (M.find N key).1⟩, x⟩]) ⟨by dsimp only; omega, by dsimp only; omega, ?_, by dsimp only; omega, by dsimp only; omega, by simp; omega, hsp, by dsimp only; omega, by dsimp only; omega⟩ (by dsimp only; omega) ⟨rfl, rfl, rfl, rfl, rfl, trivial⟩ ?_
    · dsimp only
      rw [hmap, ← i3]
      rw [show N.kids.getD (M.find N key).1 0 = N.kids[(M.find N key).1] by simp [List.getD_eq_getElem?_getD, hki]]
      congr 1
      omega
    · dsimp only
      rw [hnod]
      simp only [NodeH, NodeB, sep_assoc', emp_sep]
      exact Imp.all
theorem way_last : ∀ (f : Nat) (X : Work) (at' deep : Int) (key : Nat) (p : List Spot), deep + f = 12 → 1 ≤ f → (M.way f X at' deep key p).1.e = 0 → ∃ q s, (M.way f X at' deep key p).2 = q ++ [s] ∧ s.n.leaf = true ∧ s.i = (M.find s.n key).1
  | 0, _, _, _, _, _, _, hf, _ => by omega
  | f + 1, X, at', deep, key, p, hd, _, h => by
    rw [M.way] at h ⊢
    dsimp only at h ⊢
    by_cases he : (X.node at' deep).1.e ≠ 0
    · rw [if_pos he] at h; exact absurd h he
    · rw [if_neg he] at h ⊢
      by_cases hl : (X.node at' deep).2.leaf = true
      · rw [if_pos hl]
        exact ⟨p, _, rfl, hl, rfl⟩
      · rw [if_neg hl] at h ⊢
        rcases Nat.eq_zero_or_pos f with h0 | h0
        · subst h0
          exact absurd (node_deep X at' deep (by omega)) he
        · exact way_last f _ _ _ key _ (by omega) h0 h
theorem find_there {N : M.Node} {key : Nat} (hl : N.leaf = true) (h : (M.find N key).2 = true) : (M.find N key).1 < N.keys.length := by
  rw [M.find, if_pos hl] at h ⊢
  simp only [M.place, decide_eq_true_eq] at h ⊢
  exact (List.getElem?_eq_some_iff.1 h).1
theorem tree_Get (sp dp : Nat) (S : Store) (root : Int) (key : Nat) (r0 : -9223372036854775808 ≤ root) (r1 : root < 9223372036854775808) : CS 27 [ptr sp, int root, u64 key] (StoreP sp dp S)
    fun v H' => v = .tuple #[str (M.treeGet S root key).2.1, .bool (M.treeGet S root key).2.2.1, int (M.treeGet S root key).2.2.2] ∧ H' = StoreP sp dp (M.treeGet S root key).1 := by
  refine CS.walk Tryz.func27 rfl Tryz.ntmps27 rfl fun c R => ?_
  (repeat (first | refine W.ctl rfl ?_ | refine W.op rfl rfl rfl rfl ?_ | refine W.skip rfl rfl ?_ | refine W.fld rfl rfl rfl rfl rfl ?_ | refine W.ld rfl rfl rfl rfl rfl ?_))
  by_cases h : root = 0
  · refine W.yes rfl rfl rfl rfl h ?_
    (repeat (first | refine W.ctl rfl ?_ | refine W.op rfl rfl rfl rfl ?_ | refine W.skip rfl rfl ?_ | refine W.fld rfl rfl rfl rfl rfl ?_ | refine W.ld rfl rfl rfl rfl rfl ?_))
    have e : M.treeGet S root key = (S, [], false, 0) := by rw [M.treeGet, if_pos h]
    rw [e]
    exact W.ret3 (.inr rfl) rfl rfl rfl rfl _ ⟨rfl, rfl⟩ Imp.all
  refine W.no rfl rfl rfl rfl h ?_
  (repeat (first | refine W.ctl rfl ?_ | refine W.op rfl rfl rfl rfl ?_ | refine W.skip rfl rfl ?_ | refine W.fld rfl rfl rfl rfl rfl ?_ | refine W.ld rfl rfl rfl rfl rfl ?_))
  refine W.bld rfl rfl rfl rfl rfl ?_
  refine W.box rfl rfl rfl rfl rfl fun wp => ?_
  (repeat (first | refine W.ctl rfl ?_ | refine W.op rfl rfl rfl rfl ?_ | refine W.skip rfl rfl ?_ | refine W.fld rfl rfl rfl rfl rfl ?_ | refine W.ld rfl rfl rfl rfl rfl ?_))
  refine W.call (work_way wp sp dp ⟨S, 0, 0⟩ root key (by dsimp only; omega) (by dsimp only; omega) r0 r1) rfl rfl rfl rfl Tryz.call61 ⟨rfl, rfl, rfl, trivial⟩ ?_
  rintro _ _ ⟨kp, l, ⟨rfl, hl, hlen, hok⟩, rfl⟩
  obtain ⟨Z, hZ⟩ : ∃ Z, M.way 11 ⟨S, 0, 0⟩ root 1 key [] = Z := ⟨_, rfl⟩
  have wl := way_last 11 ⟨S, 0, 0⟩ root 1 key [] (by omega) (by omega)
  have e0 : M.treeGet S root key = if Z.1.e ≠ 0 then (Z.1.s, [], false, Z.1.e) else match Z.2.getLast? with
      | none => (Z.1.s, [], false, 0)
      | some sp => if (M.find sp.n key).2 then (Z.1.s, sp.n.vals.getD (M.find sp.n key).1 [], true, 0) else (Z.1.s, [], false, 0) := by rw [M.treeGet, if_neg h, hZ]; first | done | rfl
  rw [hZ] at wl hl ⊢
  obtain ⟨Y, p⟩ := Z
  dsimp only at wl hl e0 ⊢
  simp only [sep_assoc']
  by_cases he : Y.e ≠ 0
  · rw [if_pos he] at e0
    rcases List.eq_nil_or_concat l with rfl | ⟨q, s, rfl⟩
    · refine W.call (stack_pop0 kp) rfl rfl rfl rfl Tryz.call62 ⟨rfl, trivial⟩ ?_
      rintro _ _ ⟨rfl, rfl⟩
      (repeat (first | refine W.ctl rfl ?_ | refine W.op rfl rfl rfl rfl ?_ | refine W.skip rfl rfl ?_ | refine W.fld rfl rfl rfl rfl rfl ?_ | refine W.ld rfl rfl rfl rfl rfl ?_))
      refine W.alc rfl rfl rfl rfl fun b => ?_
      refine W.sts rfl rfl rfl rfl rfl rfl ?_
      (repeat (first | refine W.ctl rfl ?_ | refine W.op rfl rfl rfl rfl ?_ | refine W.skip rfl rfl ?_ | refine W.fld rfl rfl rfl rfl rfl ?_ | refine W.ld rfl rfl rfl rfl rfl ?_))
      refine W.yes rfl rfl rfl rfl he ?_
      (repeat (first | refine W.ctl rfl ?_ | refine W.op rfl rfl rfl rfl ?_ | refine W.skip rfl rfl ?_ | refine W.fld rfl rfl rfl rfl rfl ?_ | refine W.ld rfl rfl rfl rfl rfl ?_))
      refine W.draw (by kernel_rfl) (by kernel_rfl) ?_
      (repeat (first | refine W.ctl rfl ?_ | refine W.op rfl rfl rfl rfl ?_ | refine W.skip rfl rfl ?_ | refine W.fld rfl rfl rfl rfl rfl ?_ | refine W.ld rfl rfl rfl rfl rfl ?_))
      rw [e0]
      exact W.ret3 (.inr rfl) rfl rfl rfl rfl _ ⟨rfl, rfl⟩ Imp.all
    · simp only [List.concat_eq_append] at hlen ⊢
      refine W.call (stack_pop kp q s (by simp at hlen; omega)) rfl rfl rfl rfl Tryz.call62 ⟨rfl, trivial⟩ ?_
      rintro _ _ ⟨rfl, rfl⟩
      (repeat (first | refine W.ctl rfl ?_ | refine W.op rfl rfl rfl rfl ?_ | refine W.skip rfl rfl ?_ | refine W.fld rfl rfl rfl rfl rfl ?_ | refine W.ld rfl rfl rfl rfl rfl ?_))
      refine W.alc rfl rfl rfl rfl fun b => ?_
      refine W.sts rfl rfl rfl rfl rfl rfl ?_
      (repeat (first | refine W.ctl rfl ?_ | refine W.op rfl rfl rfl rfl ?_ | refine W.skip rfl rfl ?_ | refine W.fld rfl rfl rfl rfl rfl ?_ | refine W.ld rfl rfl rfl rfl rfl ?_))
      refine W.yes rfl rfl rfl rfl he ?_
      (repeat (first | refine W.ctl rfl ?_ | refine W.op rfl rfl rfl rfl ?_ | refine W.skip rfl rfl ?_ | refine W.fld rfl rfl rfl rfl rfl ?_ | refine W.ld rfl rfl rfl rfl rfl ?_))
      refine W.draw (by kernel_rfl) (by kernel_rfl) ?_
      (repeat (first | refine W.ctl rfl ?_ | refine W.op rfl rfl rfl rfl ?_ | refine W.skip rfl rfl ?_ | refine W.fld rfl rfl rfl rfl rfl ?_ | refine W.ld rfl rfl rfl rfl rfl ?_))
      rw [e0]
      exact W.ret3 (.inr rfl) rfl rfl rfl rfl _ ⟨rfl, rfl⟩ Imp.all
  rw [if_neg he] at e0
  obtain ⟨q', s', w1, w2, w3⟩ := wl (by simpa using he)
  rw [w1, List.getLast?_concat] at e0
  dsimp only at e0
  rcases List.eq_nil_or_concat l with rfl | ⟨q, s, rfl⟩
  · rw [w1] at hl; simp at hl
  simp only [List.concat_eq_append] at hlen hl hok ⊢
  rw [w1, List.map_append, List.map_cons, List.map_nil] at hl
  have hs : s.m = s' := by have := List.append_inj_right' hl rfl; simpa using this
  subst hs
  have so := hok s (by simp)
  refine W.call (stack_pop kp q s (by simp at hlen; omega)) rfl rfl rfl rfl Tryz.call62 ⟨rfl, trivial⟩ ?_
  rintro _ _ ⟨rfl, rfl⟩
  rw [nodesH_snoc]
  simp only [NodeH, NodeB, sep_assoc', emp_sep]
  (repeat (first | refine W.ctl rfl ?_ | refine W.op rfl rfl rfl rfl ?_ | refine W.skip rfl rfl ?_ | refine W.fld rfl rfl rfl rfl rfl ?_ | refine W.ld rfl rfl rfl rfl rfl ?_))
  refine W.alc rfl rfl rfl rfl fun b => ?_
  refine W.sts rfl rfl rfl rfl rfl rfl ?_
  (repeat (first | refine W.ctl rfl ?_ | refine W.op rfl rfl rfl rfl ?_ | refine W.skip rfl rfl ?_ | refine W.fld rfl rfl rfl rfl rfl ?_ | refine W.ld rfl rfl rfl rfl rfl ?_))
  refine W.no rfl rfl rfl rfl he ?_
  (repeat (first | refine W.ctl rfl ?_ | refine W.op rfl rfl rfl rfl ?_ | refine W.skip rfl rfl ?_ | refine W.fld rfl rfl rfl rfl rfl ?_ | refine W.ld rfl rfl rfl rfl rfl ?_))
  refine W.lds rfl rfl rfl rfl rfl ?_
  (repeat (first | refine W.ctl rfl ?_ | refine W.op rfl rfl rfl rfl ?_ | refine W.skip rfl rfl ?_))
  refine W.call (node_Find s.m.n s.y key (nb_right so.right)) rfl rfl rfl rfl Tryz.call79 ⟨rfl, rfl, trivial⟩ ?_
  rintro _ _ ⟨rfl, rfl⟩
  simp only [NodeH, NodeB, sep_assoc', emp_sep]
  (repeat (first | refine W.ctl rfl ?_ | refine W.op rfl rfl rfl rfl ?_ | refine W.skip rfl rfl ?_ | refine W.fld rfl rfl rfl rfl rfl ?_ | refine W.ld rfl rfl rfl rfl rfl ?_))
  refine W.case 43 rfl (fun hb => ?_) (fun hb => ?_)
  · rw [if_pos hb] at e0
    have hi := find_there w2 hb
    obtain ⟨q1, q2, _⟩ := right_bounds so.right
    rw [w2, if_pos rfl] at q2
    have hiv : (M.find s.m.n key).1 < s.m.n.vals.length := by omega
    (repeat (first | refine W.ctl rfl ?_ | refine W.op rfl rfl rfl rfl ?_ | refine W.skip rfl rfl ?_ | refine W.fld rfl rfl rfl rfl rfl ?_ | refine W.ld rfl rfl rfl rfl rfl ?_))
    refine W.idxk rfl rfl rfl rfl rfl rfl (by omega) (by omega) ?_
    refine W.ldk (v := str (s.m.n.vals[(M.find s.m.n key).1])) rfl rfl rfl rfl rfl (by simp [hiv]) ?_
    (repeat (first | refine W.ctl rfl ?_ | refine W.op rfl rfl rfl rfl ?_ | refine W.skip rfl rfl ?_ | refine W.fld rfl rfl rfl rfl rfl ?_ | refine W.ld rfl rfl rfl rfl rfl ?_))
    rw [e0, show s.m.n.vals.getD (M.find s.m.n key).1 [] = s.m.n.vals[(M.find s.m.n key).1] by simp [List.getD_eq_getElem?_getD, hiv]]
    exact W.ret3 (.inr rfl) rfl rfl rfl rfl _ ⟨rfl, rfl⟩ Imp.all
  · rw [if_neg (by simp [hb])] at e0
    (repeat (first | refine W.ctl rfl ?_ | refine W.op rfl rfl rfl rfl ?_ | refine W.skip rfl rfl ?_ | refine W.fld rfl rfl rfl rfl rfl ?_ | refine W.ld rfl rfl rfl rfl rfl ?_))
    rw [e0]
    exact W.ret3 (.inr rfl) rfl rfl rfl rfl _ ⟨rfl, rfl⟩ Imp.all
end Go.Proofs.YtbdhhedfplkidaaGreat
/- A key with a value is put. -/
namespace Go.Proofs.YtbdhhedfplkidaaGreat
open Go
open M (Str Store Work Spot)
set_option maxHeartbeats 1000000
set_option maxRecDepth 2000
/-- A node under way: as a page's, but for a key more. -/
structure Mid (n : M.Node) : Prop where
  keys : n.keys.length ≤ 1000
  fit : Fit n
  kb : KB n
  val : ∀ v ∈ n.vals, v.length ≤ 4294967296
theorem Mid.nb {n : M.Node} (h : Mid n) : NB n := by
  have h1 := h.keys
  have h2 := h.fit.vals
  have h3 := h.fit.kids
  refine ⟨by omega, ?_, ?_, h.val⟩
  · rw [h2]; split <;> omega
  · rw [h3]; split <;> omega
theorem mid_right {n : M.Node} (h : M.right n = true) (hk : KB n) : Mid n := by
  obtain ⟨h1, _, _, h4, _⟩ := right_bounds h
  exact ⟨by omega, fit_right h, hk, fun v hv => by have := h4 v hv; omega⟩
theorem laid_len {α β : Type} (xs ys : List α) (zs ws : List β) (a g : Int) (h : xs.length = zs.length) (h' : ys.length = ws.length) : (M.laid xs a g ys).length = (M.laid zs a g ws).length := by
  simp [M.laid, h, h']
theorem laid_le {α : Type} (xs ys : List α) (a g : Int) (hg : 0 ≤ g) (ha : 0 ≤ a) : (M.laid xs a g ys).length ≤ xs.length + ys.length := by
  simp only [M.laid, List.length_append, List.length_take, List.length_drop]; omega
theorem laid_mem {α : Type} {xs ys : List α} {a g : Int} {x : α} (h : x ∈ M.laid xs a g ys) : x ∈ xs ∨ x ∈ ys := by
  simp only [M.laid, List.mem_append] at h
  rcases h with (h | h) | h
  · exact .inl (List.mem_of_mem_take h)
  · exact .inr h
  · exact .inl (List.mem_of_mem_drop h)
theorem nput_mid {n : M.Node} {key : Nat} {value : Str} (h : Mid n) (h1 : n.keys.length ≤ 900) (hl : n.leaf = true) (hk : key < 18446744073709551616) (hv : value.length ≤ 4294967296) : Mid (M.nput n key value) := by
  have hf := h.fit.vals
  rw [hl, if_pos rfl] at hf
  rw [nput_leaf hl]
  refine ⟨?_, ⟨?_, by simp⟩, ?_, ?_⟩
  · have := laid_le n.keys [key] (M.place n.keys key).1 ((if (M.place n.keys key).2 = true then 1 else 0 : Nat) : Int) (by omega) (by omega)
    simp at this ⊢; omega
  · simp only [if_true]; exact laid_len _ _ _ _ _ _ hf rfl
  · intro k hk'
    rcases laid_mem hk' with hk' | hk'
    · exact h.kb k hk'
    · simp at hk'; omega
  · intro v hv'
    rcases laid_mem hv' with hv' | hv'
    · exact h.val v hv'
    · simp at hv'; subst hv'; exact hv
theorem nhang_mid {n : M.Node} {i key : Nat} {kid : Int} (h : Mid n) (h1 : n.keys.length ≤ 900) (hl : n.leaf = false) (hi : i ≤ n.keys.length) (hk : key < 18446744073709551616) : Mid (M.nhang n i key kid) := by
  have hf := h.fit.kids
  rw [hl, if_neg (by simp)] at hf
  rw [M.nhang, if_neg (by simp [hl]; omega)]
  refine ⟨?_, ⟨by simp, ?_⟩, ?_, by simp⟩
  · have := laid_le n.keys [key] i 0 (by omega) (by omega)
    simp at this ⊢; omega
  · simp only [Bool.false_eq_true, if_false, M.laid, List.length_append, List.length_take, List.length_drop, List.length_singleton]; omega
  · intro k hk'
    rcases laid_mem hk' with hk' | hk'
    · exact h.kb k hk'
    · simp at hk'; omega
theorem set_mid {n : M.Node} {i : Nat} {kid : Int} (h : Mid n) : Mid { n with kids := n.kids.set i kid } := ⟨h.keys, ⟨h.fit.vals, by simpa using h.fit.kids⟩, h.kb, h.val⟩
theorem kb_zero : KB M.Node.zero := fun k hk => by simp [M.Node.zero] at hk
theorem nfront_kb {n : M.Node} (h : KB n) (k : Nat) : KB (M.nfront n k) := by
  intro x hx
  unfold M.nfront at hx
  split at hx <;> exact h x (List.mem_of_mem_take hx)
theorem nback_kb {n : M.Node} (h : KB n) (k : Nat) : KB (M.nback n k) := by
  intro x hx
  unfold M.nback at hx
  split at hx <;> exact h x (List.mem_of_mem_drop hx)
theorem nback_nb {N : M.Node} (h : NB N) (k : Nat) : NB (M.nback N k) := by
  have h1 := h.keys
  have h2 := h.vals
  have h3 := h.kids
  unfold M.nback
  split
  · exact ⟨by simp; omega, by simp; omega, by simp, fun v hv => h.val v (List.mem_of_mem_drop hv)⟩
  · exact ⟨by simp; omega, by simp, by simp; omega, fun v hv => by simp at hv⟩
theorem nsplit_cases (n : M.Node) : M.nsplit n = (M.Node.zero, 0, M.Node.zero, false) ∨ ∃ k, M.nsplit n = (M.nfront n k, n.keys.getD k 0, M.nback n k, true) := by
  rw [M.nsplit]
  generalize (n.keys.length : Int) - 1 - (if n.leaf = true then 0 else 1) = m
  dsimp only
  by_cases h : m < 1
  · left; rw [if_pos h]
  · right; rw [if_neg h]; exact ⟨_, rfl⟩
theorem splitQ_ok {n : M.Node} (h : Mid n) : (NB (M.splitQ n).1 ∧ KB (M.splitQ n).1) ∧ (NB (M.splitQ n).2.2.1 ∧ KB (M.splitQ n).2.2.1) ∧ (M.splitQ n).2.1 < 18446744073709551616 := by
  unfold M.splitQ
  split
  · rcases nsplit_cases n with e | ⟨k, e⟩
    · rw [e]; exact ⟨⟨nb_zero, kb_zero⟩, ⟨nb_zero, kb_zero⟩, by simp⟩
    · rw [e]
      refine ⟨⟨nfront_nb h.nb _, nfront_kb h.kb _⟩, ⟨nback_nb h.nb _, nback_kb h.kb _⟩, ?_⟩
      dsimp only
      rw [List.getD_eq_getElem?_getD]
      cases hq : n.keys[k]? with
      | none => simp
      | some x => exact h.kb x (List.mem_of_getElem? hq)
  · exact ⟨⟨h.nb, h.kb⟩, ⟨nb_zero, kb_zero⟩, by simp⟩
theorem sk_row (g : Nat) (E : TypeId) (vs : List Value) (n : Nat) (hn : vs.length = n) (hm : n ≤ 1000) : Imp (row g E vs) (slck 1 E (sv (some g) n n) n vs) := by
  have := slck_mk (k := 1) (E := E) (g := g) (n := n) (cap := n) (xs := vs) (sp := []) (by omega) (Nat.le_refl _) (by simp only [maxLen]; omega) (by simp; omega)
  rw [List.append_nil] at this
  exact this
theorem way_branch : ∀ (f : Nat) (X : Work) (at' deep : Int) (key : Nat) (p : List Spot), (∀ t ∈ p, t.n.leaf = false) → ∀ q s, (M.way f X at' deep key p).2 = q ++ [s] → ∀ t ∈ q, t.n.leaf = false
  | 0, X, at', deep, key, p, hp, q, s, h => by
    intro t ht
    rw [M.way] at h
    exact hp t (by dsimp only at h; rw [h]; simp [ht])
  | f + 1, X, at', deep, key, p, hp, q, s, h => by
    intro t ht
    rw [M.way] at h
    dsimp only at h
    split at h
    · exact hp t (by dsimp only at h; rw [h]; simp [ht])
    · split at h
      · dsimp only at h
        have := List.append_inj_left' h rfl
        exact hp t (by rw [this]; exact ht)
      · rename_i hl
        refine way_branch f _ _ _ key _ ?_ q s h t ht
        intro u hu
        rcases List.mem_append.1 hu with hu | hu
        · exact hp u hu
        · simp at hu; subst hu; simpa using hl
theorem putUp_eq (above : List Spot) (w : Work) (at' : Int) (n : M.Node) : M.putUp above w at' n =
    if M.nsize n > 240 ∧ (M.splitQ n).2.2.2 = false then ({ w with e := 2 }, 0) else
    if (M.splitQ n).2.2.2 = true then
      if (w.lay at' (M.splitQ n).1).1.e ≠ 0 then ((w.lay at' (M.splitQ n).1).1, 0) else
      if ((w.lay at' (M.splitQ n).1).1.fresh (M.splitQ n).2.2.1).1.e ≠ 0 then (((w.lay at' (M.splitQ n).1).1.fresh (M.splitQ n).2.2.1).1, 0) else
      match above with
      | [] => ((w.lay at' (M.splitQ n).1).1.fresh (M.splitQ n).2.2.1).1.fresh ⟨false, [(M.splitQ n).2.1], [], [(w.lay at' (M.splitQ n).1).2, ((w.lay at' (M.splitQ n).1).1.fresh (M.splitQ n).2.2.1).2]⟩
      | x :: above => M.putUp above ((w.lay at' (M.splitQ n).1).1.fresh (M.splitQ n).2.2.1).1 x.at' (M.nhang { x.n with kids := x.n.kids.set x.i (w.lay at' (M.splitQ n).1).2 } x.i (M.splitQ n).2.1 ((w.lay at' (M.splitQ n).1).1.fresh (M.splitQ n).2.2.1).2)
    else
      if (w.lay at' (M.splitQ n).1).1.e ≠ 0 then ((w.lay at' (M.splitQ n).1).1, 0) else
      match above with
      | [] => ((w.lay at' (M.splitQ n).1).1, (w.lay at' (M.splitQ n).1).2)
      | x :: above => M.putUp above (w.lay at' (M.splitQ n).1).1 x.at' { x.n with kids := x.n.kids.set x.i (w.lay at' (M.splitQ n).1).2 } := by
  cases above with
  | nil =>
    rw [M.putUp]
    dsimp only
    by_cases h1 : M.nsize n > 240 ∧ (M.splitQ n).2.2.2 = false
    · rw [if_pos h1, if_pos h1]
    · rw [if_neg h1, if_neg h1]
      cases h2 : (M.splitQ n).2.2.2 with
      | true =>
        by_cases h3 : (w.lay at' (M.splitQ n).1).1.e ≠ 0
        · simp [h3]
        · simp [show (w.lay at' (M.splitQ n).1).1.e = 0 by simpa using h3]
      | false => simp
  | cons x above =>
    rw [M.putUp]
    dsimp only
    by_cases h1 : M.nsize n > 240 ∧ (M.splitQ n).2.2.2 = false
    · rw [if_pos h1, if_pos h1]
    · rw [if_neg h1, if_neg h1]
      cases h2 : (M.splitQ n).2.2.2 with
      | true =>
        by_cases h3 : (w.lay at' (M.splitQ n).1).1.e ≠ 0
        · simp [h3]
        · simp [show (w.lay at' (M.splitQ n).1).1.e = 0 by simpa using h3]
      | false => simp
end Go.Proofs.YtbdhhedfplkidaaGreat
