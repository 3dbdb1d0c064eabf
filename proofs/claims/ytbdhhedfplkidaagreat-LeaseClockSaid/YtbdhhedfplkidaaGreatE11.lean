/- Regions that draw their order and in which several loud operations run side by side: each side goes by itself; whatever way they are mixed, all is well. -/
import Derived.Test.YtbdhhedfplkidaaGreatE10
namespace Go.Proofs.YtbdhhedfplkidaaGreat
open Go
def sl : List Nat → List Value → List (Nat × Value)
  | k :: ks, v :: vs => (k, v) :: sl ks vs
  | _, _ => []
theorem sl_fst : ∀ (ks : List Nat) (vs : List Value), ks.length = vs.length → (sl ks vs).map (·.1) = ks
  | [], [], _ => rfl
  | k :: ks, v :: vs, h => by simp only [sl, List.map_cons, sl_fst ks vs (by simpa using h)]
  | [], _ :: _, h => by cases h
  | _ :: _, [], h => by cases h
/-- All these slots hold these values. -/
structure AllS (a : Act) (n : Nat) (l : List (Nat × Value)) : Prop where
  defers : a.defers = []
  size : a.tmps.size = n
  all : ∀ p ∈ l, a.tmps[p.1]? = some p.2
theorem lk_mem : ∀ (l : List (Nat × Value)) (i : Nat) (v : Value), lk i l = some v → (i, v) ∈ l
  | [], _, _, h => by cases h
  | (j, u) :: l, i, v, h => by
    simp only [lk] at h
    cases hb : Nat.beq i j with
    | true => rw [hb] at h; have := Nat.eq_of_beq_eq_true hb; subst this; simp at h; simp [h]
    | false => rw [hb] at h; exact List.mem_cons_of_mem _ (lk_mem l i v (by simpa using h))
theorem mem_lk : ∀ (l : List (Nat × Value)) (p : Nat × Value), (l.map (·.1)).Nodup → p ∈ l → lk p.1 l = some p.2
  | [], _, _, h => by cases h
  | (j, u) :: l, p, hn, h => by
    simp only [List.map_cons, List.nodup_cons] at hn
    simp only [lk]
    rcases List.mem_cons.1 h with rfl | h'
    · simp
    · have hne : p.1 ≠ j := by
        rintro rfl
        exact hn.1 (List.mem_map_of_mem (f := (·.1)) h')
      have hb : Nat.beq p.1 j = false := by
        cases hb : Nat.beq p.1 j with
        | false => rfl
        | true => exact absurd (Nat.eq_of_beq_eq_true hb) hne
      rw [hb]
      exact mem_lk l p hn.2 h'
theorem AllS.fr {a : Act} {n : Nat} {l : List (Nat × Value)} (h : AllS a n l) : Fr a n l := ⟨h.defers, h.size, fun i v hv => h.all (i, v) (lk_mem l i v hv)⟩
theorem AllS.of {a : Act} {n : Nat} {l : List (Nat × Value)} (h : Fr a n l) (hn : (l.map (·.1)).Nodup) : AllS a n l := ⟨h.defers, h.size, fun p hp => h.slot p.1 p.2 (mem_lk l p hn hp)⟩
theorem AllS.sub {a : Act} {n : Nat} {l l' : List (Nat × Value)} (h : AllS a n l) (hs : ∀ p ∈ l', p ∈ l) : AllS a n l' := ⟨h.defers, h.size, fun p hp => h.all p (hs p hp)⟩
def dOf (all : Array Oper) (i : Nat) : Nat := match nthL all.toList i with
  | some o => o.dst.getD 0
  | none => 0
/-- One side: its operations, the slots it has written so far and what they hold, its part of the blocks. -/
def Thr (c : World) (Q : Exit → Act → World → Prop) (n : Nat) (all : Array Oper) (ks : List Kn) (base : List (Nat × Value)) (E : List (Nat × Value) → HProp → Prop) : List Nat → List Nat → List Value → HProp → Prop
  | [], kz, vs, h => E (sl kz vs) h
  | i :: is, kz, vs, h => ∃ o d, nthL all.toList i = some o ∧ o.dst = some d ∧ ∀ (b : Bool) (J : Nat → Bool) (S : World → Prop) (f : Nat) (li : Array Bool) (lx : List (Nat × Value)) (F : HProp),
      (∀ v (h1 : HProp), Thr c Q n all ks base E is (d :: kz) (v :: vs) h1 → WS c Q n (.ops (.aft b J S f li) all [] ks) ((d, v) :: (sl kz vs ++ (base ++ lx))) (h1 • F)) →
      WS c Q n (.ops (.one b J S f li) all [o] ks) (sl kz vs ++ (base ++ lx)) (h • F)
section
variable {c : World} {Q : Exit → Act → World → Prop} {n : Nat} {all : Array Oper} {ks : List Kn} {base : List (Nat × Value)} {J : Nat → Bool} {Hs F : HProp}
theorem par_step {E : List (Nat × Value) → HProp → Prop} {i : Nat} {is kz : List Nat} {vs : List Value} {h : HProp} (t : Thr c Q n all ks base E (i :: is) kz vs h) {f : Nat} {li : Array Bool}
    (lx : List (Nat × Value)) (G : HProp) (hnd : ((dOf all i :: kz) ++ (base.map (·.1) ++ lx.map (·.1))).Nodup) (hlen : kz.length = vs.length) {a : Act} {w : World} (hf : AllS a n (sl kz vs ++ (base ++ lx))) (hs : SL c (h • G) w)
    (hG : ∀ h1 : HProp, Imp (h1 • G) Hs)
    (k : ∀ v (h1 : HProp), Thr c Q n all ks base E is (dOf all i :: kz) (v :: vs) h1 → ∀ a' w', AllS a' n (sl (dOf all i :: kz) (v :: vs) ++ (base ++ lx)) → SL c (h1 • G) w' → anyJ all (Qk Q ks) J (SL c Hs) f (li.setIfInBounds i true) a' w') :
    wpOp Pg all (Qk Q ks) i (fun a' w' => (J i = true → SL c Hs w') ∧ anyJ all (Qk Q ks) J (SL c Hs) f (li.setIfInBounds i true) a' w') a w := by
  obtain ⟨o, d, hi, hd, t⟩ := t
  have hdo : dOf all i = d := by simp only [dOf, hi, hd, Option.getD_some]
  rw [hdo] at hnd k
  have h1 := t (J i) J (SL c Hs) f (li.setIfInBounds i true) lx G (fun v h1 ht a' w' hf' hs' => ⟨fun _ => hs'.imp (hG h1), k v h1 ht a' w' (AllS.of hf' (by
    have e : (sl (d :: kz) (v :: vs) ++ (base ++ lx)).map (·.1) = (d :: kz) ++ (base.map (·.1) ++ lx.map (·.1)) := by rw [List.map_append, List.map_append, sl_fst _ _ (by simpa using hlen)]
    exact e ▸ hnd)) hs'⟩) a w hf.fr hs
  exact anyOp (nthL_arr hi) h1
def headIs : List Nat → Nat → Bool
  | [], _ => false
  | i :: _, j => Nat.beq i j
def parOk (all : Array Oper) : Nat → Array Bool → List Nat → List Nat → List Nat → Bool
  | 0, _, A, B, C => A.isEmpty && B.isEmpty && C.isEmpty
  | m + 1, li, A, B, C => !(Region.ready .any all li).isEmpty && (Region.ready .any all li).all (fun i => headIs A i || headIs B i || headIs C i) &&
    (match A with
      | [] => true
      | i :: A' => !(Region.ready .any all li).contains i || parOk all m (li.setIfInBounds i true) A' B C) &&
    (match B with
      | [] => true
      | i :: B' => !(Region.ready .any all li).contains i || parOk all m (li.setIfInBounds i true) A B' C) &&
    (match C with
      | [] => true
      | i :: C' => !(Region.ready .any all li).contains i || parOk all m (li.setIfInBounds i true) A B C')
def nodupB : List Nat → Bool
  | [] => true
  | k :: l => l.all (fun j => !Nat.beq k j) && nodupB l
theorem nodupB_spec : ∀ l, nodupB l = true → l.Nodup
  | [], _ => by simp
  | k :: l, h => by
    simp only [nodupB, Bool.and_eq_true, List.all_eq_true] at h
    refine List.nodup_cons.2 ⟨fun hm => ?_, nodupB_spec l h.2⟩
    have := h.1 k hm
    simp at this
theorem setL_set : ∀ (is : List Nat) (li : Array Bool) (i : Nat), setL (li.setIfInBounds i true) is = (setL li is).setIfInBounds i true
  | [], _, _ => rfl
  | j :: is, li, i => by
    simp only [setL]
    by_cases h : i = j
    · subst h; rw [setL_set is]
    · rw [Array.setIfInBounds_comm _ _ h, setL_set is]
theorem setL_append : ∀ (is js : List Nat) (li : Array Bool), setL li (is ++ js) = setL (setL li is) js
  | [], _, _ => rfl
  | i :: is, js, li => by simp only [List.cons_append, setL, setL_append is js]
theorem headIs_spec {A : List Nat} {i : Nat} (h : headIs A i = true) : ∃ A', A = i :: A' := by
  cases A with
  | nil => cases h
  | cons j A => have := Nat.eq_of_beq_eq_true h; subst this; exact ⟨A, rfl⟩
theorem par_run {EA EB EC : List (Nat × Value) → HProp → Prop} {f : Nat} {liE : Array Bool} (hF : Imp F Hs)
    (fin : ∀ la ha lb hb lc hc, EA la ha → EB lb hb → EC lc hc → ∀ a w, AllS a n (la ++ (lb ++ (lc ++ base))) → SL c (ha • hb • hc • F) w → anyJ all (Qk Q ks) J (SL c Hs) f liE a w) :
    ∀ (m : Nat) (A B C kA kB kC : List Nat) (va vb vc : List Value) (ha hb hc : HProp) (li : Array Bool), A.length + B.length + C.length = m → parOk all m li A B C = true → setL li (A ++ B ++ C) = liE →
      Thr c Q n all ks base EA A kA va ha → Thr c Q n all ks base EB B kB vb hb → Thr c Q n all ks base EC C kC vc hc → kA.length = va.length → kB.length = vb.length → kC.length = vc.length →
      ((A.map (dOf all) ++ kA) ++ ((B.map (dOf all) ++ kB) ++ ((C.map (dOf all) ++ kC) ++ base.map (·.1)))).Nodup →
      ∀ a w, AllS a n (sl kA va ++ (sl kB vb ++ (sl kC vc ++ base))) → SL c (ha • hb • hc • F) w → anyJ all (Qk Q ks) J (SL c Hs) (f + m) li a w := by
  intro m
  induction m with
  | zero =>
    intro A B C kA kB kC va vb vc ha hb hc li hm hok hli tA tB tC _ _ _ _ a w hf hs
    obtain rfl : A = [] := List.eq_nil_of_length_eq_zero (by omega)
    obtain rfl : B = [] := List.eq_nil_of_length_eq_zero (by omega)
    obtain rfl : C = [] := List.eq_nil_of_length_eq_zero (by omega)
    simp only [setL, List.append_nil] at hli
    subst hli
    exact fin _ _ _ _ _ _ tA tB tC a w hf hs
  | succ m ih =>
    intro A B C kA kB kC va vb vc ha hb hc li hm hok hli tA tB tC lA lB lC hnd a w hf hs
    simp only [parOk, Bool.and_eq_true, Bool.not_eq_true', List.isEmpty_eq_false_iff, List.all_eq_true, Bool.or_eq_true] at hok
    obtain ⟨⟨⟨⟨hne, hall⟩, hA⟩, hB⟩, hC⟩ := hok
    refine ⟨fun h => absurd h hne, fun j hj => ?_⟩
    have hcon : (Region.ready .any all li).contains j = true := by simpa using hj
    rcases hall j hj with (h | h) | h
    · obtain ⟨A', rfl⟩ := headIs_spec h
      simp only [hcon, Bool.not_true] at hA
      simp only [List.length_cons] at hm
      refine par_step tA (sl kB vb ++ sl kC vc) (hb • hc • F) ?_ lA (hf.sub ?_) hs (fun h1 => (Imp.right _ _).trans ((Imp.right _ _).trans ((Imp.right _ _).trans hF))) ?_
      · simp only [List.map_append, sl_fst _ _ lB, sl_fst _ _ lC]
        simp only [List.nodup_iff_count] at hnd ⊢
        intro x
        have := hnd x
        simp only [List.map_cons, List.count_append, List.count_cons] at this ⊢
        omega
      · intro p hp; simp only [List.mem_append] at hp ⊢; rcases hp with h | h | h | h <;> simp [h]
      · intro v h1 ht a' w' hf' hs'
        refine ih A' B C (dOf all j :: kA) kB kC (v :: va) vb vc h1 hb hc _ (by omega) hA ?_ ht tB tC (by simp [lA]) lB lC ?_ a' w' (hf'.sub ?_) hs'
        · rw [← hli]; rfl
        · simp only [List.nodup_iff_count] at hnd ⊢
          intro x
          have := hnd x
          simp only [List.map_cons, List.count_append, List.count_cons] at this ⊢
          omega
        · intro p hp; simp only [List.mem_append] at hp ⊢; rcases hp with h | h | h | h <;> simp [h]
    · obtain ⟨B', rfl⟩ := headIs_spec h
      simp only [hcon, Bool.not_true] at hB
      simp only [List.length_cons] at hm
      refine par_step tB (sl kA va ++ sl kC vc) (ha • hc • F) ?_ lB (hf.sub ?_) (hs.imp (Imp.of_eq (by ac_rfl))) (fun h1 => (Imp.right _ _).trans ((Imp.right _ _).trans ((Imp.right _ _).trans hF))) ?_
      · simp only [List.map_append, sl_fst _ _ lA, sl_fst _ _ lC]
        simp only [List.nodup_iff_count] at hnd ⊢
        intro x
        have := hnd x
        simp only [List.map_cons, List.count_append, List.count_cons] at this ⊢
        omega
      · intro p hp; simp only [List.mem_append] at hp ⊢; rcases hp with h | h | h | h <;> simp [h]
      · intro v h1 ht a' w' hf' hs'
        refine ih A B' C kA (dOf all j :: kB) kC va (v :: vb) vc ha h1 hc _ (by omega) hB ?_ tA ht tC lA (by simp [lB]) lC ?_ a' w' (hf'.sub ?_) (hs'.imp (Imp.of_eq (by ac_rfl)))
        · rw [← hli]; simp only [List.append_assoc, setL_append, setL, setL_set]
        · simp only [List.nodup_iff_count] at hnd ⊢
          intro x
          have := hnd x
          simp only [List.map_cons, List.count_append, List.count_cons] at this ⊢
          omega
        · intro p hp; simp only [List.mem_append] at hp ⊢; rcases hp with h | h | h | h <;> simp [h]
    · obtain ⟨C', rfl⟩ := headIs_spec h
      simp only [hcon, Bool.not_true] at hC
      simp only [List.length_cons] at hm
      refine par_step tC (sl kA va ++ sl kB vb) (ha • hb • F) ?_ lC (hf.sub ?_) (hs.imp (Imp.of_eq (by ac_rfl))) (fun h1 => (Imp.right _ _).trans ((Imp.right _ _).trans ((Imp.right _ _).trans hF))) ?_
      · simp only [List.map_append, sl_fst _ _ lA, sl_fst _ _ lB]
        simp only [List.nodup_iff_count] at hnd ⊢
        intro x
        have := hnd x
        simp only [List.map_cons, List.count_append, List.count_cons] at this ⊢
        omega
      · intro p hp; simp only [List.mem_append] at hp ⊢; rcases hp with h | h | h | h <;> simp [h]
      · intro v h1 ht a' w' hf' hs'
        refine ih A B C' kA kB (dOf all j :: kC) va vb (v :: vc) ha hb h1 _ (by omega) hC ?_ tA tB ht lA lB (by simp [lC]) ?_ a' w' (hf'.sub ?_) (hs'.imp (Imp.of_eq (by ac_rfl)))
        · rw [← hli]; simp only [List.append_assoc, setL_append, setL, setL_set]
        · simp only [List.nodup_iff_count] at hnd ⊢
          intro x
          have := hnd x
          simp only [List.map_cons, List.count_append, List.count_cons] at this ⊢
          omega
        · intro p hp; simp only [List.mem_append] at hp ⊢; rcases hp with h | h | h | h <;> simp [h]
/-- Three sides (some may be without operations). -/
theorem W.par {l : List (Nat × Value)} {H : HProp} {li : Array Bool} {f m : Nat} (base : List (Nat × Value)) (hb : Sub l base) (A B C : List Nat) (ha hb' hc : HProp) (F : HProp) {EA EB EC : List (Nat × Value) → HProp → Prop}
    (hm : m = f + (A.length + B.length + C.length)) (hok : parOk all (A.length + B.length + C.length) li A B C = true) (hnd : nodupB (A.map (dOf all) ++ (B.map (dOf all) ++ (C.map (dOf all) ++ base.map (·.1)))) = true) (hH : Imp H (ha • hb' • hc • F)) (hF : Imp F Hs)
    (tA : Thr c Q n all ks base EA A [] [] ha) (tB : Thr c Q n all ks base EB B [] [] hb') (tC : Thr c Q n all ks base EC C [] [] hc)
    (k : ∀ la ha lb hb lc hc, EA la ha → EB lb hb → EC lc hc → WS c Q n (.any J (SL c Hs) all f (setL li (A ++ B ++ C)) ks) (la ++ (lb ++ (lc ++ base))) (ha • hb • hc • F)) : WS c Q n (.any J (SL c Hs) all m li ks) l H := by
  intro a w hf hs
  rw [hm]
  refine par_run hF (fun la ha lb hb lc hc e1 e2 e3 a w hf hs => k la ha lb hb lc hc e1 e2 e3 a w hf.fr hs) _ A B C [] [] [] [] [] [] ha hb' hc li rfl hok rfl tA tB tC rfl rfl rfl ?_ a w (AllS.of (hf.sub hb) ?_) (hs.imp hH)
  · have := nodupB_spec _ hnd
    simpa using this
  · have h1 := nodupB_spec _ hnd
    have h2 : (base.map (·.1)).Sublist (A.map (dOf all) ++ (B.map (dOf all) ++ (C.map (dOf all) ++ base.map (·.1)))) := (List.sublist_append_right _ _).trans ((List.sublist_append_right _ _).trans (List.sublist_append_right _ _))
    exact h1.sublist h2
def parOkc (all : Array Oper) (x : Nat) : Nat → Array Bool → List Nat → List Nat → Bool
  | 0, _, A, B => A.isEmpty && B.isEmpty
  | m + 1, li, A, B => !(Region.ready .any all li).isEmpty && (Region.ready .any all li).all (fun i => headIs A i || headIs B i || Nat.beq x i) &&
    (match A with
      | [] => true
      | i :: A' => !(Region.ready .any all li).contains i || parOkc all x m (li.setIfInBounds i true) A' B) &&
    (match B with
      | [] => true
      | i :: B' => !(Region.ready .any all li).contains i || parOkc all x m (li.setIfInBounds i true) A B') &&
    (!(Region.ready .any all li).contains x || parOk all (m + 1) (li.setIfInBounds x true) A B [])
theorem par_runc {EA EB EC : List (Nat × Value) → HProp → Prop} {f : Nat} {liE liN : Array Bool} (hF : Imp F Hs) (x : Nat) (hc : HProp) (tC : Thr c Q n all ks base EC [x] [] [] hc) (hliE : liN.setIfInBounds x true = liE)
    (fin : ∀ la ha lb hb lc hc, EA la ha → EB lb hb → EC lc hc → ∀ a w, AllS a n (la ++ (lb ++ (lc ++ base))) → SL c (ha • hb • hc • F) w → anyJ all (Qk Q ks) J (SL c Hs) f liE a w)
    (fin' : ∀ la ha lb hb, EA la ha → EB lb hb → ∀ a w, AllS a n (la ++ (lb ++ base)) → SL c (ha • hb • hc • F) w → anyJ all (Qk Q ks) J (SL c Hs) (f + 1) liN a w) :
    ∀ (m : Nat) (A B kA kB : List Nat) (va vb : List Value) (ha hb : HProp) (li : Array Bool), A.length + B.length = m → parOkc all x m li A B = true → setL li (A ++ B) = liN →
      Thr c Q n all ks base EA A kA va ha → Thr c Q n all ks base EB B kB vb hb → kA.length = va.length → kB.length = vb.length →
      ((A.map (dOf all) ++ kA) ++ ((B.map (dOf all) ++ kB) ++ (dOf all x :: base.map (·.1)))).Nodup →
      ∀ a w, AllS a n (sl kA va ++ (sl kB vb ++ base)) → SL c (ha • hb • hc • F) w → anyJ all (Qk Q ks) J (SL c Hs) (f + m + 1) li a w := by
  intro m
  induction m with
  | zero =>
    intro A B kA kB va vb ha hb li hm hok hli tA tB _ _ _ a w hf hs
    obtain rfl : A = [] := List.eq_nil_of_length_eq_zero (by omega)
    obtain rfl : B = [] := List.eq_nil_of_length_eq_zero (by omega)
    simp only [setL, List.append_nil] at hli
    subst hli
    exact fin' _ _ _ _ tA tB a w hf hs
  | succ m ih =>
    intro A B kA kB va vb ha hb li hm hok hli tA tB lA lB hnd a w hf hs
    simp only [parOkc, Bool.and_eq_true, Bool.not_eq_true', List.isEmpty_eq_false_iff, List.all_eq_true, Bool.or_eq_true] at hok
    obtain ⟨⟨⟨⟨hne, hall⟩, hA⟩, hB⟩, hC⟩ := hok
    refine ⟨fun h => absurd h hne, fun j hj => ?_⟩
    have hcon : (Region.ready .any all li).contains j = true := by simpa using hj
    rcases hall j hj with (h | h) | h
    · obtain ⟨A', rfl⟩ := headIs_spec h
      simp only [hcon, Bool.not_true] at hA
      simp only [List.length_cons] at hm
      refine par_step tA (sl kB vb) (hb • hc • F) ?_ lA (hf.sub ?_) hs (fun h1 => (Imp.right _ _).trans ((Imp.right _ _).trans ((Imp.right _ _).trans hF))) ?_
      · simp only [sl_fst _ _ lB]
        simp only [List.nodup_iff_count] at hnd ⊢
        intro x
        have := hnd x
        simp only [List.map_cons, List.count_append, List.count_cons] at this ⊢
        omega
      · intro p hp; simp only [List.mem_append] at hp ⊢; rcases hp with h | h | h <;> simp [h]
      · intro v h1 ht a' w' hf' hs'
        refine ih A' B (dOf all j :: kA) kB (v :: va) vb h1 hb _ (by omega) (by simpa using hA) ?_ ht tB (by simp [lA]) lB ?_ a' w' (hf'.sub ?_) hs'
        · rw [← hli]; rfl
        · simp only [List.nodup_iff_count] at hnd ⊢
          intro x
          have := hnd x
          simp only [List.map_cons, List.count_append, List.count_cons] at this ⊢
          omega
        · intro p hp; simp only [List.mem_append] at hp ⊢; rcases hp with h | h | h <;> simp [h]
    · obtain ⟨B', rfl⟩ := headIs_spec h
      simp only [hcon, Bool.not_true] at hB
      simp only [List.length_cons] at hm
      refine par_step tB (sl kA va) (ha • hc • F) ?_ lB (hf.sub ?_) (hs.imp (Imp.of_eq (by ac_rfl))) (fun h1 => (Imp.right _ _).trans ((Imp.right _ _).trans ((Imp.right _ _).trans hF))) ?_
      · simp only [sl_fst _ _ lA]
        simp only [List.nodup_iff_count] at hnd ⊢
        intro x
        have := hnd x
        simp only [List.map_cons, List.count_append, List.count_cons] at this ⊢
        omega
      · intro p hp; simp only [List.mem_append] at hp ⊢; rcases hp with h | h | h <;> simp [h]
      · intro v h1 ht a' w' hf' hs'
        refine ih A B' kA (dOf all j :: kB) va (v :: vb) ha h1 _ (by omega) (by simpa using hB) ?_ tA ht lA (by simp [lB]) ?_ a' w' (hf'.sub ?_) (hs'.imp (Imp.of_eq (by ac_rfl)))
        · rw [← hli]; simp only [setL_append, setL, setL_set]
        · simp only [List.nodup_iff_count] at hnd ⊢
          intro x
          have := hnd x
          simp only [List.map_cons, List.count_append, List.count_cons] at this ⊢
          omega
        · intro p hp; simp only [List.mem_append] at hp ⊢; rcases hp with h | h | h <;> simp [h]
    · have hxj := Nat.eq_of_beq_eq_true h
      subst hxj
      simp only [hcon, Bool.not_true] at hC
      refine par_step tC (sl kA va ++ sl kB vb) (ha • hb • F) ?_ rfl (hf.sub ?_) (hs.imp (Imp.of_eq (by ac_rfl))) (fun h1 => (Imp.right _ _).trans ((Imp.right _ _).trans ((Imp.right _ _).trans hF))) ?_
      · simp only [List.map_append, sl_fst _ _ lA, sl_fst _ _ lB]
        simp only [List.nodup_iff_count] at hnd ⊢
        intro x
        have := hnd x
        simp only [List.map_cons, List.count_append, List.count_cons, List.count_nil] at this ⊢
        omega
      · intro p hp; simp only [sl, List.nil_append, List.mem_append] at hp ⊢; rcases hp with h | h | h <;> simp [h]
      · intro v h1 ht a' w' hf' hs'
        have := par_run (EC := EC) hF fin (m + 1) A B [] kA kB [dOf all x] va vb [v] ha hb h1 (li.setIfInBounds x true) (by simp; omega) (by simpa using hC) (by rw [List.append_nil, setL_set, hli, hliE]) tA tB ht lA lB rfl ?_ a' w' (hf'.sub ?_) (hs'.imp (Imp.of_eq (by ac_rfl)))
        · rw [show f + (m + 1) = f + m + 1 from rfl] at this; exact this
        · simp only [List.nodup_iff_count] at hnd ⊢
          intro x
          have := hnd x
          simp only [List.map_cons, List.map_nil, List.count_append, List.count_cons, List.count_nil] at this ⊢
          omega
        · intro p hp; simp only [sl, List.mem_append, List.mem_cons, List.not_mem_nil, or_false] at hp ⊢; rcases hp with h | h | h | h <;> simp [h]
/-- Two sides, and one operation that may come at any time, also behind them. -/
theorem W.parc {l : List (Nat × Value)} {H : HProp} {li : Array Bool} {f m : Nat} (base : List (Nat × Value)) (hb : Sub l base) (A B : List Nat) (x : Nat) (ha hb' hc : HProp) (F : HProp) {EA EB EC : List (Nat × Value) → HProp → Prop}
    (hm : m = f + (A.length + B.length) + 1) (hok : parOkc all x (A.length + B.length) li A B = true) (hnd : nodupB (A.map (dOf all) ++ (B.map (dOf all) ++ (dOf all x :: base.map (·.1)))) = true) (hH : Imp H (ha • hb' • hc • F)) (hF : Imp F Hs)
    (tA : Thr c Q n all ks base EA A [] [] ha) (tB : Thr c Q n all ks base EB B [] [] hb') (tC : Thr c Q n all ks base EC [x] [] [] hc)
    (k : ∀ la ha lb hb lc hc, EA la ha → EB lb hb → EC lc hc → WS c Q n (.any J (SL c Hs) all f ((setL li (A ++ B)).setIfInBounds x true) ks) (la ++ (lb ++ (lc ++ base))) (ha • hb • hc • F))
    (k' : ∀ la ha lb hb, EA la ha → EB lb hb → WS c Q n (.any J (SL c Hs) all (f + 1) (setL li (A ++ B)) ks) (la ++ (lb ++ base)) (ha • hb • hc • F)) : WS c Q n (.any J (SL c Hs) all m li ks) l H := by
  intro a w hf hs
  rw [hm]
  have h1 := nodupB_spec _ hnd
  refine par_runc hF x hc tC rfl (fun la ha lb hb lc hc e1 e2 e3 a w hf hs => k la ha lb hb lc hc e1 e2 e3 a w hf.fr hs) (fun la ha lb hb e1 e2 a w hf hs => k' la ha lb hb e1 e2 a w hf.fr hs) _ A B [] [] [] [] ha hb' li rfl hok rfl tA tB rfl rfl ?_ a w (AllS.of (hf.sub hb) ?_) (hs.imp hH)
  · simpa using h1
  · have h2 : (base.map (·.1)).Sublist (A.map (dOf all) ++ (B.map (dOf all) ++ (dOf all x :: base.map (·.1)))) := ((List.sublist_cons_self _ _).trans (List.sublist_append_right _ _)).trans (List.sublist_append_right _ _)
    exact h1.sublist h2
/-- A step of control, but not into a block. -/
def cstepB (l : List (Nat × Value)) : Ctl → Option Ctl
  | .code (.block _ _) _ => none
  | s => cstep l s
theorem W.ctlb {l : List (Nat × Value)} {H : HProp} {s s' : Ctl} (h : cstepB l s = some s') (k : WS c Q n s' l H) : WS c Q n s l H := by
  refine W.ctl (s' := s') ?_ k
  unfold cstepB at h
  split at h
  · cases h
  · exact h
/-- A side without operations. -/
theorem Thr.nil : Thr c Q n all ks base (fun l h => l = [] ∧ h = emp) [] [] [] emp := ⟨rfl, rfl⟩
end
end Go.Proofs.YtbdhhedfplkidaaGreat
