/- Separation logic over the model's blocks: an assertion speaks of some blocks; what is beside it is a frame. -/
import Derived.WalkKit
import Derived.WalkSpells
import Derived.Deep.LoopGhost
import Derived.Deep.Quiet
import Derived.StillTail
namespace Go.Proofs.YtbdhhedfplkidaaGreat
open Go

abbrev Hp := Nat → Option Obj
def HProp := Hp → Prop

/-- Both parts, on blocks of their own. -/
def sep (P Q : HProp) : HProp := fun h => ∃ h1 h2 : Hp, (∀ b, h1 b = none ∨ h2 b = none) ∧ (∀ b, h b = (h1 b).or (h2 b)) ∧ P h1 ∧ Q h2
instance : HSMul HProp HProp HProp := ⟨sep⟩
def emp : HProp := fun h => ∀ b, h b = none
/-- Block b is o. -/
def pt (b : Nat) (o : Obj) : HProp := fun h => ∀ b', h b' = if b' = b then some o else none
def pr (φ : Prop) : HProp := fun h => φ ∧ ∀ b, h b = none
def ex {α : Sort _} (P : α → HProp) : HProp := fun h => ∃ x, P x h

theorem sep_comm' (P Q : HProp) : (P • Q) = (Q • P) := by
  funext h
  refine propext ⟨?_, ?_⟩ <;>
  · rintro ⟨h1, h2, d, e, p, q⟩
    refine ⟨h2, h1, fun b => (d b).symm, fun b => ?_, q, p⟩
    rw [e b]
    rcases d b with h | h <;> rw [h] <;> simp
theorem sep_assoc' (P Q R : HProp) : ((P • Q) • R) = (P • (Q • R)) := by
  funext h
  refine propext ⟨?_, ?_⟩
  · rintro ⟨h12, h3, d, e, ⟨h1, h2, d', e', p, q⟩, r⟩
    refine ⟨h1, fun b => (h2 b).or (h3 b), fun b => ?_, fun b => ?_, p, h2, h3, fun b => ?_, fun b => rfl, q, r⟩
    · rcases d b with h | h
      · rw [e' b] at h
        cases h1b : h1 b with
        | none => exact .inl rfl
        | some x => rw [h1b] at h; simp at h
      · rcases d' b with h' | h'
        · exact .inl h'
        · right; show (h2 b).or (h3 b) = none; rw [h', h]; rfl
    · rw [e b, e' b]; simp [Option.or_assoc]
    · rcases d b with h | h
      · rw [e' b] at h
        left
        cases h1b : h1 b <;> rw [h1b] at h <;> simp at h
        exact h
      · exact .inr h
  · rintro ⟨h1, h23, d, e, p, h2, h3, d', e', q, r⟩
    refine ⟨fun b => (h1 b).or (h2 b), h3, fun b => ?_, fun b => ?_, ⟨h1, h2, fun b => ?_, fun b => rfl, p, q⟩, r⟩
    · rcases d b with h | h
      · rcases d' b with h' | h'
        · left; show (h1 b).or (h2 b) = none; rw [h, h']; rfl
        · exact .inr h'
      · rw [e' b] at h
        right
        cases h2b : h2 b <;> rw [h2b] at h <;> simp at h
        exact h
    · rw [e b, e' b]; simp [Option.or_assoc]
    · rcases d b with h | h
      · exact .inl h
      · rw [e' b] at h
        right
        cases h2b : h2 b <;> rw [h2b] at h <;> simp at h
instance : Std.Associative (HSMul.hSMul : HProp → HProp → HProp) := ⟨sep_assoc'⟩
instance : Std.Commutative (HSMul.hSMul : HProp → HProp → HProp) := ⟨sep_comm'⟩
theorem sep_left_comm' (P Q R : HProp) : (P • (Q • R)) = (Q • (P • R)) := by
  rw [← sep_assoc', sep_comm' P Q, sep_assoc']
theorem emp_sep (P : HProp) : (emp • P) = P := by
  funext h
  refine propext ⟨?_, fun hp => ⟨fun _ => none, h, fun b => .inl rfl, fun b => by simp, fun b => rfl, hp⟩⟩
  rintro ⟨h1, h2, _, e, p, q⟩
  have : h = h2 := funext fun b => by rw [e b, p b]; rfl
  exact this ▸ q

/-- What the world's blocks bear; c: what the streams and the tape are. -/
structure SL (c : World) (H : HProp) (w : World) : Prop where
  os : w.os = c.os
  tape : w.tape = c.tape
  output : w.output = c.output
  heap : ∃ h : Hp, H h ∧ ∀ b o, h b = some o → w.heap[b]? = some o

/-- One assertion gives another (what is not needed may be left). -/
def Ent (H K : HProp) : Prop := ∀ c w, SL c H w → SL c K w
theorem Ent.refl (H : HProp) : Ent H H := fun _ _ h => h
theorem Ent.trans {A B C : HProp} (h : Ent A B) (k : Ent B C) : Ent A C := fun c w x => k c w (h c w x)
theorem Ent.of_imp {H K : HProp} (h : ∀ hp, H hp → K hp) : Ent H K := fun _ _ x => ⟨x.os, x.tape, x.output, let ⟨hp, a, b⟩ := x.heap; ⟨hp, h hp a, b⟩⟩
theorem Ent.of_eq {H K : HProp} (h : H = K) : Ent H K := h ▸ Ent.refl H
/-- Inside a frame: an implication between assertions over parts of the blocks. -/
theorem Ent.sub {H K : HProp} (h : ∀ hp, H hp → ∃ hp', K hp' ∧ ∀ b o, hp' b = some o → hp b = some o) : Ent H K := fun _ _ x =>
  ⟨x.os, x.tape, x.output, let ⟨hp, a, b⟩ := x.heap; let ⟨hp', k, s⟩ := h hp a; ⟨hp', k, fun i o ho => b i o (s i o ho)⟩⟩
/-- Implication by a part of the blocks: the form that goes under a frame. -/
def Imp (H K : HProp) : Prop := ∀ hp, H hp → ∃ hp', K hp' ∧ ∀ b o, hp' b = some o → hp b = some o
theorem Imp.refl (H : HProp) : Imp H H := fun hp h => ⟨hp, h, fun _ _ h => h⟩
theorem Imp.trans {A B C : HProp} (h : Imp A B) (k : Imp B C) : Imp A C := fun hp a =>
  let ⟨h1, b, s⟩ := h hp a; let ⟨h2, c, t⟩ := k h1 b; ⟨h2, c, fun i o x => s i o (t i o x)⟩
theorem Imp.ent {H K : HProp} (h : Imp H K) : Ent H K := Ent.sub h
theorem Imp.of_eq {H K : HProp} (h : H = K) : Imp H K := h ▸ Imp.refl H
theorem Imp.sep {A B C D : HProp} (h : Imp A C) (k : Imp B D) : Imp (A • B) (C • D) := by
  rintro hp ⟨h1, h2, d, e, p, q⟩
  obtain ⟨g1, c, s⟩ := h h1 p
  obtain ⟨g2, c', s'⟩ := k h2 q
  refine ⟨fun b => (g1 b).or (g2 b), ⟨g1, g2, fun b => ?_, fun b => rfl, c, c'⟩, fun b o ho => ?_⟩
  · cases x : g1 b with
    | none => exact .inl rfl
    | some o =>
      right
      have := s b o x
      cases y : g2 b with
      | none => rfl
      | some o' =>
        have := s' b o' y
        rcases d b with z | z <;> simp_all
  · rw [e b]
    simp only [] at ho
    cases x : g1 b with
    | some o' =>
      rw [x] at ho
      simp at ho
      rw [s b o' x, ← ho]; rfl
    | none =>
      rw [x] at ho
      simp at ho
      have := s' b o ho
      rcases d b with z | z
      · rw [z, this]; rfl
      · rw [z] at this; cases this
theorem Imp.drop (A : HProp) : Imp A emp := fun _ _ => ⟨fun _ => none, fun _ => rfl, fun _ _ h => by cases h⟩
theorem Imp.left (A B : HProp) : Imp (A • B) A := by
  rintro hp ⟨h1, h2, d, e, p, q⟩
  exact ⟨h1, p, fun b o ho => by rw [e b, ho]; rfl⟩
theorem Imp.right (A B : HProp) : Imp (A • B) B := by rw [sep_comm']; exact Imp.left B A
theorem Imp.exE {α : Sort _} {P : α → HProp} {K : HProp} (h : ∀ x, Imp (P x) K) : Imp (ex P) K := fun hp ⟨x, a⟩ => h x hp a
theorem Imp.exi {α : Sort _} {P : α → HProp} {K : HProp} (x : α) (h : Imp K (P x)) : Imp K (ex P) := fun hp a => let ⟨g, b, s⟩ := h hp a; ⟨g, ⟨x, b⟩, s⟩
theorem ex_sep {α : Sort _} (P : α → HProp) (R : HProp) : (ex P • R) = ex fun x => P x • R := by
  funext h
  exact propext ⟨fun ⟨h1, h2, d, e, ⟨x, p⟩, q⟩ => ⟨x, h1, h2, d, e, p, q⟩, fun ⟨x, h1, h2, d, e, p, q⟩ => ⟨h1, h2, d, e, ⟨x, p⟩, q⟩⟩
theorem pr_true {φ : Prop} (h : φ) : pr φ = emp := by
  funext hp
  exact propext ⟨fun x => x.2, fun x => ⟨h, x⟩⟩

section
variable {c w : World} {H R : HProp} {b : Nat} {o : Obj}
theorem SL.ent {K : HProp} (h : SL c H w) (e : Ent H K) : SL c K w := e c w h
theorem SL.imp {K : HProp} (h : SL c H w) (e : Imp H K) : SL c K w := e.ent c w h
theorem SL.get (h : SL c (pt b o • R) w) : w.heap[b]? = some o := by
  obtain ⟨hp, ⟨h1, h2, d, e, p, q⟩, s⟩ := h.heap
  exact s b o (by rw [e b, p b]; simp)
theorem SL.ne {b' : Nat} {o' : Obj} (h : SL c (pt b o • pt b' o' • R) w) : b ≠ b' := by
  rintro rfl
  obtain ⟨hp, ⟨h1, h2, d, e, p, h3, h4, d', e', p', q'⟩, s⟩ := h.heap
  have := d b
  rw [p b, e' b, p' b] at this
  simp at this
theorem SL.exE {α : Sort _} {P : α → HProp} (h : SL c (ex P • R) w) : ∃ x, SL c (P x • R) w := by
  rw [ex_sep] at h
  obtain ⟨hp, ⟨x, p⟩, s⟩ := h.heap
  exact ⟨x, h.os, h.tape, h.output, hp, p, s⟩
theorem SL.prE {φ : Prop} (h : SL c (pr φ • R) w) : φ ∧ SL c R w := by
  obtain ⟨hp, ⟨h1, h2, d, e, p, q⟩, s⟩ := h.heap
  exact ⟨p.1, h.os, h.tape, h.output, h2, q, fun b o ho => s b o (by rw [e b, p.2 b, ho]; rfl)⟩
/-- The block at the front is now another object; no other one of the old has turned. -/
theorem SL.upd {w' : World} {o' : Obj} (h : SL c (pt b o • R) w) (ho : w'.os = w.os) (ht : w'.tape = w.tape) (hu : w'.output = w.output)
    (hb : w'.heap[b]? = some o') (hk : ∀ k, k ≠ b → k < w.heap.size → w'.heap[k]? = w.heap[k]?) : SL c (pt b o' • R) w' := by
  obtain ⟨hp, ⟨h1, h2, d, e, p, q⟩, s⟩ := h.heap
  have hbn : h2 b = none := by
    rcases d b with x | x
    · rw [p b] at x; simp at x
    · exact x
  refine ⟨ho.trans h.os, ht.trans h.tape, hu.trans h.output, fun k => if k = b then some o' else hp k, ⟨fun k => if k = b then some o' else none, h2, fun k => ?_, fun k => ?_, fun k => rfl, q⟩, fun k x hx => ?_⟩
  · by_cases hkb : k = b
    · right; rw [hkb]; exact hbn
    · left; simp [hkb]
  · by_cases hkb : k = b
    · simp [hkb]
    · simp [hkb, e k, p k]
  · by_cases hkb : k = b
    · subst hkb; simp at hx; subst hx; exact hb
    · simp only [hkb, if_false] at hx
      have h0 := s k x hx
      rw [hk k hkb (Array.getElem?_eq_some_iff.1 h0).1]; exact h0
/-- A new block. -/
theorem SL.new {w' : World} (h : SL c R w) (ho : w'.os = w.os) (ht : w'.tape = w.tape) (hu : w'.output = w.output)
    (hb : w'.heap[w.heap.size]? = some o) (hk : ∀ k, k < w.heap.size → w'.heap[k]? = w.heap[k]?) : SL c (pt w.heap.size o • R) w' := by
  obtain ⟨hp, q, s⟩ := h.heap
  have hn : hp w.heap.size = none := by
    cases x : hp w.heap.size with
    | none => rfl
    | some y => have := (Array.getElem?_eq_some_iff.1 (s _ _ x)).1; omega
  refine ⟨ho.trans h.os, ht.trans h.tape, hu.trans h.output, fun k => if k = w.heap.size then some o else hp k, ⟨fun k => if k = w.heap.size then some o else none, hp, fun k => ?_, fun k => ?_, fun k => rfl, q⟩, fun k x hx => ?_⟩
  · by_cases hkb : k = w.heap.size
    · right; rw [hkb]; exact hn
    · left; simp [hkb]
  · by_cases hkb : k = w.heap.size
    · simp [hkb]
    · simp [hkb]
  · by_cases hkb : k = w.heap.size
    · subst hkb; simp at hx; subst hx; exact hb
    · simp only [hkb, if_false] at hx
      have h0 := s k x hx
      rw [hk k (Array.getElem?_eq_some_iff.1 h0).1]; exact h0
theorem SL.alloc (h : SL c R w) (o : Obj) : SL c (pt w.heap.size o • R) (w.alloc o) :=
  h.new rfl rfl rfl (heap_alloc_new w o) (fun k hk => heap_alloc_old w o hk)
theorem SL.drew (h : SL c R w) : SL c R w.drew := ⟨h.os, h.tape, h.output, h.heap⟩
theorem SL.cell {cs : Array Value} {E : TypeId} {fz : Nat × Nat} (h : SL c (pt b (.cells cs E fz) • R) w) (i : Nat) : w.cell? ⟨b, i, none⟩ = cs[i]? := by
  simp [World.cell?, h.get]
theorem SL.frozen {cs : Array Value} {E : TypeId} {fz : Nat × Nat} (h : SL c (pt b (.cells cs E fz) • R) w) (i : Nat) : w.frozen? ⟨b, i, none⟩ = (decide (fz.1 ≤ i) && decide (i < fz.2)) := by
  simp [World.frozen?, h.get]
theorem SL.setCell {cs : Array Value} {E : TypeId} {fz : Nat × Nat} (h : SL c (pt b (.cells cs E fz) • R) w) (i : Nat) (v : Value) :
    SL c (pt b (.cells (cs.setIfInBounds i v) E fz) • R) (w.setCell ⟨b, i, none⟩ v) := by
  have hg := h.get
  refine h.upd rfl rfl rfl ?_ fun k hk _ => ?_
  · simp [World.setCell, Array.getElem?_modify, hg]
  · simp [World.setCell, Array.getElem?_modify, Ne.symm hk]
end

/-- A is one of the parts of H; R is the rest. -/
class Pick (H A : HProp) (R : outParam HProp) : Prop where
  eq : H = (A • R)
instance (priority := 1000) pickHead (A R : HProp) : Pick (A • R) A R := ⟨rfl⟩
instance (priority := 500) pickTail (A B H R : HProp) [h : Pick H A R] : Pick (B • H) A (B • R) := ⟨by rw [h.eq, sep_left_comm']⟩
instance (priority := 900) pickLast (A : HProp) : Pick A A emp := ⟨by rw [sep_comm', emp_sep]⟩
/-- All parts of A are parts of H; R is the rest. -/
class Take (H A : HProp) (R : outParam HProp) : Prop where
  eq : H = (A • R)
instance (priority := 1000) takeSep (H A B R1 R : HProp) [h : Take H A R1] [k : Take R1 B R] : Take H (A • B) R := ⟨by rw [h.eq, k.eq, sep_assoc']⟩
instance (priority := 900) takeEmp (H : HProp) : Take H emp H := ⟨(emp_sep H).symm⟩
instance (priority := 500) takeOne (H A R : HProp) [h : Pick H A R] : Take H A R := ⟨h.eq⟩
/-- Block b is one of the parts. -/
class Blk (H : HProp) (b : Nat) (o : outParam Obj) (R : outParam HProp) : Prop where
  eq : H = (pt b o • R)
instance (priority := 1000) blkHead (b : Nat) (o : Obj) (R : HProp) : Blk (pt b o • R) b o R := ⟨rfl⟩
instance (priority := 500) blkTail (b : Nat) (o : Obj) (B H R : HProp) [h : Blk H b o R] : Blk (B • H) b o (B • R) := ⟨by rw [h.eq, sep_left_comm']⟩
instance (priority := 900) blkLast (b : Nat) (o : Obj) : Blk (pt b o) b o emp := ⟨by rw [sep_comm', emp_sep]⟩

theorem Imp.take {H A R K : HProp} [h : Take H A R] (k : Imp R K) : Imp H (A • K) := by
  rw [h.eq]; exact Imp.sep (Imp.refl A) k
theorem Imp.all {H A R : HProp} [h : Take H A R] : Imp H A := by
  rw [h.eq]; exact Imp.left A R
theorem Imp.pack {H A B R K : HProp} (e : Imp B A) [h : Take H B R] (k : Imp R K) : Imp H (A • K) := by
  rw [h.eq]; exact Imp.sep e k
theorem Imp.mk {σ : Sort _} {φ : σ → Prop} {B : σ → HProp} (x : σ) (h : φ x) : Imp (B x) (ex fun x => pr (φ x) • B x) :=
  Imp.exi x (by rw [pr_true h, emp_sep]; exact Imp.refl _)
theorem Imp.opn {σ : Sort _} {φ : σ → Prop} {B : σ → HProp} {C : HProp} {R : HProp} (h : ∀ x, Imp (B x • R) C) : Imp ((ex fun x => pr (φ x) • B x) • R) C := by
  rw [ex_sep]
  refine Imp.exE fun x => ?_
  rw [sep_assoc']
  exact (Imp.right _ _).trans (h x)
theorem Imp.opn' {σ : Sort _} {φ : σ → Prop} {B : σ → HProp} {B' : σ → HProp} {R : HProp} (h : ∀ x, (B x • R) = B' x) : Imp ((ex fun x => pr (φ x) • B x) • R) (ex fun x => pr (φ x) • B' x) := by
  rw [ex_sep]
  refine Imp.exE fun x => Imp.exi x ?_
  rw [sep_assoc', h x]; exact Imp.refl _
theorem Imp.unpack {H A R K B : HProp} (e : Imp A B) [h : Pick H A R] (k : Imp (B • R) K) : Imp H K := by
  rw [h.eq]; exact (Imp.sep e (Imp.refl R)).trans k
end Go.Proofs.YtbdhhedfplkidaaGreat
