/- Parts of a proof, one behind the other: Mod, E0, E1, Ty, E2, E3, E4. -/
import Derived.WalkKit
import Derived.WalkSpells
import Derived.Deep.LoopGhost
import Derived.Deep.Quiet
import Derived.StillTail
import Derived.Test.YtbdhhedfplkidaaGreatProg
import Derived.OrdersHeld
import Derived.Scope
import Derived.KernelRfl
import Derived.Great.BuildSlice
/- The plain model of the given program's store: what each function of the layers num, page, disk, bits, shadow, node, tree and txn computes, as Lean functions over lists and numbers. No Go, no memory. -/
namespace Go.Proofs.YtbdhhedfplkidaaGreat.M

abbrev Str := List UInt8

/-! num -/
def be : Nat → Nat → Str
  | 0, _ => []
  | s + 1, n => be s (n / 256) ++ [UInt8.ofNat (n % 256)]
def fromBe (l : Str) : Nat := l.foldl (fun n b => n * 256 + b.toNat) 0

/-! page -/
def sumStep (p : Nat × Nat) (c : UInt8) : Nat × Nat := ((p.1 + c.toNat) % 65521, (p.2 + (p.1 + c.toNat) % 65521) % 65521)
def sum (s : Str) : Nat := let p := s.foldl sumStep (1, 0); p.2 * 65536 + p.1
def sealBody (kind : Int) (text : Str) : Str := [UInt8.ofNat kind.toNat, UInt8.ofNat text.length] ++ text ++ List.replicate (250 - text.length) 0
def sealP (kind : Int) (text : Str) : Str × Int :=
  if kind < 1 ∨ kind > 15 ∨ text.length > 240 then ([], 1) else (sealBody kind text ++ be 4 (sum (sealBody kind text)), 0)
def opens (b : Str) : Int × Str × Int :=
  if b.length ≠ 256 then (0, [], 2) else
  if sum (b.take 252) ≠ fromBe (b.drop 252) then (0, [], 15) else
  let size := min (b.getD 1 0).toNat 250
  let text := (b.drop 2).take size
  let r := sealP (b.getD 0 0).toNat text
  if r.2 = 0 ∧ r.1 = b then ((b.getD 0 0).toNat, text, 0) else (0, [], 2)

/-! disk -/
structure Disk where
  now : List Str
  was : List (Int × Str)
  order : List Int
  fuse : Int
  gone : Bool
def Disk.read (d : Disk) (n : Int) : Str × Int :=
  if d.gone then ([], 5) else if n < 0 ∨ n ≥ d.now.length then ([], 1) else (d.now.getD n.toNat [], 0)
def Disk.write (d : Disk) (n : Int) (s : Str) : Disk × Int :=
  if d.gone then (d, 5) else if n < 0 ∨ n ≥ d.now.length then (d, 1) else
  if s.length ≠ 256 then (d, 1) else
  if d.fuse = 0 then ({ d with gone := true }, 5) else
  let d := { d with fuse := max (-1) (d.fuse - 1) }
  let d := if (d.was.lookup n).isSome then d else { d with was := d.was ++ [(n, d.now.getD n.toNat [])], order := d.order ++ [n] }
  ({ d with now := d.now.set n.toNat s }, 0)
def Disk.sync (d : Disk) : Disk × Int := if d.gone then (d, 5) else ({ d with was := [], order := [] }, 0)

structure DiskOk (d : Disk) : Prop where
  least : 8 ≤ d.now.length
  most : d.now.length ≤ 640
  full : ∀ s ∈ d.now, s.length = 256
  fuse0 : -1 ≤ d.fuse
  fuse1 : d.fuse < 9223372036854775808
  keys : d.was.map (·.1) = d.order
  nodup : d.order.Nodup
  range : ∀ x ∈ d.order, 0 ≤ x ∧ x < d.now.length
theorem nodup_lt : ∀ (n : Nat) (l : List Int), l.Nodup → (∀ x ∈ l, 0 ≤ x ∧ x < n) → l.length ≤ n
  | 0, l, _, h => by
    cases l with
    | nil => simp
    | cons x l => have := h x (by simp); omega
  | n + 1, l, hn, h => by
    have h1 := nodup_lt n (l.filter (· ≠ (n : Int))) (hn.filter _) (fun x hx => by
      have h2 := List.mem_filter.1 hx
      have h3 := h x h2.1
      have h4 : x ≠ (n : Int) := by simpa using h2.2
      omega)
    have h2 : ∀ l : List Int, l.Nodup → l.length ≤ (l.filter (· ≠ (n : Int))).length + 1 := by
      intro l
      induction l with
      | nil => simp
      | cons x l ih =>
        intro hn
        have hx := List.nodup_cons.1 hn
        by_cases hxn : x = (n : Int)
        · have he : l.filter (· ≠ (n : Int)) = l := List.filter_eq_self.2 fun y hy => by
            simp only [ne_eq, decide_not, Bool.not_eq_eq_eq_not, Bool.not_true, decide_eq_false_iff_not]
            rintro rfl
            exact hx.1 (hxn ▸ hy)
          rw [List.filter_cons_of_neg (by simp [hxn]), he]; simp
        · rw [List.filter_cons_of_pos (by simp [hxn])]
          have := ih hx.2
          simp only [List.length_cons]; omega
    have h2 := h2 l hn
    omega
theorem DiskOk.order_le {d : Disk} (h : DiskOk d) : d.order.length ≤ 640 := Nat.le_trans (nodup_lt _ _ h.nodup h.range) h.most
theorem lookup_none {n : Int} : ∀ {was : List (Int × Str)}, (was.lookup n).isSome = false → n ∉ was.map (·.1)
  | [], _, hm => by cases hm
  | q :: was, h, hm => by
    rw [List.lookup] at h
    cases hq : (n == q.1) with
    | true => rw [hq] at h; cases h
    | false =>
      rw [hq] at h
      rcases List.mem_cons.1 hm with hm | hm
      · simp [hm] at hq
      · exact lookup_none h hm
theorem write_ok {d : Disk} (h : DiskOk d) (n : Int) (s : Str) : DiskOk (d.write n s).1 := by
  unfold Disk.write
  by_cases hg : d.gone = true
  · rw [if_pos hg]; exact h
  rw [if_neg hg]
  by_cases hn : n < 0 ∨ n ≥ d.now.length
  · rw [if_pos hn]; exact h
  rw [if_neg hn]
  by_cases hs : s.length ≠ 256
  · rw [if_pos hs]; exact h
  rw [if_neg hs]
  by_cases hf : d.fuse = 0
  · rw [if_pos hf]; exact ⟨h.least, h.most, h.full, h.fuse0, h.fuse1, h.keys, h.nodup, h.range⟩
  rw [if_neg hf]
  have f0 := h.fuse0
  have f1 := h.fuse1
  have hfull : ∀ x ∈ d.now.set n.toNat s, x.length = 256 := fun x hx => by
    rcases List.mem_or_eq_of_mem_set hx with hx | rfl
    · exact h.full x hx
    · simpa using hs
  dsimp only
  cases hw : (d.was.lookup n).isSome with
  | true => exact ⟨by simpa using h.least, by simpa using h.most, hfull, by simp; omega, by simp; omega, h.keys, h.nodup, by simpa using h.range⟩
  | false =>
    refine ⟨by simpa using h.least, by simpa using h.most, hfull, by simp; omega, by simp; omega, by simp [h.keys], ?_, ?_⟩
    · have := lookup_none hw
      rw [h.keys] at this
      simp only [Bool.false_eq_true, if_false]
      exact List.nodup_append.2 ⟨h.nodup, by simp, fun a ha b hb => by simp at hb; subst hb; rintro rfl; exact this ha⟩
    · simp only [Bool.false_eq_true, if_false, List.length_set]
      intro x hx
      rcases List.mem_append.1 hx with hx | hx
      · exact h.range x hx
      · simp at hx; subst hx; omega
theorem sync_ok {d : Disk} (h : DiskOk d) : DiskOk d.sync.1 := by
  unfold Disk.sync
  split
  · exact h
  · exact ⟨h.least, h.most, h.full, h.fuse0, h.fuse1, rfl, by simp, by simp⟩

/-! page on a disk -/
def pageWrite (d : Disk) (n kind : Int) (text : Str) : Disk × Int :=
  let r := sealP kind text
  if r.2 ≠ 0 then (d, r.2) else d.write n r.1
def pageRead (d : Disk) (n : Int) : Int × Str × Int :=
  let r := d.read n
  if r.2 ≠ 0 then (0, [], r.2) else opens r.1

/-! bits -/
def has (b : Str) (i : Int) : Bool := decide (0 ≤ i) && decide (i.toNat / 8 < b.length) && (b.getD (i.toNat / 8) 0).toNat.testBit (i.toNat % 8)
def flip (b : Str) (i : Nat) : Str := b.set (i / 8) (UInt8.ofNat ((b.getD (i / 8) 0).toNat ^^^ 2 ^ (i % 8)))
def with' (b : Str) (i : Int) (on : Bool) : Str :=
  if i < 0 ∨ i.toNat / 8 ≥ b.length ∨ has b i = on then b else flip b i.toNat
def count (b : Str) : Nat := (b.map fun x => ((List.range 8).filter fun i => x.toNat.testBit i).length).sum

/-! shadow -/
structure Store where
  d : Disk
  gen : Int
  root : Int
  used : Str
  fresh : List Int
  given : List Int
  down : Bool
def headText (gen root : Int) (used : Str) : Str := be 6 gen.toNat ++ be 2 root.toNat ++ used
def headLay (d : Disk) (gen root : Int) (used : Str) : Disk × Int :=
  let r := pageWrite d (gen % 2) 1 (headText gen root used)
  if r.2 ≠ 0 then r else r.1.sync
abbrev over (d : Disk) (gen root : Int) (used : Str) : Store := ⟨d, gen, root, used, [], [], false⟩
def Store.size (s : Store) : Int := s.d.now.length
def Store.left (s : Store) : Int := s.size - 2 - count s.used - s.fresh.length
def Store.takeFrom (s : Store) : Nat → Int → Store × Int × Int
  | 0, _ => (s, 0, 4)
  | k + 1, n => if has s.used n = false ∧ n ∉ s.fresh then ({ s with fresh := s.fresh ++ [n] }, n, 0) else s.takeFrom k (n + 1)
def Store.take (s : Store) : Store × Int × Int := if s.down then (s, 0, 5) else s.takeFrom (s.size - 2).toNat 2
def Store.told (s : Store) (e : Int) : Store := { s with down := s.down || e == 5 }
def Store.write (s : Store) (n kind : Int) (text : Str) : Store × Int :=
  if s.down then (s, 5) else if n ∉ s.fresh then (s, 6) else
  let r := pageWrite s.d n kind text
  ({ s with d := r.1 }.told r.2, r.2)
def Store.read (s : Store) (n : Int) : Store × Int × Str × Int :=
  if s.down then (s, 0, [], 5) else if n < 2 ∨ n ≥ s.size then (s, 0, [], 1) else
  let r := pageRead s.d n
  (s.told r.2.2, r)
def Store.give (s : Store) (n : Int) : Store × Int :=
  if s.down then (s, 5) else if n ∈ s.fresh then ({ s with fresh := s.fresh.erase n }, 0)
  else if has s.used n = true ∧ n ∉ s.given then ({ s with given := s.given ++ [n] }, 0) else (s, 6)
def Store.rollback (s : Store) : Store := { s with fresh := [], given := [] }

/-! space -/
def spaceKey (kind a b : Int) : Nat × Bool :=
  if kind < 0 ∨ 16 ≤ kind ∨ a < 0 ∨ 268435455 < a ∨ b < 0 ∨ 4294967296 ≤ b then (0, false)
  else (kind.toNat * 1152921504606846976 + a.toNat * 4294967296 + b.toNat, true)

/-! node -/
structure Node where
  leaf : Bool
  keys : List Nat
  vals : List Str
  kids : List Int
def Node.zero : Node := ⟨false, [], [], []⟩
def rising : List Nat → Bool
  | a :: b :: l => decide (a < b) && rising (b :: l)
  | _ => true
def nsize (n : Node) : Nat := 1 + 8 * n.keys.length + (if n.leaf then n.keys.length + (n.vals.map List.length).sum else 2 * n.kids.length)
def plain (n : Node) : Bool :=
  n.vals.length == (if n.leaf then n.keys.length else 0) && n.kids.length == (if n.leaf then 0 else n.keys.length + 1) && rising n.keys &&
    n.vals.all (fun v => decide (v.length ≤ 40)) && n.kids.all (fun k => decide (2 ≤ k ∧ k < 640))
def right (n : Node) : Bool := plain n && (!n.leaf || decide (0 < n.keys.length)) && decide (nsize n ≤ 240)
end Go.Proofs.YtbdhhedfplkidaaGreat.M
/- Separation logic over the model's blocks: an assertion speaks of some blocks; what is beside it is a frame. -/
namespace Go.Proofs.YtbdhhedfplkidaaGreat
open Go

abbrev Hp := Nat → Option Obj
def HProp := Hp → Prop

/-- Both parts, on blocks of their own. -/
def sep (P Q : HProp) : HProp := fun h => ∃ h1 h2 : Hp, (∀ b, h1 b = none ∨ h2 b = none) ∧ (∀ b, h b = (h1 b).or (h2 b)) ∧ P h1 ∧ Q h2
instance : HSMul HProp HProp HProp := ⟨sep⟩
def emp : HProp := fun h => ∀ b, h b = none
/-- Block b is o. -/
def pt (b : Nat) (o : Obj) : HProp := fun h => ∀ b', h b' = if b' = b then some o else none
def pr (φ : Prop) : HProp := fun h => φ ∧ ∀ b, h b = none
def ex {α : Sort _} (P : α → HProp) : HProp := fun h => ∃ x, P x h

theorem sep_comm' (P Q : HProp) : (P • Q) = (Q • P) := by
  funext h
  refine propext ⟨?_, ?_⟩ <;>
  · rintro ⟨h1, h2, d, e, p, q⟩
    refine ⟨h2, h1, fun b => (d b).symm, fun b => ?_, q, p⟩
    rw [e b]
    rcases d b with h | h <;> rw [h] <;> simp
theorem sep_assoc' (P Q R : HProp) : ((P • Q) • R) = (P • (Q • R)) := by
  funext h
  refine propext ⟨?_, ?_⟩
  · rintro ⟨h12, h3, d, e, ⟨h1, h2, d', e', p, q⟩, r⟩
    refine ⟨h1, fun b => (h2 b).or (h3 b), fun b => ?_, fun b => ?_, p, h2, h3, fun b => ?_, fun b => rfl, q, r⟩
    · rcases d b with h | h
      · rw [e' b] at h
        cases h1b : h1 b with
        | none => exact .inl rfl
        | some x => rw [h1b] at h; simp at h
      · rcases d' b with h' | h'
        · exact .inl h'
        · right; show (h2 b).or (h3 b) = none; rw [h', h]; rfl
    · rw [e b, e' b]; simp [Option.or_assoc]
    · rcases d b with h | h
      · rw [e' b] at h
        left
        cases h1b : h1 b <;> rw [h1b] at h <;> simp at h
        exact h
      · exact .inr h
  · rintro ⟨h1, h23, d, e, p, h2, h3, d', e', q, r⟩
    refine ⟨fun b => (h1 b).or (h2 b), h3, fun b => ?_, fun b => ?_, ⟨h1, h2, fun b => ?_, fun b => rfl, p, q⟩, r⟩
    · rcases d b with h | h
      · rcases d' b with h' | h'
        · left; show (h1 b).or (h2 b) = none; rw [h, h']; rfl
        · exact .inr h'
      · rw [e' b] at h
        right
        cases h2b : h2 b <;> rw [h2b] at h <;> simp at h
        exact h
    · rw [e b, e' b]; simp [Option.or_assoc]
    · rcases d b with h | h
      · exact .inl h
      · rw [e' b] at h
        right
        cases h2b : h2 b <;> rw [h2b] at h <;> simp at h
instance : Std.Associative (HSMul.hSMul : HProp → HProp → HProp) := ⟨sep_assoc'⟩
instance : Std.Commutative (HSMul.hSMul : HProp → HProp → HProp) := ⟨sep_comm'⟩
theorem sep_left_comm' (P Q R : HProp) : (P • (Q • R)) = (Q • (P • R)) := by
  rw [← sep_assoc', sep_comm' P Q, sep_assoc']
theorem emp_sep (P : HProp) : (emp • P) = P := by
  funext h
  refine propext ⟨?_, fun hp => ⟨fun _ => none, h, fun b => .inl rfl, fun b => by simp, fun b => rfl, hp⟩⟩
  rintro ⟨h1, h2, _, e, p, q⟩
  have : h = h2 := funext fun b => by rw [e b, p b]; rfl
  exact this ▸ q

/-- What the world's blocks bear; c: what the streams and the tape are. -/
structure SL (c : World) (H : HProp) (w : World) : Prop where
  os : w.os = c.os
  tape : w.tape = c.tape
  output : w.output = c.output
  heap : ∃ h : Hp, H h ∧ ∀ b o, h b = some o → w.heap[b]? = some o

/-- One assertion gives another (what is not needed may be left). -/
def Ent (H K : HProp) : Prop := ∀ c w, SL c H w → SL c K w
theorem Ent.refl (H : HProp) : Ent H H := fun _ _ h => h
theorem Ent.trans {A B C : HProp} (h : Ent A B) (k : Ent B C) : Ent A C := fun c w x => k c w (h c w x)
theorem Ent.of_imp {H K : HProp} (h : ∀ hp, H hp → K hp) : Ent H K := fun _ _ x => ⟨x.os, x.tape, x.output, let ⟨hp, a, b⟩ := x.heap; ⟨hp, h hp a, b⟩⟩
theorem Ent.of_eq {H K : HProp} (h : H = K) : Ent H K := h ▸ Ent.refl H
/-- Inside a frame: an implication between assertions over parts of the blocks. -/
theorem Ent.sub {H K : HProp} (h : ∀ hp, H hp → ∃ hp', K hp' ∧ ∀ b o, hp' b = some o → hp b = some o) : Ent H K := fun _ _ x =>
  ⟨x.os, x.tape, x.output, let ⟨hp, a, b⟩ := x.heap; let ⟨hp', k, s⟩ := h hp a; ⟨hp', k, fun i o ho => b i o (s i o ho)⟩⟩
/-- Implication by a part of the blocks: the form that goes under a frame. -/
def Imp (H K : HProp) : Prop := ∀ hp, H hp → ∃ hp', K hp' ∧ ∀ b o, hp' b = some o → hp b = some o
theorem Imp.refl (H : HProp) : Imp H H := fun hp h => ⟨hp, h, fun _ _ h => h⟩
theorem Imp.trans {A B C : HProp} (h : Imp A B) (k : Imp B C) : Imp A C := fun hp a =>
  let ⟨h1, b, s⟩ := h hp a; let ⟨h2, c, t⟩ := k h1 b; ⟨h2, c, fun i o x => s i o (t i o x)⟩
theorem Imp.ent {H K : HProp} (h : Imp H K) : Ent H K := Ent.sub h
theorem Imp.of_eq {H K : HProp} (h : H = K) : Imp H K := h ▸ Imp.refl H
theorem Imp.sep {A B C D : HProp} (h : Imp A C) (k : Imp B D) : Imp (A • B) (C • D) := by
  rintro hp ⟨h1, h2, d, e, p, q⟩
  obtain ⟨g1, c, s⟩ := h h1 p
  obtain ⟨g2, c', s'⟩ := k h2 q
  refine ⟨fun b => (g1 b).or (g2 b), ⟨g1, g2, fun b => ?_, fun b => rfl, c, c'⟩, fun b o ho => ?_⟩
  · cases x : g1 b with
    | none => exact .inl rfl
    | some o =>
      right
      have := s b o x
      cases y : g2 b with
      | none => rfl
      | some o' =>
        have := s' b o' y
        rcases d b with z | z <;> simp_all
  · rw [e b]
    simp only [] at ho
    cases x : g1 b with
    | some o' =>
      rw [x] at ho
      simp at ho
      rw [s b o' x, ← ho]; rfl
    | none =>
      rw [x] at ho
      simp at ho
      have := s' b o ho
      rcases d b with z | z
      · rw [z, this]; rfl
      · rw [z] at this; cases this
theorem Imp.drop (A : HProp) : Imp A emp := fun _ _ => ⟨fun _ => none, fun _ => rfl, fun _ _ h => by cases h⟩
theorem Imp.left (A B : HProp) : Imp (A • B) A := by
  rintro hp ⟨h1, h2, d, e, p, q⟩
  exact ⟨h1, p, fun b o ho => by rw [e b, ho]; rfl⟩
theorem Imp.right (A B : HProp) : Imp (A • B) B := by rw [sep_comm']; exact Imp.left B A
theorem Imp.exE {α : Sort _} {P : α → HProp} {K : HProp} (h : ∀ x, Imp (P x) K) : Imp (ex P) K := fun hp ⟨x, a⟩ => h x hp a
theorem Imp.exi {α : Sort _} {P : α → HProp} {K : HProp} (x : α) (h : Imp K (P x)) : Imp K (ex P) := fun hp a => let ⟨g, b, s⟩ := h hp a; ⟨g, ⟨x, b⟩, s⟩
theorem ex_sep {α : Sort _} (P : α → HProp) (R : HProp) : (ex P • R) = ex fun x => P x • R := by
  funext h
  exact propext ⟨fun ⟨h1, h2, d, e, ⟨x, p⟩, q⟩ => ⟨x, h1, h2, d, e, p, q⟩, fun ⟨x, h1, h2, d, e, p, q⟩ => ⟨h1, h2, d, e, ⟨x, p⟩, q⟩⟩
theorem pr_true {φ : Prop} (h : φ) : pr φ = emp := by
  funext hp
  exact propext ⟨fun x => x.2, fun x => ⟨h, x⟩⟩

section
variable {c w : World} {H R : HProp} {b : Nat} {o : Obj}
theorem SL.ent {K : HProp} (h : SL c H w) (e : Ent H K) : SL c K w := e c w h
theorem SL.imp {K : HProp} (h : SL c H w) (e : Imp H K) : SL c K w := e.ent c w h
theorem SL.get (h : SL c (pt b o • R) w) : w.heap[b]? = some o := by
  obtain ⟨hp, ⟨h1, h2, d, e, p, q⟩, s⟩ := h.heap
  exact s b o (by rw [e b, p b]; simp)
theorem SL.ne {b' : Nat} {o' : Obj} (h : SL c (pt b o • pt b' o' • R) w) : b ≠ b' := by
  rintro rfl
  obtain ⟨hp, ⟨h1, h2, d, e, p, h3, h4, d', e', p', q'⟩, s⟩ := h.heap
  have := d b
  rw [p b, e' b, p' b] at this
  simp at this
theorem SL.exE {α : Sort _} {P : α → HProp} (h : SL c (ex P • R) w) : ∃ x, SL c (P x • R) w := by
  rw [ex_sep] at h
  obtain ⟨hp, ⟨x, p⟩, s⟩ := h.heap
  exact ⟨x, h.os, h.tape, h.output, hp, p, s⟩
theorem SL.prE {φ : Prop} (h : SL c (pr φ • R) w) : φ ∧ SL c R w := by
  obtain ⟨hp, ⟨h1, h2, d, e, p, q⟩, s⟩ := h.heap
  exact ⟨p.1, h.os, h.tape, h.output, h2, q, fun b o ho => s b o (by rw [e b, p.2 b, ho]; rfl)⟩
/-- The block at the front is now another object; no other one of the old has turned. -/
theorem SL.upd {w' : World} {o' : Obj} (h : SL c (pt b o • R) w) (ho : w'.os = w.os) (ht : w'.tape = w.tape) (hu : w'.output = w.output)
    (hb : w'.heap[b]? = some o') (hk : ∀ k, k ≠ b → k < w.heap.size → w'.heap[k]? = w.heap[k]?) : SL c (pt b o' • R) w' := by
  obtain ⟨hp, ⟨h1, h2, d, e, p, q⟩, s⟩ := h.heap
  have hbn : h2 b = none := by
    rcases d b with x | x
    · rw [p b] at x; simp at x
    · exact x
  refine ⟨ho.trans h.os, ht.trans h.tape, hu.trans h.output, fun k => if k = b then some o' else hp k, ⟨fun k => if k = b then some o' else none, h2, fun k => ?_, fun k => ?_, fun k => rfl, q⟩, fun k x hx => ?_⟩
  · by_cases hkb : k = b
    · right; rw [hkb]; exact hbn
    · left; simp [hkb]
  · by_cases hkb : k = b
    · simp [hkb]
    · simp [hkb, e k, p k]
  · by_cases hkb : k = b
    · subst hkb; simp at hx; subst hx; exact hb
    · simp only [hkb, if_false] at hx
      have h0 := s k x hx
      rw [hk k hkb (Array.getElem?_eq_some_iff.1 h0).1]; exact h0
/-- A new block. -/
theorem SL.new {w' : World} (h : SL c R w) (ho : w'.os = w.os) (ht : w'.tape = w.tape) (hu : w'.output = w.output)
    (hb : w'.heap[w.heap.size]? = some o) (hk : ∀ k, k < w.heap.size → w'.heap[k]? = w.heap[k]?) : SL c (pt w.heap.size o • R) w' := by
  obtain ⟨hp, q, s⟩ := h.heap
  have hn : hp w.heap.size = none := by
    cases x : hp w.heap.size with
    | none => rfl
    | some y => have := (Array.getElem?_eq_some_iff.1 (s _ _ x)).1; omega
  refine ⟨ho.trans h.os, ht.trans h.tape, hu.trans h.output, fun k => if k = w.heap.size then some o else hp k, ⟨fun k => if k = w.heap.size then some o else none, hp, fun k => ?_, fun k => ?_, fun k => rfl, q⟩, fun k x hx => ?_⟩
  · by_cases hkb : k = w.heap.size
    · right; rw [hkb]; exact hn
    · left; simp [hkb]
  · by_cases hkb : k = w.heap.size
    · simp [hkb]
    · simp [hkb]
  · by_cases hkb : k = w.heap.size
    · subst hkb; simp at hx; subst hx; exact hb
    · simp only [hkb, if_false] at hx
      have h0 := s k x hx
      rw [hk k (Array.getElem?_eq_some_iff.1 h0).1]; exact h0
theorem SL.alloc (h : SL c R w) (o : Obj) : SL c (pt w.heap.size o • R) (w.alloc o) :=
  h.new rfl rfl rfl (heap_alloc_new w o) (fun _k hk => heap_alloc_old w o hk)
theorem SL.drew (h : SL c R w) : SL c R w.drew := ⟨h.os, h.tape, h.output, h.heap⟩
theorem SL.cell {cs : Array Value} {E : TypeId} {fz : Nat × Nat} (h : SL c (pt b (.cells cs E fz) • R) w) (i : Nat) : w.cell? ⟨b, i, none⟩ = cs[i]? := by
  simp [World.cell?, h.get]
theorem SL.frozen {cs : Array Value} {E : TypeId} {fz : Nat × Nat} (h : SL c (pt b (.cells cs E fz) • R) w) (i : Nat) : w.frozen? ⟨b, i, none⟩ = (decide (fz.1 ≤ i) && decide (i < fz.2)) := by
  simp [World.frozen?, h.get]
theorem SL.setCell {cs : Array Value} {E : TypeId} {fz : Nat × Nat} (h : SL c (pt b (.cells cs E fz) • R) w) (i : Nat) (v : Value) :
    SL c (pt b (.cells (cs.setIfInBounds i v) E fz) • R) (w.setCell ⟨b, i, none⟩ v) := by
  have hg := h.get
  refine h.upd rfl rfl rfl ?_ fun k hk _ => ?_
  · simp [World.setCell, Array.getElem?_modify, hg]
  · simp [World.setCell, Array.getElem?_modify, Ne.symm hk]
end

/-- A is one of the parts of H; R is the rest. -/
class Pick (H A : HProp) (R : outParam HProp) : Prop where
  eq : H = (A • R)
instance (priority := 1000) pickHead (A R : HProp) : Pick (A • R) A R := ⟨rfl⟩
instance (priority := 500) pickTail (A B H R : HProp) [h : Pick H A R] : Pick (B • H) A (B • R) := ⟨by rw [h.eq, sep_left_comm']⟩
instance (priority := 900) pickLast (A : HProp) : Pick A A emp := ⟨by rw [sep_comm', emp_sep]⟩
/-- All parts of A are parts of H; R is the rest. -/
class Take (H A : HProp) (R : outParam HProp) : Prop where
  eq : H = (A • R)
instance (priority := 1000) takeSep (H A B R1 R : HProp) [h : Take H A R1] [k : Take R1 B R] : Take H (A • B) R := ⟨by rw [h.eq, k.eq, sep_assoc']⟩
instance (priority := 900) takeEmp (H : HProp) : Take H emp H := ⟨(emp_sep H).symm⟩
instance (priority := 500) takeOne (H A R : HProp) [h : Pick H A R] : Take H A R := ⟨h.eq⟩
/-- Block b is one of the parts. -/
class Blk (H : HProp) (b : Nat) (o : outParam Obj) (R : outParam HProp) : Prop where
  eq : H = (pt b o • R)
instance (priority := 1000) blkHead (b : Nat) (o : Obj) (R : HProp) : Blk (pt b o • R) b o R := ⟨rfl⟩
instance (priority := 500) blkTail (b : Nat) (o : Obj) (B H R : HProp) [h : Blk H b o R] : Blk (B • H) b o (B • R) := ⟨by rw [h.eq, sep_left_comm']⟩
instance (priority := 900) blkLast (b : Nat) (o : Obj) : Blk (pt b o) b o emp := ⟨by rw [sep_comm', emp_sep]⟩

theorem Imp.take {H A R K : HProp} [h : Take H A R] (k : Imp R K) : Imp H (A • K) := by
  rw [h.eq]; exact Imp.sep (Imp.refl A) k
theorem Imp.all {H A R : HProp} [h : Take H A R] : Imp H A := by
  rw [h.eq]; exact Imp.left A R
theorem Imp.pack {H A B R K : HProp} (e : Imp B A) [h : Take H B R] (k : Imp R K) : Imp H (A • K) := by
  rw [h.eq]; exact Imp.sep e k
theorem Imp.mk {σ : Sort _} {φ : σ → Prop} {B : σ → HProp} (x : σ) (h : φ x) : Imp (B x) (ex fun x => pr (φ x) • B x) :=
  Imp.exi x (by rw [pr_true h, emp_sep]; exact Imp.refl _)
theorem Imp.opn {σ : Sort _} {φ : σ → Prop} {B : σ → HProp} {C : HProp} {R : HProp} (h : ∀ x, Imp (B x • R) C) : Imp ((ex fun x => pr (φ x) • B x) • R) C := by
  rw [ex_sep]
  refine Imp.exE fun x => ?_
  rw [sep_assoc']
  exact (Imp.right _ _).trans (h x)
theorem Imp.opn' {σ : Sort _} {φ : σ → Prop} {B : σ → HProp} {B' : σ → HProp} {R : HProp} (h : ∀ x, (B x • R) = B' x) : Imp ((ex fun x => pr (φ x) • B x) • R) (ex fun x => pr (φ x) • B' x) := by
  rw [ex_sep]
  refine Imp.exE fun x => Imp.exi x ?_
  rw [sep_assoc', h x]; exact Imp.refl _
theorem Imp.unpack {H A R K B : HProp} (e : Imp A B) [h : Pick H A R] (k : Imp (B • R) K) : Imp H K := by
  rw [h.eq]; exact (Imp.sep e (Imp.refl R)).trans k
end Go.Proofs.YtbdhhedfplkidaaGreat
/- The walk: a function's code is gone through with a list of what its slots hold and an assertion of what the blocks hold. -/
namespace Go.Proofs.YtbdhhedfplkidaaGreat
open Go
noncomputable abbrev Pg : Program := Tryz.prog

/-! ### slots -/
def lk (i : Nat) : List (Nat × Value) → Option Value
  | [] => none
  | (j, v) :: l => bif Nat.beq i j then some v else lk i l
structure Fr (a : Act) (n : Nat) (l : List (Nat × Value)) : Prop where
  defers : a.defers = []
  size : a.tmps.size = n
  slot : ∀ i v, lk i l = some v → a.tmps[i]? = some v
def ev (l : List (Nat × Value)) : Operand → Option Value
  | .tmp t => lk t l
  | .const v => some v
  | .global g => some (.pointer (some ⟨g, 0, none⟩))
  | .func f => some (.func (.func f) #[] #[])
def EvL (l : List (Nat × Value)) : List Operand → List Value → Prop
  | [], [] => True
  | x :: xs, v :: vs => ev l x = some v ∧ EvL l xs vs
  | _, _ => False
/-- The slots of l' are slots of l. -/
def Sub (l : List (Nat × Value)) : List (Nat × Value) → Prop
  | [] => True
  | (i, v) :: r => lk i l = some v ∧ Sub l r
def ini : Nat → List Value → List (Nat × Value)
  | _, [] => []
  | k, v :: vs => (k, v) :: ini (k + 1) vs

section
variable {a : Act} {n : Nat} {l : List (Nat × Value)}
theorem Fr.eval (h : Fr a n l) {x : Operand} {v : Value} (hx : ev l x = some v) : a.eval x = v := by
  cases x with
  | tmp t => have := h.slot t v hx; simp [Act.eval, Array.getD_eq_getD_getElem?, this]
  | const u => simpa [ev, Act.eval] using hx
  | global g => simpa [ev, Act.eval] using hx
  | func f => simpa [ev, Act.eval] using hx
theorem Fr.evalL (h : Fr a n l) : ∀ {xs : List Operand} {vs : List Value}, EvL l xs vs → xs.map a.eval = vs
  | [], [], _ => rfl
  | x :: xs, v :: vs, hx => by simp only [List.map_cons, h.eval hx.1, h.evalL hx.2]
  | [], _ :: _, hx => hx.elim
  | _ :: _, [], hx => hx.elim
theorem Fr.put (h : Fr a n l) {d : Nat} (hd : Nat.blt d n = true) (v : Value) : Fr (a.put (some d) v) n ((d, v) :: l) := by
  have hd' : d < n := Nat.le_of_ble_eq_true hd
  refine ⟨h.defers, by simp [Act.put, h.size], fun i u hu => ?_⟩
  simp only [lk] at hu
  simp only [Act.put, Array.getElem?_setIfInBounds]
  by_cases hi : i = d
  · subst hi
    simp at hu
    simp [h.size, hd', hu]
  · have : Nat.beq i d = false := by
      cases hb : Nat.beq i d with
      | false => rfl
      | true => exact absurd (Nat.eq_of_beq_eq_true hb) hi
    rw [this] at hu
    simp only [cond_false] at hu
    rw [if_neg (Ne.symm hi)]
    exact h.slot i u hu
theorem Sub.get : ∀ {l' : List (Nat × Value)}, Sub l l' → ∀ i v, lk i l' = some v → lk i l = some v
  | [], _, _, _, h => by cases h
  | (j, u) :: r, hs, i, v, h => by
    simp only [lk] at h
    cases hb : Nat.beq i j with
    | true => rw [hb] at h; have := Nat.eq_of_beq_eq_true hb; subst this; simp at h; exact h ▸ hs.1
    | false => rw [hb] at h; exact Sub.get hs.2 i v (by simpa using h)
theorem Fr.sub (h : Fr a n l) {l' : List (Nat × Value)} (hs : Sub l l') : Fr a n l' := ⟨h.defers, h.size, fun i v hv => h.slot i v (hs.get i v hv)⟩
theorem lk_ini : ∀ (vs : List Value) (k i : Nat) (v : Value), lk i (ini k vs) = some v → k ≤ i ∧ vs[i - k]? = some v
  | [], _, _, _, h => by cases h
  | u :: vs, k, i, v, h => by
    simp only [ini, lk] at h
    cases hb : Nat.beq i k with
    | true => rw [hb] at h; have := Nat.eq_of_beq_eq_true hb; subst this; simpa using h
    | false =>
      rw [hb] at h
      have hne : i ≠ k := fun e => by subst e; simp at hb
      obtain ⟨h1, h2⟩ := lk_ini vs (k + 1) i v (by simpa using h)
      refine ⟨by omega, ?_⟩
      rw [show i - k = (i - (k + 1)) + 1 from by omega]
      simpa using h2
end

/-! ### control -/
inductive Ex where | normal | ret | exit (id : Nat)
def Ex.to : Ex → Exit | .normal => .normal | .ret => .ret | .exit id => .exit id
inductive Kn where
  | seq (c : Code)
  | blk (id : Nat)
  | scp (c : Code)
  | inv (I : Act → World → Prop)
/-- How a list of operations is gone through: one behind the other; in whatever order, the assertion standing still; some that may be taken first, ahead of what is left; ONE of those that may come up now, and what is left behind it in whatever order. -/
inductive Md where
  | seq
  | quiet
  | tk (J : Nat → Bool) (T : World → Prop) (f : Nat) (li : Array Bool)
  | one (b : Bool) (J : Nat → Bool) (S : World → Prop) (f : Nat) (li : Array Bool)
  | aft (b : Bool) (J : Nat → Bool) (S : World → Prop) (f : Nat) (li : Array Bool)
inductive Ctl where
  | code (c : Code) (ks : List Kn)
  | any (J : Nat → Bool) (S : World → Prop) (all : Array Oper) (f : Nat) (li : Array Bool) (ks : List Kn)
  | ops (q : Md) (all : Array Oper) (rest : List Oper) (ks : List Kn)
  | done (e : Ex) (ks : List Kn)
def Qk (Q : Exit → Act → World → Prop) : List Kn → Exit → Act → World → Prop
  | [] => Q
  | .seq y :: ks => Exit.then (y.wp Pg (Qk Q ks)) (Qk Q ks)
  | .blk id :: ks => Exit.inBlock id (Qk Q ks)
  | .scp _ :: ks => Exit.noGoto (Qk Q ks)
  | .inv I :: ks => Exit.then I (Qk Q ks)
/-- Whatever order is picked; behind each operation but the breakers (not J) S holds. -/
def anyJ (all : Array Oper) (Q : Exit → Act → World → Prop) (J : Nat → Bool) (S : World → Prop) : Nat → Array Bool → Act → World → Prop
  | 0, li, a, w => Region.ready .any all li = [] ∧ Q .normal a w
  | f + 1, li, a, w => (Region.ready .any all li = [] → Q .normal a w) ∧
    ∀ i ∈ Region.ready .any all li, wpOp Pg all Q i (fun a' w' => (J i = true → S w') ∧ anyJ all Q J S f (li.setIfInBounds i true) a' w') a w
/-- Each of them yields its value in every world of C, and leaves it alone. -/
def yl (all : Array Oper) (C : World → Prop) (K : Act → Prop) : List Oper → Act → Prop
  | [], a => K a
  | o :: rest, a => if Region.wanted o (yielded all a.tmps) then ∃ v, (∀ w, C w → (execOp a.eval o).run Pg w = .ok (.value v) w) ∧ yl all C K rest (a.put o.dst v) else yl all C K rest (a.put o.dst undef)
/-- C: the worlds of which the assertion holds (for a region in whatever order). -/
def sem (C : World → Prop) (Q : Exit → Act → World → Prop) : Ctl → Act → World → Prop
  | .code x ks, a, w => x.wp Pg (Qk Q ks) a w
  | .any J S all f li ks, a, w => anyJ all (Qk Q ks) J S f li a w
  | .ops .seq all rest ks, a, w => wpList Pg all (Qk Q ks) rest a w
  | .ops .quiet all rest ks, a, _ => wpQuiet Pg all C (fun a' => ∀ w', C w' → Qk Q ks .normal a' w') rest a
  | .ops (.tk J T f li) all rest ks, a, _ => yl all C (fun a' => ∀ w', T w' → anyJ all (Qk Q ks) J C f li a' w') rest a
  | .ops (.one b J S f li) all (o :: _) ks, a, w => if Region.wanted o (yielded all a.tmps) then o.wp Pg a w (fun a' w' => (b = true → S w') ∧ anyJ all (Qk Q ks) J S f li a' w') (Qk Q ks) else ((b = true → S w) ∧ anyJ all (Qk Q ks) J S f li (a.put o.dst undef) w)
  | .ops (.one ..) _ [] _, _, _ => False
  | .ops (.aft b J S f li) all _ ks, a, w => (b = true → S w) ∧ anyJ all (Qk Q ks) J S f li a w
  | .done e ks, a, w => Qk Q ks e.to a w
inductive Nl : Md → Md → Prop
  | seq : Nl .seq .seq
  | quiet : Nl .quiet .quiet
  | tk (J : Nat → Bool) (T : World → Prop) (f : Nat) (li : Array Bool) : Nl (.tk J T f li) (.tk J T f li)
  | one (b : Bool) (J : Nat → Bool) (S : World → Prop) (f : Nat) (li : Array Bool) : Nl (.one b J S f li) (.aft b J S f li)
class NL (q1 : Md) (q2 : outParam Md) : Prop where
  p : Nl q1 q2
instance : NL .seq .seq := ⟨.seq⟩
instance : NL .quiet .quiet := ⟨.quiet⟩
instance (J : Nat → Bool) (T : World → Prop) (f : Nat) (li : Array Bool) : NL (.tk J T f li) (.tk J T f li) := ⟨.tk J T f li⟩
instance (b : Bool) (J : Nat → Bool) (S : World → Prop) (f : Nat) (li : Array Bool) : NL (.one b J S f li) (.aft b J S f li) := ⟨.one b J S f li⟩
class NQ (q : Md) : Prop where
  p : q = .seq ∨ q = .quiet
instance : NQ .seq := ⟨.inl rfl⟩
instance : NQ .quiet := ⟨.inr rfl⟩
inductive Nx : Md → Md → Prop
  | seq : Nx .seq .seq
  | one (b : Bool) (J : Nat → Bool) (S : World → Prop) (f : Nat) (li : Array Bool) : Nx (.one b J S f li) (.aft b J S f li)
class NX (q1 : Md) (q2 : outParam Md) : Prop where
  p : Nx q1 q2
instance : NX .seq .seq := ⟨.seq⟩
instance (b : Bool) (J : Nat → Bool) (S : World → Prop) (f : Nat) (li : Array Bool) : NX (.one b J S f li) (.aft b J S f li) := ⟨.one b J S f li⟩
/-- From every frame with these slots, and every world of which H says the blocks, the run goes well. -/
def WS (c : World) (Q : Exit → Act → World → Prop) (n : Nat) (s : Ctl) (l : List (Nat × Value)) (H : HProp) : Prop :=
  ∀ a w, Fr a n l → SL c H w → sem (SL c H) Q s a w

def gval (all : Array Oper) (l : List (Nat × Value)) (j : Nat) : Option Bool :=
  match all[j]? with
  | some o => match o.dst with
    | some d => match lk d l with
      | some (.bool b) => some b
      | _ => none
    | none => none
  | none => none
def cstep (l : List (Nat × Value)) : Ctl → Option Ctl
  | .code (.seq x y) ks => some (.code x (.seq y :: ks))
  | .code (.block id b) ks => some (.code b (.blk id :: ks))
  | .code .skip ks => some (.done .normal ks)
  | .code (.exit id) ks => some (.done (.exit id) ks)
  | .code .ret ks => some (.done .ret ks)
  | .code (.region _ ops false) ks => some (.ops .seq ops ops.toList ks)
  | .code (.cond x y z) ks => match ev l x with
    | some (.bool true) => some (.code y ks)
    | some (.bool false) => some (.code z ks)
    | _ => none
  | .ops .seq _ [] ks => some (.done .normal ks)
  | .ops .quiet _ [] ks => some (.done .normal ks)
  | .ops q all (o :: rest) ks => match o.guard with
    | some (j, want) => match gval all l j with
      | some b => bif b == want then some (.ops q all ({ o with guard := none } :: rest) ks) else none
      | none => none
    | none => none
  | .done .normal (.seq y :: ks) => some (.code y ks)
  | .done .normal (.blk _ :: ks) => some (.done .normal ks)
  | .done .normal (.scp _ :: ks) => some (.done .normal ks)
  | .done (.exit i) (.scp _ :: ks) => some (.done (.exit i) ks)
  | .code (.scope b) ks => some (.code b (.scp b :: ks))
  | .code (.label _) ks => some (.done .normal ks)
  | .done (.exit i) (.seq _ :: ks) => some (.done (.exit i) ks)
  | .done (.exit i) (.blk j :: ks) => bif Nat.beq i j then some (.done .normal ks) else some (.done (.exit i) ks)
  | .done (.exit i) (.inv _ :: ks) => some (.done (.exit i) ks)
  | .done .ret (_ :: ks) => some (.done .ret ks)
  | _ => none

section
variable {c : World} {Q : Exit → Act → World → Prop} {n : Nat} {l l' : List (Nat × Value)} {H H' R : HProp} {ks : List Kn}
theorem yielded_eq {a : Act} (h : Fr a n l) {all : Array Oper} {j : Nat} {b : Bool} (hg : gval all l j = some b) : yielded all a.tmps j = some b := by
  unfold gval at hg
  unfold yielded
  split at hg
  · rename_i o ho
    split at hg
    · rename_i d hd
      split at hg
      · rename_i b' hb
        have := h.slot d _ hb
        cases hg
        simp [ho, hd, this]
      · cases hg
    · cases hg
  · cases hg
theorem wpList_guard {all : Array Oper} {o : Oper} {rest : List Oper} {a : Act} {w : World} {Q' : Exit → Act → World → Prop}
    (hw : Region.wanted o (yielded all a.tmps) = true) (h : wpList Pg all Q' ({ o with guard := none } :: rest) a w) : wpList Pg all Q' (o :: rest) a w := by
  unfold wpList at h ⊢
  rw [if_pos hw]
  rw [if_pos (by simp [Region.wanted])] at h
  exact h
theorem wpQuiet_guard {all : Array Oper} {o : Oper} {rest : List Oper} {a : Act} {C : World → Prop} {Q' : Act → Prop}
    (hw : Region.wanted o (yielded all a.tmps) = true) (h : wpQuiet Pg all C Q' ({ o with guard := none } :: rest) a) : wpQuiet Pg all C Q' (o :: rest) a := by
  unfold wpQuiet at h ⊢
  rw [if_pos hw]
  rw [if_pos (by simp [Region.wanted])] at h
  exact h
/-- A step of control. -/
theorem W.ctl {s s' : Ctl} (h : cstep l s = some s') (k : WS c Q n s' l H) : WS c Q n s l H := by
  intro a w hf hs0
  have hs := k a w hf hs0
  unfold cstep at h
  split at h
  · cases h; exact wp_seq hs
  · cases h; exact wp_block hs
  · cases h; exact wp_skip hs
  · cases h; exact wp_exit hs
  · cases h; exact wp_ret hs
  · cases h; exact wp_region_list hs
  · split at h
    · rename_i hx; cases h; exact wp_cond_true (hf.eval hx) hs
    · rename_i hx; cases h; exact wp_cond_false (hf.eval hx) hs
    · cases h
  · cases h; exact hs
  · cases h; exact fun w' hw' => k a w' hf hw'
  · split at h
    · rename_i q all o rest ks _ j want hg
      split at h
      · rename_i b hb
        cases hbw : (b == want) with
        | false => rw [hbw] at h; cases h
        | true =>
          rw [hbw] at h
          cases h
          have hbw' : b = want := by simpa using hbw
          have hwd : Region.wanted o (yielded all a.tmps) = true := by simp [Region.wanted, hg, yielded_eq hf hb, hbw']
          cases q with
          | seq => exact wpList_guard hwd hs
          | quiet => exact wpQuiet_guard hwd hs
          | tk J T f li =>
            simp only [sem, yl] at hs ⊢
            rw [if_pos hwd]
            rw [if_pos (by simp [Region.wanted])] at hs
            exact hs
          | one b J S f li =>
            simp only [sem] at hs ⊢
            rw [if_pos hwd]
            rw [if_pos (by simp [Region.wanted])] at hs
            exact hs
          | aft b J S f li => exact hs
      · cases h
    · cases h
  · cases h; exact hs
  · cases h; exact hs
  · cases h; exact hs
  · cases h; exact hs
  · cases h; exact wp_scope_straight hs
  · cases h; exact wp_label hs
  · cases h; exact hs
  · rename_i i j ks
    cases hb : Nat.beq i j with
    | true =>
      rw [hb] at h; cases h
      have := Nat.eq_of_beq_eq_true hb
      subst this
      simpa [sem, Qk, Exit.inBlock, Ex.to] using hs
    | false =>
      rw [hb] at h; cases h
      have hne : i ≠ j := fun e => by subst e; simp at hb
      simpa [sem, Qk, Exit.inBlock, Ex.to, hne] using hs
  · cases h; exact hs
  · rename_i k2 ks
    cases h
    cases k2 <;> exact hs
  · cases h
def loud : Ctl → Bool
  | .ops .quiet _ _ _ => false
  | .ops (.tk ..) _ _ _ => false
  | _ => true
theorem sem_loud {s : Ctl} (h : loud s = true) {C C' : World → Prop} {a : Act} {w : World} : sem C Q s a w ↔ sem C' Q s a w := by
  cases s with
  | code => exact Iff.rfl
  | done => exact Iff.rfl
  | any => exact Iff.rfl
  | ops q all rest => cases q <;> cases rest <;> first | exact Iff.rfl | cases h
/-- Some slots are forgotten. -/
theorem W.keep {s : Ctl} (l' : List (Nat × Value)) (h : Sub l l') (k : WS c Q n s l' H) : WS c Q n s l H := fun a w hf hs => k a w (hf.sub h) hs
/-- The assertion is turned. -/
theorem W.imp {s : Ctl} (hq : loud s = true) (h : Imp H H') (k : WS c Q n s l H') : WS c Q n s l H := fun a w hf hs => (sem_loud hq).1 (k a w hf (hs.imp h))
theorem W.eq {s : Ctl} (h : H = H') (k : WS c Q n s l H') : WS c Q n s l H := h ▸ k
theorem W.exE {s : Ctl} {α : Sort _} {A : α → HProp} (hq : loud s = true) (k : ∀ x, WS c Q n s l (A x • R)) : WS c Q n s l (ex A • R) := fun a w hf hs => let ⟨x, h⟩ := hs.exE; (sem_loud hq).1 (k x a w hf h)
theorem W.prE {s : Ctl} {φ : Prop} (hq : loud s = true) (k : φ → WS c Q n s l R) : WS c Q n s l (pr φ • R) := fun a w hf hs => (sem_loud hq).1 (k hs.prE.1 a w hf hs.prE.2)
/-- One part of the assertion is opened: what it says by itself, and its own parts. -/
theorem W.open {s : Ctl} {A : HProp} {σ : Sort _} {B : σ → HProp → HProp} {φ : σ → Prop} (e : ∀ R, Imp (A • R) (ex fun x => pr (φ x) • B x R)) [hp : Pick H A R] (hq : loud s = true) (k : ∀ x, φ x → WS c Q n s l (B x R)) : WS c Q n s l H := by
  intro a w hf hs
  rw [hp.eq] at hs
  have h2 := hs.imp (e R)
  rw [← emp_sep (ex _), sep_comm'] at h2
  obtain ⟨x, hx⟩ := h2.exE
  rw [sep_assoc'] at hx
  obtain ⟨h3, h4⟩ := hx.prE
  rw [sep_comm', emp_sep] at h4
  exact (sem_loud hq).1 (k x h3 a w hf h4)
theorem W.absurd {s : Ctl} (h : False) : WS c Q n s l H := h.elim
/-- A truth value in a slot: both cases. -/
theorem W.case {s : Ctl} (i : Nat) {b : Bool} (h : lk i l = some (.bool b)) (k : b = true → WS c Q n s ((i, .bool true) :: l) H) (k' : b = false → WS c Q n s ((i, .bool false) :: l) H) : WS c Q n s l H := by
  intro a w hf hs
  have key : ∀ b', b = b' → Fr a n ((i, .bool b') :: l) := fun b' hb => ⟨hf.defers, hf.size, fun j v hv => by
    simp only [lk] at hv
    cases hj : Nat.beq j i with
    | true => rw [hj] at hv; have := Nat.eq_of_beq_eq_true hj; subst this; simp at hv; exact hv ▸ hf.slot j _ (hb ▸ h)
    | false => rw [hj] at hv; exact hf.slot j v (by simpa using hv)⟩
  cases hb : b with
  | true => exact k hb a w (key _ hb) hs
  | false => exact k' hb a w (key _ hb) hs

/-! ### one operation -/
variable {q q1 q2 : Md} {all : Array Oper} {o : Oper} {rest : List Oper} {d : Nat} {v : Value}
/-- An operation that yields a value and leaves the world alone. -/
theorem W.val [hq : NL q1 q2] (hg : o.guard = none) (hd : o.dst = some d) (hn : Nat.blt d n = true) (hv : ∀ a w, Fr a n l → SL c H w → (execOp a.eval o).run Pg w = .ok (.value v) w)
    (k : WS c Q n (.ops q2 all rest ks) ((d, v) :: l) H) : WS c Q n (.ops q1 all (o :: rest) ks) l H := by
  intro a w hf hs
  have hx := hq.p
  cases hx with
  | seq =>
    refine wpList_plain hg fun K hK => ?_
    unfold Oper.wp
    rw [hv a w hf hs]
    show K (a.put o.dst v) w
    rw [hd]
    exact hK _ _ (k _ _ (hf.put hn v) hs)
  | quiet =>
    refine wpQuiet_step fun K hK => ?_
    rw [if_pos (by simp [Region.wanted, hg])]
    refine ⟨v, fun w' hw' => ?_, ?_⟩
    · unfold Oper.quietAt
      rw [hv a w' hf hw']
      exact ⟨rfl, rfl⟩
    · rw [hd]; exact hK _ (k _ w (hf.put hn v) hs)
  | tk J T f li =>
    show yl _ _ _ _ _
    unfold yl
    rw [if_pos (by simp [Region.wanted, hg])]
    refine ⟨v, fun w' hw' => hv a w' hf hw', ?_⟩
    rw [hd]; exact k _ w (hf.put hn v) hs
  | one b J S f li =>
    simp only [sem]
    rw [if_pos (by simp [Region.wanted, hg])]
    unfold Oper.wp
    rw [hv a w hf hs]
    show _ ∧ anyJ _ _ _ _ _ _ (a.put o.dst v) w
    rw [hd]
    exact k _ _ (hf.put hn v) hs
/-- A call that leaves what the assertion says. -/
theorem W.quietCall {f : FuncId} {vs : List Value} (hg : o.guard = none) (hd : o.dst = some d) (hn : Nat.blt d n = true)
    (hv : ∀ a w, Fr a n l → SL c H w → (execOp a.eval o).run Pg w = .ok (.enter f vs.toArray) w ∧ Calls Pg f vs.toArray w fun e w' => e = .returned v ∧ SL c H w')
    (k : WS c Q n (.ops .quiet all rest ks) ((d, v) :: l) H) : WS c Q n (.ops .quiet all (o :: rest) ks) l H := by
  intro a w hf hs
  refine wpQuiet_step fun K hK => ?_
  rw [if_pos (by simp [Region.wanted, hg])]
  refine ⟨v, fun w' hw' => ?_, ?_⟩
  · unfold Oper.quietAt
    rw [(hv a w' hf hw').1]
    exact ⟨rfl, (hv a w' hf hw').2⟩
  · rw [hd]; exact hK _ (k _ w (hf.put hn v) hs)
/-- A region in whatever order. -/
theorem W.draw {id : Nat} {ops : Array Oper} (hB : Region.lexB .any ops = true) (hm : Pg.follows .mixedOrders = true) (k : WS c Q n (.ops .quiet ops ops.toList ks) l H) : WS c Q n (.code (.region id ops true) ks) l H :=
  fun a w hf hs => wp_region_quiet (C := SL c H) hm hB hs.drew (k a w hf hs)
/-- What an operation that may turn the world must do. -/
theorem W.base [hq : NX q1 q2] (hg : o.guard = none)
    (h : ∀ a w, Fr a n l → SL c H w → ∀ K : Act → World → Prop, (∀ l' H', WS c Q n (.ops q2 all rest ks) l' H' → ∀ a' w', Fr a' n l' → SL c H' w' → K a' w') → o.wp Pg a w K (Qk Q ks)) : WS c Q n (.ops q1 all (o :: rest) ks) l H := by
  intro a w hf hs
  have hx := hq.p
  cases hx with
  | seq => exact wpList_plain hg fun K hK => h a w hf hs K fun l' H' hk a' w' hf' hs' => hK a' w' (hk a' w' hf' hs')
  | one b J S f li =>
    simp only [sem]
    rw [if_pos (by simp [Region.wanted, hg])]
    exact h a w hf hs _ fun l' H' hk a' w' hf' hs' => hk a' w' hf' hs'
/-- An operation that yields a value and turns the world. -/
theorem W.valw [NX q1 q2] (hg : o.guard = none) (hd : o.dst = some d) (hn : Nat.blt d n = true) {σ : Sort _} {val : σ → Value} {K : σ → HProp} (hv : ∀ a w, Fr a n l → SL c H w → ∃ x w', (execOp a.eval o).run Pg w = .ok (.value (val x)) w' ∧ SL c (K x) w')
    (k : ∀ x, WS c Q n (.ops q2 all rest ks) ((d, val x) :: l) (K x)) : WS c Q n (.ops q1 all (o :: rest) ks) l H := by
  refine W.base hg fun a w hf hs K' hK => ?_
  unfold Oper.wp
  obtain ⟨x, w', hr, hs'⟩ := hv a w hf hs
  rw [hr]
  show K' (a.put o.dst (val x)) w'
  rw [hd]
  exact hK _ _ (k x) _ _ (hf.put hn _) hs'
/-- An operation whose value nobody wants, and that turns the world. -/
theorem W.valn [NX q1 q2] (hg : o.guard = none) (hd : o.dst = none) {v : Value} (hv : ∀ a w, Fr a n l → SL c H w → ∃ w', (execOp a.eval o).run Pg w = .ok (.value v) w' ∧ SL c H' w')
    (k : WS c Q n (.ops q2 all rest ks) l H') : WS c Q n (.ops q1 all (o :: rest) ks) l H := by
  refine W.base hg fun a w hf hs K' hK => ?_
  unfold Oper.wp
  obtain ⟨w', hr, hs'⟩ := hv a w hf hs
  rw [hr]
  show K' (a.put o.dst v) w'
  rw [hd]
  exact hK _ _ k _ _ hf hs'
/-- An operation that yields nothing and turns the world. -/
theorem W.unit [NX q1 q2] (hg : o.guard = none) (hd : o.dst = none) (hv : ∀ a w, Fr a n l → SL c H w → ∃ w', (execOp a.eval o).run Pg w = .ok .skip w' ∧ SL c H' w')
    (k : WS c Q n (.ops q2 all rest ks) l H') : WS c Q n (.ops q1 all (o :: rest) ks) l H := by
  refine W.base hg fun a w hf hs K' hK => ?_
  unfold Oper.wp
  obtain ⟨w', hr, hs'⟩ := hv a w hf hs
  rw [hr]
  show K' (a.put o.dst undef) w'
  rw [hd]
  exact hK _ _ k _ _ hf hs'
/-- What an operation of the region has yielded for a guard to look at: a truth value, or none. -/
def gvo (all : Array Oper) (l : List (Nat × Value)) (j : Nat) : Option (Option Bool) :=
  match all[j]? with
  | some o => match o.dst with
    | some d => match lk d l with
      | some (.bool b) => some (some b)
      | some (.tuple _) => some none
      | _ => none
    | none => none
  | none => none
theorem yielded_o {a : Act} (h : Fr a n l) {all : Array Oper} {j : Nat} {y : Option Bool} (hg : gvo all l j = some y) : yielded all a.tmps j = y := by
  unfold gvo at hg
  unfold yielded
  split at hg
  · rename_i o ho
    split at hg
    · rename_i d hd
      split at hg
      · rename_i b' hb
        have := h.slot d _ hb
        cases hg
        simp [ho, hd, this]
      · rename_i vs hb
        have := h.slot d _ hb
        cases hg
        simp [ho, hd, this]
      · cases hg
    · cases hg
  · cases hg
/-- An operation whose guard says no. -/
def gno (all : Array Oper) (l : List (Nat × Value)) (o : Oper) : Option Nat :=
  match o.guard with
  | some (j, want) => match gvo all l j with
    | some (some b) => bif b == want then none else o.dst
    | some none => o.dst
    | none => none
  | none => none
theorem gno_spec {a : Act} (hf : Fr a n l) {all : Array Oper} {o : Oper} {d : Nat} (h : gno all l o = some d) : o.dst = some d ∧ Region.wanted o (yielded all a.tmps) = false := by
  unfold gno at h
  split at h
  · rename_i j want hg
    split at h
    · rename_i b hb
      cases hbw : (b == want) with
      | true => rw [hbw] at h; cases h
      | false =>
        rw [hbw] at h
        refine ⟨h, ?_⟩
        simp [Region.wanted, hg, yielded_o hf hb]
        simpa using hbw
    · rename_i hb
      refine ⟨h, ?_⟩
      simp [Region.wanted, hg, yielded_o hf hb]
    · cases h
  · cases h
theorem W.skip [hq : NL q1 q2] (h : gno all l o = some d) (hn : Nat.blt d n = true) (k : WS c Q n (.ops q2 all rest ks) ((d, undef) :: l) H) : WS c Q n (.ops q1 all (o :: rest) ks) l H := by
  intro a w hf hs
  obtain ⟨hd, hwd⟩ := gno_spec hf h
  have hx := hq.p
  cases hx with
  | seq =>
    refine wpList_skip hwd ?_
    rw [hd]; exact k _ _ (hf.put hn _) hs
  | quiet =>
    refine wpQuiet_step fun K hK => ?_
    rw [if_neg (by simp [hwd]), hd]
    exact hK _ (k _ w (hf.put hn _) hs)
  | tk J T f li =>
    show yl _ _ _ _ _
    unfold yl
    rw [if_neg (by simp [hwd]), hd]
    exact k _ w (hf.put hn _) hs
  | one b J S f li =>
    simp only [sem]
    rw [if_neg (by simp [hwd]), hd]
    exact k _ w (hf.put hn _) hs
/-- A loop: what is known at each round's head, for a state x; each round that goes on has a state of a smaller measure. -/
def Again {σ : Type} (c : World) (n : Nat) (I : σ → Prop) (li : σ → List (Nat × Value)) (Hi : σ → HProp) (μ : σ → Nat) (x : σ) (a : Act) (w : World) : Prop := ∃ y, I y ∧ μ y < μ x ∧ Fr a n (li y) ∧ SL c (Hi y) w
theorem W.loop {σ : Type} (I : σ → Prop) (li : σ → List (Nat × Value)) (Hi : σ → HProp) (μ : σ → Nat) (x0 : σ) {b : Code} (hI : I x0) (h0 : Sub l (li x0)) (hH : Imp H (Hi x0))
    (round : ∀ x, I x → WS c Q n (.code b (.inv (Again c n I li Hi μ x) :: ks)) (li x) (Hi x)) : WS c Q n (.code (.loop b) ks) l H := by
  intro a w hf hs
  refine wp_loop_ghost (fun m a w => ∃ x, μ x = m ∧ I x ∧ Fr a n (li x) ∧ SL c (Hi x) w) (μ x0) ⟨x0, rfl, hI, hf.sub h0, hs.imp hH⟩ ?_
  rintro m a w ⟨x, rfl, hI, hf, hs⟩
  refine wp_mono (round x hI a w hf hs) ?_
  intro e a' w' hq
  cases e with
  | normal => obtain ⟨y, h0, h1, h2, h3⟩ := hq; exact ⟨μ y, h1, y, rfl, h0, h2, h3⟩
  | exit id => exact hq
  | goto l => exact hq
  | ret => exact hq
  | panic ch => exact hq
  | outgrown => exact hq
theorem W.again {σ : Type} {I : σ → Prop} {li : σ → List (Nat × Value)} {Hi : σ → HProp} {μ : σ → Nat} {x : σ} (y : σ) (hI : I y) (hm : μ y < μ x) (hs : Sub l (li y)) (hH : Imp H (Hi y)) :
    WS c Q n (.done .normal (.inv (Again c n I li Hi μ x) :: ks)) l H := fun _ _ hf h => ⟨y, hI, hm, hf.sub hs, h.imp hH⟩
/-- A call of a Go function, by its contract. -/
def CS (f : FuncId) (args : List Value) (H : HProp) (Post : Value → HProp → Prop) : Prop :=
  ∀ (c : World) (R : HProp) (w : World), SL c (H • R) w → Calls Pg f args.toArray w fun e w' => ∃ v H', Post v H' ∧ e = .returned v ∧ SL c (H' • R) w'
end
/-! ### what the program says of its types -/
class TI (t : Nat) (z : outParam Value) (s : outParam Nat) (a : outParam Bool) : Prop where
  zero : ∀ w, (zeroValue t).run Pg w = .ok z w
  size : ∀ w, (sizeOf t).run Pg w = .ok s w
  agg : ∀ w, (isAgg t).run Pg w = .ok a w
class TD (t : Nat) (d : outParam TypeDesc) : Prop where
  eq : Pg.underlying t = some d
class TB (t : Nat) (i : outParam TypeInfo) (z : outParam Value) (s by' : outParam Nat) : Prop where
  eq : Pg.info? t = some i
  zero : i.zero = some z
  size : i.size = s
  bytes : i.bytes = by'
class TF (s f : Nat) (off : outParam Nat) : Prop where
  run : ∀ a w, (Instr.fieldAt s (.pointer (some a)) f).run Pg w = .ok (.pointer (some (a.add off))) w
/-- Where a field lies, behind cell i. -/
class TFi (s f i : Nat) (r : outParam Nat) : Prop where
  run : ∀ b w, (Instr.fieldAt s (.pointer (some ⟨b, i, none⟩)) f).run Pg w = .ok (.pointer (some ⟨b, r, none⟩)) w
instance (priority := high) tf0 (s f off : Nat) [h : TF s f off] : TFi s f 0 off := ⟨fun b w => by
  rw [h.run]; unfold Addr.add; split
  · rename_i e; subst e; rfl
  · simp⟩
instance (priority := low) tfi (s f i off : Nat) [h : TF s f off] : TFi s f i (i + off) := ⟨fun b w => by
  rw [h.run]; unfold Addr.add; split
  · rename_i e; subst e; rfl
  · simp⟩
theorem mkTF {s f off sz : Nat} {fs : Array Field} {fd : Field} (hu : Pg.underlying s = some (.struct fs)) (hf : fs[f]? = some fd) (hs : ∀ w, (sizeOf fd.type).run Pg w = .ok sz w) (hn : sz ≠ 0) (ho : fd.offset = off := by rfl) : TF s f off := ⟨fun a w => by
  subst ho
  simp [Instr.fieldAt, Instr.sureAddr, run_underlying hu, hf, fieldPlace, hs, hn]⟩
end Go.Proofs.YtbdhhedfplkidaaGreat
/- What the walk asks of the program's types: their zero values, sizes, fields, kinds. Written by gents.py off the loaded program. -/
namespace Go.Proofs.YtbdhhedfplkidaaGreat
open Go

instance : TI 2 (Go.Value.int Go.IntKind.i64 0) 1 false := ⟨Tryz.zeroValue2, Tryz.sizeOf2, Tryz.isAgg2⟩
instance : TD 2 (Go.TypeDesc.int Go.IntKind.i64) := ⟨Tryz.underlying2⟩
instance : TB 2 Tryz.t2 (Go.Value.int Go.IntKind.i64 0) 1 8 := ⟨by kernel_rfl, rfl, rfl, rfl⟩
instance : TI 3 (Go.Value.int Go.IntKind.i64 0) 1 false := ⟨Tryz.zeroValue3, Tryz.sizeOf3, Tryz.isAgg3⟩
instance : TD 3 (Go.TypeDesc.int Go.IntKind.i64) := ⟨Tryz.underlying3⟩
instance : TB 3 Tryz.t3 (Go.Value.int Go.IntKind.i64 0) 1 8 := ⟨by kernel_rfl, rfl, rfl, rfl⟩
instance : TI 4 (Go.Value.bool Bool.false) 1 false := ⟨Tryz.zeroValue4, Tryz.sizeOf4, Tryz.isAgg4⟩
instance : TD 4 Go.TypeDesc.bool := ⟨Tryz.underlying4⟩
instance : TB 4 Tryz.t4 (Go.Value.bool Bool.false) 1 1 := ⟨by kernel_rfl, rfl, rfl, rfl⟩
instance : TI 5 (Go.Value.int Go.IntKind.u8 0) 1 false := ⟨Tryz.zeroValue5, Tryz.sizeOf5, Tryz.isAgg5⟩
instance : TD 5 (Go.TypeDesc.int Go.IntKind.u8) := ⟨Tryz.underlying5⟩
instance : TB 5 Tryz.t5 (Go.Value.int Go.IntKind.u8 0) 1 1 := ⟨by kernel_rfl, rfl, rfl, rfl⟩
instance : TI 6 (Go.Value.int Go.IntKind.u8 0) 1 false := ⟨Tryz.zeroValue6, Tryz.sizeOf6, Tryz.isAgg6⟩
instance : TD 6 (Go.TypeDesc.int Go.IntKind.u8) := ⟨Tryz.underlying6⟩
instance : TB 6 Tryz.t6 (Go.Value.int Go.IntKind.u8 0) 1 1 := ⟨by kernel_rfl, rfl, rfl, rfl⟩
instance : TI 7 (Go.Value.agg #[Go.Value.int Go.IntKind.i64 0, Go.Value.int Go.IntKind.i64 0, Go.Value.bool Bool.false, Go.Value.int Go.IntKind.u8 0]) 4 true := ⟨Tryz.zeroValue7, Tryz.sizeOf7, Tryz.isAgg7⟩
instance : TF 7 0 0 := mkTF Tryz.underlying7 rfl Tryz.sizeOf2 (by decide)
instance : TF 7 1 1 := mkTF Tryz.underlying7 rfl Tryz.sizeOf3 (by decide)
instance : TF 7 2 2 := mkTF Tryz.underlying7 rfl Tryz.sizeOf4 (by decide)
instance : TF 7 3 3 := mkTF Tryz.underlying7 rfl Tryz.sizeOf6 (by decide)
instance : TB 7 Tryz.t7 (Go.Value.agg #[Go.Value.int Go.IntKind.i64 0, Go.Value.int Go.IntKind.i64 0, Go.Value.bool Bool.false, Go.Value.int Go.IntKind.u8 0]) 4 24 := ⟨by kernel_rfl, rfl, rfl, rfl⟩
instance : TI 8 (Go.Value.agg #[Go.Value.int Go.IntKind.i64 0, Go.Value.int Go.IntKind.i64 0, Go.Value.bool Bool.false, Go.Value.int Go.IntKind.u8 0]) 4 true := ⟨Tryz.zeroValue8, Tryz.sizeOf8, Tryz.isAgg8⟩
instance : TF 8 0 0 := mkTF Tryz.underlying8 rfl Tryz.sizeOf2 (by decide)
instance : TF 8 1 1 := mkTF Tryz.underlying8 rfl Tryz.sizeOf3 (by decide)
instance : TF 8 2 2 := mkTF Tryz.underlying8 rfl Tryz.sizeOf4 (by decide)
instance : TF 8 3 3 := mkTF Tryz.underlying8 rfl Tryz.sizeOf6 (by decide)
instance : TB 8 Tryz.t8 (Go.Value.agg #[Go.Value.int Go.IntKind.i64 0, Go.Value.int Go.IntKind.i64 0, Go.Value.bool Bool.false, Go.Value.int Go.IntKind.u8 0]) 4 24 := ⟨by kernel_rfl, rfl, rfl, rfl⟩
instance : TI 9 (Go.Value.string { data := #[] }) 1 false := ⟨Tryz.zeroValue9, Tryz.sizeOf9, Tryz.isAgg9⟩
instance : TD 9 Go.TypeDesc.string := ⟨Tryz.underlying9⟩
instance : TB 9 Tryz.t9 (Go.Value.string { data := #[] }) 1 16 := ⟨by kernel_rfl, rfl, rfl, rfl⟩
instance : TI 10 (Go.Value.string { data := #[] }) 1 false := ⟨Tryz.zeroValue10, Tryz.sizeOf10, Tryz.isAgg10⟩
instance : TD 10 Go.TypeDesc.string := ⟨Tryz.underlying10⟩
instance : TB 10 Tryz.t10 (Go.Value.string { data := #[] }) 1 16 := ⟨by kernel_rfl, rfl, rfl, rfl⟩
instance : TI 11 (Go.Value.string { data := #[] }) 1 false := ⟨Tryz.zeroValue11, Tryz.sizeOf11, Tryz.isAgg11⟩
instance : TD 11 Go.TypeDesc.string := ⟨Tryz.underlying11⟩
instance : TB 11 Tryz.t11 (Go.Value.string { data := #[] }) 1 16 := ⟨by kernel_rfl, rfl, rfl, rfl⟩
instance : TI 12 (Go.Value.int Go.IntKind.u64 0) 1 false := ⟨Tryz.zeroValue12, Tryz.sizeOf12, Tryz.isAgg12⟩
instance : TD 12 (Go.TypeDesc.int Go.IntKind.u64) := ⟨Tryz.underlying12⟩
instance : TB 12 Tryz.t12 (Go.Value.int Go.IntKind.u64 0) 1 8 := ⟨by kernel_rfl, rfl, rfl, rfl⟩
instance : TI 13 (Go.Value.agg #[Go.Value.string { data := #[] }, Go.Value.int Go.IntKind.u64 0]) 2 true := ⟨Tryz.zeroValue13, Tryz.sizeOf13, Tryz.isAgg13⟩
instance : TF 13 0 0 := mkTF Tryz.underlying13 rfl Tryz.sizeOf9 (by decide)
instance : TF 13 1 1 := mkTF Tryz.underlying13 rfl Tryz.sizeOf12 (by decide)
instance : TB 13 Tryz.t13 (Go.Value.agg #[Go.Value.string { data := #[] }, Go.Value.int Go.IntKind.u64 0]) 2 24 := ⟨by kernel_rfl, rfl, rfl, rfl⟩
instance : TI 14 (Go.Value.agg #[Go.Value.string { data := #[] }, Go.Value.int Go.IntKind.u64 0]) 2 true := ⟨Tryz.zeroValue14, Tryz.sizeOf14, Tryz.isAgg14⟩
instance : TF 14 0 0 := mkTF Tryz.underlying14 rfl Tryz.sizeOf9 (by decide)
instance : TF 14 1 1 := mkTF Tryz.underlying14 rfl Tryz.sizeOf12 (by decide)
instance : TB 14 Tryz.t14 (Go.Value.agg #[Go.Value.string { data := #[] }, Go.Value.int Go.IntKind.u64 0]) 2 24 := ⟨by kernel_rfl, rfl, rfl, rfl⟩
instance : TI 15 (Go.Value.pointer Option.none) 1 false := ⟨Tryz.zeroValue15, Tryz.sizeOf15, Tryz.isAgg15⟩
instance : TD 15 (Go.TypeDesc.pointer 324) := ⟨Tryz.underlying15⟩
instance : TB 15 Tryz.t15 (Go.Value.pointer Option.none) 1 8 := ⟨by kernel_rfl, rfl, rfl, rfl⟩
instance : TI 16 (Go.Value.pointer Option.none) 1 false := ⟨Tryz.zeroValue16, Tryz.sizeOf16, Tryz.isAgg16⟩
instance : TD 16 (Go.TypeDesc.pointer 327) := ⟨Tryz.underlying16⟩
instance : TB 16 Tryz.t16 (Go.Value.pointer Option.none) 1 8 := ⟨by kernel_rfl, rfl, rfl, rfl⟩
instance : TI 17 (Go.Value.pointer Option.none) 1 false := ⟨Tryz.zeroValue17, Tryz.sizeOf17, Tryz.isAgg17⟩
instance : TD 17 (Go.TypeDesc.pointer 334) := ⟨Tryz.underlying17⟩
instance : TB 17 Tryz.t17 (Go.Value.pointer Option.none) 1 8 := ⟨by kernel_rfl, rfl, rfl, rfl⟩
instance : TI 18 (Go.Value.agg #[Go.Value.pointer Option.none]) 1 true := ⟨Tryz.zeroValue18, Tryz.sizeOf18, Tryz.isAgg18⟩
instance : TF 18 0 0 := mkTF Tryz.underlying18 rfl Tryz.sizeOf17 (by decide)
instance : TB 18 Tryz.t18 (Go.Value.agg #[Go.Value.pointer Option.none]) 1 8 := ⟨by kernel_rfl, rfl, rfl, rfl⟩
instance : TI 19 (Go.Value.agg #[Go.Value.pointer Option.none]) 1 true := ⟨Tryz.zeroValue19, Tryz.sizeOf19, Tryz.isAgg19⟩
instance : TF 19 0 0 := mkTF Tryz.underlying19 rfl Tryz.sizeOf17 (by decide)
instance : TB 19 Tryz.t19 (Go.Value.agg #[Go.Value.pointer Option.none]) 1 8 := ⟨by kernel_rfl, rfl, rfl, rfl⟩
instance : TI 20 Go.Value.nilIface 1 false := ⟨Tryz.zeroValue20, Tryz.sizeOf20, Tryz.isAgg20⟩
instance : TD 20 (Go.TypeDesc.interface #[]) := ⟨Tryz.underlying20⟩
instance : TB 20 Tryz.t20 Go.Value.nilIface 1 16 := ⟨by kernel_rfl, rfl, rfl, rfl⟩
instance : TI 21 (Go.Value.int Go.IntKind.i32 0) 1 false := ⟨Tryz.zeroValue21, Tryz.sizeOf21, Tryz.isAgg21⟩
instance : TD 21 (Go.TypeDesc.int Go.IntKind.i32) := ⟨Tryz.underlying21⟩
instance : TB 21 Tryz.t21 (Go.Value.int Go.IntKind.i32 0) 1 4 := ⟨by kernel_rfl, rfl, rfl, rfl⟩
instance : TI 22 (Go.Value.slice Option.none 0 0) 1 false := ⟨Tryz.zeroValue22, Tryz.sizeOf22, Tryz.isAgg22⟩
instance : TD 22 (Go.TypeDesc.slice 3) := ⟨Tryz.underlying22⟩
instance : TB 22 Tryz.t22 (Go.Value.slice Option.none 0 0) 1 24 := ⟨by kernel_rfl, rfl, rfl, rfl⟩
instance : TI 24 (Go.Value.pointer Option.none) 1 false := ⟨Tryz.zeroValue24, Tryz.sizeOf24, Tryz.isAgg24⟩
instance : TD 24 (Go.TypeDesc.pointer 165) := ⟨Tryz.underlying24⟩
instance : TB 24 Tryz.t24 (Go.Value.pointer Option.none) 1 8 := ⟨by kernel_rfl, rfl, rfl, rfl⟩
instance : TI 26 (Go.Value.int Go.IntKind.i64 0) 1 false := ⟨Tryz.zeroValue26, Tryz.sizeOf26, Tryz.isAgg26⟩
instance : TD 26 (Go.TypeDesc.int Go.IntKind.i64) := ⟨Tryz.underlying26⟩
instance : TB 26 Tryz.t26 (Go.Value.int Go.IntKind.i64 0) 1 8 := ⟨by kernel_rfl, rfl, rfl, rfl⟩
instance : TI 31 (Go.Value.pointer Option.none) 1 false := ⟨Tryz.zeroValue31, Tryz.sizeOf31, Tryz.isAgg31⟩
instance : TD 31 (Go.TypeDesc.pointer 44) := ⟨Tryz.underlying31⟩
instance : TB 31 Tryz.t31 (Go.Value.pointer Option.none) 1 8 := ⟨by kernel_rfl, rfl, rfl, rfl⟩
instance : TI 34 (Go.Value.map Option.none) 1 false := ⟨Tryz.zeroValue34, Tryz.sizeOf34, Tryz.isAgg34⟩
instance : TD 34 (Go.TypeDesc.map 35 9) := ⟨Tryz.underlying34⟩
instance : TB 34 Tryz.t34 (Go.Value.map Option.none) 1 8 := ⟨by kernel_rfl, rfl, rfl, rfl⟩
instance : TI 35 (Go.Value.int Go.IntKind.u64 0) 1 false := ⟨Tryz.zeroValue35, Tryz.sizeOf35, Tryz.isAgg35⟩
instance : TD 35 (Go.TypeDesc.int Go.IntKind.u64) := ⟨Tryz.underlying35⟩
instance : TB 35 Tryz.t35 (Go.Value.int Go.IntKind.u64 0) 1 8 := ⟨by kernel_rfl, rfl, rfl, rfl⟩
instance : TI 39 (Go.Value.pointer Option.none) 1 false := ⟨Tryz.zeroValue39, Tryz.sizeOf39, Tryz.isAgg39⟩
instance : TD 39 (Go.TypeDesc.pointer 183) := ⟨Tryz.underlying39⟩
instance : TB 39 Tryz.t39 (Go.Value.pointer Option.none) 1 8 := ⟨by kernel_rfl, rfl, rfl, rfl⟩
instance : TI 40 (Go.Value.pointer Option.none) 1 false := ⟨Tryz.zeroValue40, Tryz.sizeOf40, Tryz.isAgg40⟩
instance : TD 40 (Go.TypeDesc.pointer 238) := ⟨Tryz.underlying40⟩
instance : TB 40 Tryz.t40 (Go.Value.pointer Option.none) 1 8 := ⟨by kernel_rfl, rfl, rfl, rfl⟩
instance : TI 41 (Go.Value.pointer Option.none) 1 false := ⟨Tryz.zeroValue41, Tryz.sizeOf41, Tryz.isAgg41⟩
instance : TD 41 (Go.TypeDesc.pointer 153) := ⟨Tryz.underlying41⟩
instance : TB 41 Tryz.t41 (Go.Value.pointer Option.none) 1 8 := ⟨by kernel_rfl, rfl, rfl, rfl⟩
instance : TI 42 (Go.Value.pointer Option.none) 1 false := ⟨Tryz.zeroValue42, Tryz.sizeOf42, Tryz.isAgg42⟩
instance : TD 42 (Go.TypeDesc.pointer 192) := ⟨Tryz.underlying42⟩
instance : TB 42 Tryz.t42 (Go.Value.pointer Option.none) 1 8 := ⟨by kernel_rfl, rfl, rfl, rfl⟩
instance : TI 43 (Go.Value.agg #[Go.Value.pointer Option.none, Go.Value.pointer Option.none, Go.Value.pointer Option.none, Go.Value.pointer Option.none, Go.Value.int Go.IntKind.i64 0]) 5 true := ⟨Tryz.zeroValue43, Tryz.sizeOf43, Tryz.isAgg43⟩
instance : TF 43 0 0 := mkTF Tryz.underlying43 rfl Tryz.sizeOf39 (by decide)
instance : TF 43 1 1 := mkTF Tryz.underlying43 rfl Tryz.sizeOf40 (by decide)
instance : TF 43 2 2 := mkTF Tryz.underlying43 rfl Tryz.sizeOf41 (by decide)
instance : TF 43 3 3 := mkTF Tryz.underlying43 rfl Tryz.sizeOf42 (by decide)
instance : TF 43 4 4 := mkTF Tryz.underlying43 rfl Tryz.sizeOf3 (by decide)
instance : TB 43 Tryz.t43 (Go.Value.agg #[Go.Value.pointer Option.none, Go.Value.pointer Option.none, Go.Value.pointer Option.none, Go.Value.pointer Option.none, Go.Value.int Go.IntKind.i64 0]) 5 40 := ⟨by kernel_rfl, rfl, rfl, rfl⟩
instance : TI 44 (Go.Value.agg #[Go.Value.pointer Option.none, Go.Value.pointer Option.none, Go.Value.pointer Option.none, Go.Value.pointer Option.none, Go.Value.int Go.IntKind.i64 0]) 5 true := ⟨Tryz.zeroValue44, Tryz.sizeOf44, Tryz.isAgg44⟩
instance : TF 44 0 0 := mkTF Tryz.underlying44 rfl Tryz.sizeOf39 (by decide)
instance : TF 44 1 1 := mkTF Tryz.underlying44 rfl Tryz.sizeOf40 (by decide)
instance : TF 44 2 2 := mkTF Tryz.underlying44 rfl Tryz.sizeOf41 (by decide)
instance : TF 44 3 3 := mkTF Tryz.underlying44 rfl Tryz.sizeOf42 (by decide)
instance : TF 44 4 4 := mkTF Tryz.underlying44 rfl Tryz.sizeOf3 (by decide)
instance : TB 44 Tryz.t44 (Go.Value.agg #[Go.Value.pointer Option.none, Go.Value.pointer Option.none, Go.Value.pointer Option.none, Go.Value.pointer Option.none, Go.Value.int Go.IntKind.i64 0]) 5 40 := ⟨by kernel_rfl, rfl, rfl, rfl⟩
instance : TI 48 (Go.Value.slice Option.none 0 0) 1 false := ⟨Tryz.zeroValue48, Tryz.sizeOf48, Tryz.isAgg48⟩
instance : TD 48 (Go.TypeDesc.slice 55) := ⟨Tryz.underlying48⟩
instance : TB 48 Tryz.t48 (Go.Value.slice Option.none 0 0) 1 24 := ⟨by kernel_rfl, rfl, rfl, rfl⟩
instance : TI 54 (Go.Value.agg #[Go.Value.int Go.IntKind.u64 0, Go.Value.string { data := #[] }]) 2 true := ⟨Tryz.zeroValue54, Tryz.sizeOf54, Tryz.isAgg54⟩
instance : TF 54 0 0 := mkTF Tryz.underlying54 rfl Tryz.sizeOf35 (by decide)
instance : TF 54 1 1 := mkTF Tryz.underlying54 rfl Tryz.sizeOf9 (by decide)
instance : TB 54 Tryz.t54 (Go.Value.agg #[Go.Value.int Go.IntKind.u64 0, Go.Value.string { data := #[] }]) 2 24 := ⟨by kernel_rfl, rfl, rfl, rfl⟩
instance : TI 55 (Go.Value.agg #[Go.Value.int Go.IntKind.u64 0, Go.Value.string { data := #[] }]) 2 true := ⟨Tryz.zeroValue55, Tryz.sizeOf55, Tryz.isAgg55⟩
instance : TF 55 0 0 := mkTF Tryz.underlying55 rfl Tryz.sizeOf35 (by decide)
instance : TF 55 1 1 := mkTF Tryz.underlying55 rfl Tryz.sizeOf9 (by decide)
instance : TB 55 Tryz.t55 (Go.Value.agg #[Go.Value.int Go.IntKind.u64 0, Go.Value.string { data := #[] }]) 2 24 := ⟨by kernel_rfl, rfl, rfl, rfl⟩
instance : TI 59 (Go.Value.int Go.IntKind.u32 0) 1 false := ⟨Tryz.zeroValue59, Tryz.sizeOf59, Tryz.isAgg59⟩
instance : TD 59 (Go.TypeDesc.int Go.IntKind.u32) := ⟨Tryz.underlying59⟩
instance : TB 59 Tryz.t59 (Go.Value.int Go.IntKind.u32 0) 1 4 := ⟨by kernel_rfl, rfl, rfl, rfl⟩
instance : TI 60 (Go.Value.agg #[Go.Value.int Go.IntKind.i64 0, Go.Value.int Go.IntKind.i64 0, Go.Value.int Go.IntKind.i64 0, Go.Value.int Go.IntKind.u64 0]) 4 true := ⟨Tryz.zeroValue60, Tryz.sizeOf60, Tryz.isAgg60⟩
instance : TF 60 0 0 := mkTF Tryz.underlying60 rfl Tryz.sizeOf3 (by decide)
instance : TF 60 1 1 := mkTF Tryz.underlying60 rfl Tryz.sizeOf3 (by decide)
instance : TF 60 2 2 := mkTF Tryz.underlying60 rfl Tryz.sizeOf3 (by decide)
instance : TF 60 3 3 := mkTF Tryz.underlying60 rfl Tryz.sizeOf35 (by decide)
instance : TB 60 Tryz.t60 (Go.Value.agg #[Go.Value.int Go.IntKind.i64 0, Go.Value.int Go.IntKind.i64 0, Go.Value.int Go.IntKind.i64 0, Go.Value.int Go.IntKind.u64 0]) 4 32 := ⟨by kernel_rfl, rfl, rfl, rfl⟩
instance : TI 61 (Go.Value.agg #[Go.Value.int Go.IntKind.i64 0, Go.Value.int Go.IntKind.i64 0, Go.Value.int Go.IntKind.i64 0, Go.Value.int Go.IntKind.u64 0]) 4 true := ⟨Tryz.zeroValue61, Tryz.sizeOf61, Tryz.isAgg61⟩
instance : TF 61 0 0 := mkTF Tryz.underlying61 rfl Tryz.sizeOf3 (by decide)
instance : TF 61 1 1 := mkTF Tryz.underlying61 rfl Tryz.sizeOf3 (by decide)
instance : TF 61 2 2 := mkTF Tryz.underlying61 rfl Tryz.sizeOf3 (by decide)
instance : TF 61 3 3 := mkTF Tryz.underlying61 rfl Tryz.sizeOf35 (by decide)
instance : TB 61 Tryz.t61 (Go.Value.agg #[Go.Value.int Go.IntKind.i64 0, Go.Value.int Go.IntKind.i64 0, Go.Value.int Go.IntKind.i64 0, Go.Value.int Go.IntKind.u64 0]) 4 32 := ⟨by kernel_rfl, rfl, rfl, rfl⟩
instance : TI 67 (Go.Value.slice Option.none 0 0) 1 false := ⟨Tryz.zeroValue67, Tryz.sizeOf67, Tryz.isAgg67⟩
instance : TD 67 (Go.TypeDesc.slice 5) := ⟨Tryz.underlying67⟩
instance : TB 67 Tryz.t67 (Go.Value.slice Option.none 0 0) 1 24 := ⟨by kernel_rfl, rfl, rfl, rfl⟩
instance : TI 68 (Go.Value.agg #[Go.Value.int Go.IntKind.i64 0, Go.Value.int Go.IntKind.i64 0, Go.Value.int Go.IntKind.i64 0, Go.Value.int Go.IntKind.i64 0, Go.Value.int Go.IntKind.i64 0, Go.Value.int Go.IntKind.i64 0, Go.Value.int Go.IntKind.i64 0, Go.Value.int Go.IntKind.i64 0, Go.Value.int Go.IntKind.i64 0, Go.Value.int Go.IntKind.i64 0, Go.Value.int Go.IntKind.i64 0, Go.Value.int Go.IntKind.i64 0, Go.Value.int Go.IntKind.i64 0, Go.Value.int Go.IntKind.i64 0, Go.Value.int Go.IntKind.i64 0, Go.Value.int Go.IntKind.i64 0, Go.Value.int Go.IntKind.i64 0, Go.Value.int Go.IntKind.i64 0, Go.Value.int Go.IntKind.i64 0, Go.Value.int Go.IntKind.i64 0, Go.Value.int Go.IntKind.i64 0, Go.Value.int Go.IntKind.i64 0, Go.Value.int Go.IntKind.i64 0, Go.Value.int Go.IntKind.i64 0, Go.Value.int Go.IntKind.i64 0, Go.Value.int Go.IntKind.i64 0, Go.Value.int Go.IntKind.i64 0, Go.Value.int Go.IntKind.i64 0, Go.Value.int Go.IntKind.i64 0, Go.Value.int Go.IntKind.i64 0, Go.Value.int Go.IntKind.i64 0, Go.Value.int Go.IntKind.i64 0, Go.Value.int Go.IntKind.i64 0, Go.Value.int Go.IntKind.i64 0, Go.Value.int Go.IntKind.i64 0, Go.Value.int Go.IntKind.i64 0, Go.Value.int Go.IntKind.i64 0, Go.Value.int Go.IntKind.i64 0, Go.Value.int Go.IntKind.i64 0, Go.Value.int Go.IntKind.i64 0, Go.Value.int Go.IntKind.i64 0, Go.Value.int Go.IntKind.i64 0, Go.Value.int Go.IntKind.i64 0, Go.Value.int Go.IntKind.i64 0, Go.Value.int Go.IntKind.i64 0, Go.Value.int Go.IntKind.i64 0, Go.Value.int Go.IntKind.i64 0, Go.Value.int Go.IntKind.i64 0, Go.Value.int Go.IntKind.i64 0, Go.Value.int Go.IntKind.i64 0, Go.Value.int Go.IntKind.i64 0, Go.Value.int Go.IntKind.i64 0, Go.Value.int Go.IntKind.i64 0, Go.Value.int Go.IntKind.i64 0, Go.Value.int Go.IntKind.i64 0, Go.Value.int Go.IntKind.i64 0, Go.Value.int Go.IntKind.i64 0, Go.Value.int Go.IntKind.i64 0, Go.Value.int Go.IntKind.i64 0, Go.Value.int Go.IntKind.i64 0]) 60 true := ⟨Tryz.zeroValue68, Tryz.sizeOf68, Tryz.isAgg68⟩
instance : TD 68 (Go.TypeDesc.array 60 3) := ⟨Tryz.underlying68⟩
instance : TB 68 Tryz.t68 (Go.Value.agg #[Go.Value.int Go.IntKind.i64 0, Go.Value.int Go.IntKind.i64 0, Go.Value.int Go.IntKind.i64 0, Go.Value.int Go.IntKind.i64 0, Go.Value.int Go.IntKind.i64 0, Go.Value.int Go.IntKind.i64 0, Go.Value.int Go.IntKind.i64 0, Go.Value.int Go.IntKind.i64 0, Go.Value.int Go.IntKind.i64 0, Go.Value.int Go.IntKind.i64 0, Go.Value.int Go.IntKind.i64 0, Go.Value.int Go.IntKind.i64 0, Go.Value.int Go.IntKind.i64 0, Go.Value.int Go.IntKind.i64 0, Go.Value.int Go.IntKind.i64 0, Go.Value.int Go.IntKind.i64 0, Go.Value.int Go.IntKind.i64 0, Go.Value.int Go.IntKind.i64 0, Go.Value.int Go.IntKind.i64 0, Go.Value.int Go.IntKind.i64 0, Go.Value.int Go.IntKind.i64 0, Go.Value.int Go.IntKind.i64 0, Go.Value.int Go.IntKind.i64 0, Go.Value.int Go.IntKind.i64 0, Go.Value.int Go.IntKind.i64 0, Go.Value.int Go.IntKind.i64 0, Go.Value.int Go.IntKind.i64 0, Go.Value.int Go.IntKind.i64 0, Go.Value.int Go.IntKind.i64 0, Go.Value.int Go.IntKind.i64 0, Go.Value.int Go.IntKind.i64 0, Go.Value.int Go.IntKind.i64 0, Go.Value.int Go.IntKind.i64 0, Go.Value.int Go.IntKind.i64 0, Go.Value.int Go.IntKind.i64 0, Go.Value.int Go.IntKind.i64 0, Go.Value.int Go.IntKind.i64 0, Go.Value.int Go.IntKind.i64 0, Go.Value.int Go.IntKind.i64 0, Go.Value.int Go.IntKind.i64 0, Go.Value.int Go.IntKind.i64 0, Go.Value.int Go.IntKind.i64 0, Go.Value.int Go.IntKind.i64 0, Go.Value.int Go.IntKind.i64 0, Go.Value.int Go.IntKind.i64 0, Go.Value.int Go.IntKind.i64 0, Go.Value.int Go.IntKind.i64 0, Go.Value.int Go.IntKind.i64 0, Go.Value.int Go.IntKind.i64 0, Go.Value.int Go.IntKind.i64 0, Go.Value.int Go.IntKind.i64 0, Go.Value.int Go.IntKind.i64 0, Go.Value.int Go.IntKind.i64 0, Go.Value.int Go.IntKind.i64 0, Go.Value.int Go.IntKind.i64 0, Go.Value.int Go.IntKind.i64 0, Go.Value.int Go.IntKind.i64 0, Go.Value.int Go.IntKind.i64 0, Go.Value.int Go.IntKind.i64 0, Go.Value.int Go.IntKind.i64 0]) 60 480 := ⟨by kernel_rfl, rfl, rfl, rfl⟩
instance : TI 70 (Go.Value.map Option.none) 1 false := ⟨Tryz.zeroValue70, Tryz.sizeOf70, Tryz.isAgg70⟩
instance : TD 70 (Go.TypeDesc.map 5 3) := ⟨Tryz.underlying70⟩
instance : TB 70 Tryz.t70 (Go.Value.map Option.none) 1 8 := ⟨by kernel_rfl, rfl, rfl, rfl⟩
instance : TI 74 (Go.Value.slice Option.none 0 0) 1 false := ⟨Tryz.zeroValue74, Tryz.sizeOf74, Tryz.isAgg74⟩
instance : TD 74 (Go.TypeDesc.slice 79) := ⟨Tryz.underlying74⟩
instance : TB 74 Tryz.t74 (Go.Value.slice Option.none 0 0) 1 24 := ⟨by kernel_rfl, rfl, rfl, rfl⟩
instance : TI 79 (Go.Value.int Go.IntKind.u16 0) 1 false := ⟨Tryz.zeroValue79, Tryz.sizeOf79, Tryz.isAgg79⟩
instance : TD 79 (Go.TypeDesc.int Go.IntKind.u16) := ⟨Tryz.underlying79⟩
instance : TB 79 Tryz.t79 (Go.Value.int Go.IntKind.u16 0) 1 2 := ⟨by kernel_rfl, rfl, rfl, rfl⟩
instance : TI 92 (Go.Value.map Option.none) 1 false := ⟨Tryz.zeroValue92, Tryz.sizeOf92, Tryz.isAgg92⟩
instance : TD 92 (Go.TypeDesc.map 35 4) := ⟨Tryz.underlying92⟩
instance : TB 92 Tryz.t92 (Go.Value.map Option.none) 1 8 := ⟨by kernel_rfl, rfl, rfl, rfl⟩
instance : TI 106 (Go.Value.pointer Option.none) 1 false := ⟨Tryz.zeroValue106, Tryz.sizeOf106, Tryz.isAgg106⟩
instance : TD 106 (Go.TypeDesc.pointer 108) := ⟨Tryz.underlying106⟩
instance : TB 106 Tryz.t106 (Go.Value.pointer Option.none) 1 8 := ⟨by kernel_rfl, rfl, rfl, rfl⟩
instance : TI 107 (Go.Value.agg #[Go.Value.pointer Option.none, Go.Value.int Go.IntKind.i64 0, Go.Value.int Go.IntKind.i64 0]) 3 true := ⟨Tryz.zeroValue107, Tryz.sizeOf107, Tryz.isAgg107⟩
instance : TF 107 0 0 := mkTF Tryz.underlying107 rfl Tryz.sizeOf41 (by decide)
instance : TF 107 1 1 := mkTF Tryz.underlying107 rfl Tryz.sizeOf3 (by decide)
instance : TF 107 2 2 := mkTF Tryz.underlying107 rfl Tryz.sizeOf26 (by decide)
instance : TB 107 Tryz.t107 (Go.Value.agg #[Go.Value.pointer Option.none, Go.Value.int Go.IntKind.i64 0, Go.Value.int Go.IntKind.i64 0]) 3 24 := ⟨by kernel_rfl, rfl, rfl, rfl⟩
instance : TI 108 (Go.Value.agg #[Go.Value.pointer Option.none, Go.Value.int Go.IntKind.i64 0, Go.Value.int Go.IntKind.i64 0]) 3 true := ⟨Tryz.zeroValue108, Tryz.sizeOf108, Tryz.isAgg108⟩
instance : TF 108 0 0 := mkTF Tryz.underlying108 rfl Tryz.sizeOf41 (by decide)
instance : TF 108 1 1 := mkTF Tryz.underlying108 rfl Tryz.sizeOf3 (by decide)
instance : TF 108 2 2 := mkTF Tryz.underlying108 rfl Tryz.sizeOf26 (by decide)
instance : TB 108 Tryz.t108 (Go.Value.agg #[Go.Value.pointer Option.none, Go.Value.int Go.IntKind.i64 0, Go.Value.int Go.IntKind.i64 0]) 3 24 := ⟨by kernel_rfl, rfl, rfl, rfl⟩
instance : TI 111 (Go.Value.slice Option.none 0 0) 1 false := ⟨Tryz.zeroValue111, Tryz.sizeOf111, Tryz.isAgg111⟩
instance : TD 111 (Go.TypeDesc.slice 35) := ⟨Tryz.underlying111⟩
instance : TB 111 Tryz.t111 (Go.Value.slice Option.none 0 0) 1 24 := ⟨by kernel_rfl, rfl, rfl, rfl⟩
instance : TI 112 (Go.Value.slice Option.none 0 0) 1 false := ⟨Tryz.zeroValue112, Tryz.sizeOf112, Tryz.isAgg112⟩
instance : TD 112 (Go.TypeDesc.slice 9) := ⟨Tryz.underlying112⟩
instance : TB 112 Tryz.t112 (Go.Value.slice Option.none 0 0) 1 24 := ⟨by kernel_rfl, rfl, rfl, rfl⟩
instance : TI 113 (Go.Value.agg #[Go.Value.bool Bool.false, Go.Value.slice Option.none 0 0, Go.Value.slice Option.none 0 0, Go.Value.slice Option.none 0 0]) 4 true := ⟨Tryz.zeroValue113, Tryz.sizeOf113, Tryz.isAgg113⟩
instance : TF 113 0 0 := mkTF Tryz.underlying113 rfl Tryz.sizeOf4 (by decide)
instance : TF 113 1 1 := mkTF Tryz.underlying113 rfl Tryz.sizeOf111 (by decide)
instance : TF 113 2 2 := mkTF Tryz.underlying113 rfl Tryz.sizeOf112 (by decide)
instance : TF 113 3 3 := mkTF Tryz.underlying113 rfl Tryz.sizeOf22 (by decide)
instance : TB 113 Tryz.t113 (Go.Value.agg #[Go.Value.bool Bool.false, Go.Value.slice Option.none 0 0, Go.Value.slice Option.none 0 0, Go.Value.slice Option.none 0 0]) 4 80 := ⟨by kernel_rfl, rfl, rfl, rfl⟩
instance : TI 114 (Go.Value.agg #[Go.Value.bool Bool.false, Go.Value.slice Option.none 0 0, Go.Value.slice Option.none 0 0, Go.Value.slice Option.none 0 0]) 4 true := ⟨Tryz.zeroValue114, Tryz.sizeOf114, Tryz.isAgg114⟩
instance : TF 114 0 0 := mkTF Tryz.underlying114 rfl Tryz.sizeOf4 (by decide)
instance : TF 114 1 1 := mkTF Tryz.underlying114 rfl Tryz.sizeOf111 (by decide)
instance : TF 114 2 2 := mkTF Tryz.underlying114 rfl Tryz.sizeOf112 (by decide)
instance : TF 114 3 3 := mkTF Tryz.underlying114 rfl Tryz.sizeOf22 (by decide)
instance : TB 114 Tryz.t114 (Go.Value.agg #[Go.Value.bool Bool.false, Go.Value.slice Option.none 0 0, Go.Value.slice Option.none 0 0, Go.Value.slice Option.none 0 0]) 4 80 := ⟨by kernel_rfl, rfl, rfl, rfl⟩
instance : TI 115 (Go.Value.pointer Option.none) 1 false := ⟨Tryz.zeroValue115, Tryz.sizeOf115, Tryz.isAgg115⟩
instance : TD 115 (Go.TypeDesc.pointer 129) := ⟨Tryz.underlying115⟩
instance : TB 115 Tryz.t115 (Go.Value.pointer Option.none) 1 8 := ⟨by kernel_rfl, rfl, rfl, rfl⟩
instance : TI 117 (Go.Value.agg #[Go.Value.int Go.IntKind.i64 0, Go.Value.bool Bool.false, Go.Value.slice Option.none 0 0, Go.Value.slice Option.none 0 0, Go.Value.slice Option.none 0 0, Go.Value.int Go.IntKind.i64 0]) 6 true := ⟨Tryz.zeroValue117, Tryz.sizeOf117, Tryz.isAgg117⟩
instance : TF 117 0 0 := mkTF Tryz.underlying117 rfl Tryz.sizeOf3 (by decide)
instance : TF 117 1 1 := mkTF Tryz.underlying117 rfl Tryz.sizeOf114 (by decide)
instance : TF 117 2 5 := mkTF Tryz.underlying117 rfl Tryz.sizeOf3 (by decide)
instance : TB 117 Tryz.t117 (Go.Value.agg #[Go.Value.int Go.IntKind.i64 0, Go.Value.bool Bool.false, Go.Value.slice Option.none 0 0, Go.Value.slice Option.none 0 0, Go.Value.slice Option.none 0 0, Go.Value.int Go.IntKind.i64 0]) 6 96 := ⟨by kernel_rfl, rfl, rfl, rfl⟩
instance : TI 118 (Go.Value.agg #[Go.Value.int Go.IntKind.i64 0, Go.Value.bool Bool.false, Go.Value.slice Option.none 0 0, Go.Value.slice Option.none 0 0, Go.Value.slice Option.none 0 0, Go.Value.int Go.IntKind.i64 0]) 6 true := ⟨Tryz.zeroValue118, Tryz.sizeOf118, Tryz.isAgg118⟩
instance : TF 118 0 0 := mkTF Tryz.underlying118 rfl Tryz.sizeOf3 (by decide)
instance : TF 118 1 1 := mkTF Tryz.underlying118 rfl Tryz.sizeOf114 (by decide)
instance : TF 118 2 5 := mkTF Tryz.underlying118 rfl Tryz.sizeOf3 (by decide)
instance : TB 118 Tryz.t118 (Go.Value.agg #[Go.Value.int Go.IntKind.i64 0, Go.Value.bool Bool.false, Go.Value.slice Option.none 0 0, Go.Value.slice Option.none 0 0, Go.Value.slice Option.none 0 0, Go.Value.int Go.IntKind.i64 0]) 6 96 := ⟨by kernel_rfl, rfl, rfl, rfl⟩
instance : TI 127 (Go.Value.slice Option.none 0 0) 1 false := ⟨Tryz.zeroValue127, Tryz.sizeOf127, Tryz.isAgg127⟩
instance : TD 127 (Go.TypeDesc.slice 118) := ⟨Tryz.underlying127⟩
instance : TB 127 Tryz.t127 (Go.Value.slice Option.none 0 0) 1 24 := ⟨by kernel_rfl, rfl, rfl, rfl⟩
instance : TI 128 (Go.Value.agg #[Go.Value.slice Option.none 0 0]) 1 true := ⟨Tryz.zeroValue128, Tryz.sizeOf128, Tryz.isAgg128⟩
instance : TF 128 0 0 := mkTF Tryz.underlying128 rfl Tryz.sizeOf127 (by decide)
instance : TB 128 Tryz.t128 (Go.Value.agg #[Go.Value.slice Option.none 0 0]) 1 24 := ⟨by kernel_rfl, rfl, rfl, rfl⟩
instance : TI 129 (Go.Value.agg #[Go.Value.slice Option.none 0 0]) 1 true := ⟨Tryz.zeroValue129, Tryz.sizeOf129, Tryz.isAgg129⟩
instance : TF 129 0 0 := mkTF Tryz.underlying129 rfl Tryz.sizeOf127 (by decide)
instance : TB 129 Tryz.t129 (Go.Value.agg #[Go.Value.slice Option.none 0 0]) 1 24 := ⟨by kernel_rfl, rfl, rfl, rfl⟩
instance : TI 135 (Go.Value.pointer Option.none) 1 false := ⟨Tryz.zeroValue135, Tryz.sizeOf135, Tryz.isAgg135⟩
instance : TD 135 (Go.TypeDesc.pointer 138) := ⟨Tryz.underlying135⟩
instance : TB 135 Tryz.t135 (Go.Value.pointer Option.none) 1 8 := ⟨by kernel_rfl, rfl, rfl, rfl⟩
instance : TI 136 (Go.Value.slice Option.none 0 0) 1 false := ⟨Tryz.zeroValue136, Tryz.sizeOf136, Tryz.isAgg136⟩
instance : TD 136 (Go.TypeDesc.slice 141) := ⟨Tryz.underlying136⟩
instance : TB 136 Tryz.t136 (Go.Value.slice Option.none 0 0) 1 24 := ⟨by kernel_rfl, rfl, rfl, rfl⟩
instance : TI 137 (Go.Value.agg #[Go.Value.slice Option.none 0 0]) 1 true := ⟨Tryz.zeroValue137, Tryz.sizeOf137, Tryz.isAgg137⟩
instance : TF 137 0 0 := mkTF Tryz.underlying137 rfl Tryz.sizeOf136 (by decide)
instance : TB 137 Tryz.t137 (Go.Value.agg #[Go.Value.slice Option.none 0 0]) 1 24 := ⟨by kernel_rfl, rfl, rfl, rfl⟩
instance : TI 138 (Go.Value.agg #[Go.Value.slice Option.none 0 0]) 1 true := ⟨Tryz.zeroValue138, Tryz.sizeOf138, Tryz.isAgg138⟩
instance : TF 138 0 0 := mkTF Tryz.underlying138 rfl Tryz.sizeOf136 (by decide)
instance : TB 138 Tryz.t138 (Go.Value.agg #[Go.Value.slice Option.none 0 0]) 1 24 := ⟨by kernel_rfl, rfl, rfl, rfl⟩
instance : TI 140 (Go.Value.agg #[Go.Value.int Go.IntKind.i64 0, Go.Value.int Go.IntKind.i64 0]) 2 true := ⟨Tryz.zeroValue140, Tryz.sizeOf140, Tryz.isAgg140⟩
instance : TF 140 0 0 := mkTF Tryz.underlying140 rfl Tryz.sizeOf3 (by decide)
instance : TF 140 1 1 := mkTF Tryz.underlying140 rfl Tryz.sizeOf3 (by decide)
instance : TB 140 Tryz.t140 (Go.Value.agg #[Go.Value.int Go.IntKind.i64 0, Go.Value.int Go.IntKind.i64 0]) 2 16 := ⟨by kernel_rfl, rfl, rfl, rfl⟩
instance : TI 141 (Go.Value.agg #[Go.Value.int Go.IntKind.i64 0, Go.Value.int Go.IntKind.i64 0]) 2 true := ⟨Tryz.zeroValue141, Tryz.sizeOf141, Tryz.isAgg141⟩
instance : TF 141 0 0 := mkTF Tryz.underlying141 rfl Tryz.sizeOf3 (by decide)
instance : TF 141 1 1 := mkTF Tryz.underlying141 rfl Tryz.sizeOf3 (by decide)
instance : TB 141 Tryz.t141 (Go.Value.agg #[Go.Value.int Go.IntKind.i64 0, Go.Value.int Go.IntKind.i64 0]) 2 16 := ⟨by kernel_rfl, rfl, rfl, rfl⟩
instance : TI 149 (Go.Value.agg #[Go.Value.int Go.IntKind.i64 0, Go.Value.int Go.IntKind.i64 0, Go.Value.string { data := #[] }]) 3 true := ⟨Tryz.zeroValue149, Tryz.sizeOf149, Tryz.isAgg149⟩
instance : TF 149 0 0 := mkTF Tryz.underlying149 rfl Tryz.sizeOf3 (by decide)
instance : TF 149 1 1 := mkTF Tryz.underlying149 rfl Tryz.sizeOf3 (by decide)
instance : TF 149 2 2 := mkTF Tryz.underlying149 rfl Tryz.sizeOf9 (by decide)
instance : TB 149 Tryz.t149 (Go.Value.agg #[Go.Value.int Go.IntKind.i64 0, Go.Value.int Go.IntKind.i64 0, Go.Value.string { data := #[] }]) 3 32 := ⟨by kernel_rfl, rfl, rfl, rfl⟩
instance : TI 150 (Go.Value.agg #[Go.Value.int Go.IntKind.i64 0, Go.Value.int Go.IntKind.i64 0, Go.Value.string { data := #[] }]) 3 true := ⟨Tryz.zeroValue150, Tryz.sizeOf150, Tryz.isAgg150⟩
instance : TF 150 0 0 := mkTF Tryz.underlying150 rfl Tryz.sizeOf3 (by decide)
instance : TF 150 1 1 := mkTF Tryz.underlying150 rfl Tryz.sizeOf3 (by decide)
instance : TF 150 2 2 := mkTF Tryz.underlying150 rfl Tryz.sizeOf9 (by decide)
instance : TB 150 Tryz.t150 (Go.Value.agg #[Go.Value.int Go.IntKind.i64 0, Go.Value.int Go.IntKind.i64 0, Go.Value.string { data := #[] }]) 3 32 := ⟨by kernel_rfl, rfl, rfl, rfl⟩
instance : TI 151 (Go.Value.map Option.none) 1 false := ⟨Tryz.zeroValue151, Tryz.sizeOf151, Tryz.isAgg151⟩
instance : TD 151 (Go.TypeDesc.map 3 4) := ⟨Tryz.underlying151⟩
instance : TB 151 Tryz.t151 (Go.Value.map Option.none) 1 8 := ⟨by kernel_rfl, rfl, rfl, rfl⟩
instance : TI 152 (Go.Value.agg #[Go.Value.pointer Option.none, Go.Value.int Go.IntKind.i64 0, Go.Value.int Go.IntKind.i64 0, Go.Value.string { data := #[] }, Go.Value.map Option.none, Go.Value.map Option.none, Go.Value.bool Bool.false]) 7 true := ⟨Tryz.zeroValue152, Tryz.sizeOf152, Tryz.isAgg152⟩
instance : TF 152 0 0 := mkTF Tryz.underlying152 rfl Tryz.sizeOf39 (by decide)
instance : TF 152 1 1 := mkTF Tryz.underlying152 rfl Tryz.sizeOf150 (by decide)
instance : TF 152 2 4 := mkTF Tryz.underlying152 rfl Tryz.sizeOf151 (by decide)
instance : TF 152 3 5 := mkTF Tryz.underlying152 rfl Tryz.sizeOf151 (by decide)
instance : TF 152 4 6 := mkTF Tryz.underlying152 rfl Tryz.sizeOf4 (by decide)
instance : TB 152 Tryz.t152 (Go.Value.agg #[Go.Value.pointer Option.none, Go.Value.int Go.IntKind.i64 0, Go.Value.int Go.IntKind.i64 0, Go.Value.string { data := #[] }, Go.Value.map Option.none, Go.Value.map Option.none, Go.Value.bool Bool.false]) 7 64 := ⟨by kernel_rfl, rfl, rfl, rfl⟩
instance : TI 153 (Go.Value.agg #[Go.Value.pointer Option.none, Go.Value.int Go.IntKind.i64 0, Go.Value.int Go.IntKind.i64 0, Go.Value.string { data := #[] }, Go.Value.map Option.none, Go.Value.map Option.none, Go.Value.bool Bool.false]) 7 true := ⟨Tryz.zeroValue153, Tryz.sizeOf153, Tryz.isAgg153⟩
instance : TF 153 0 0 := mkTF Tryz.underlying153 rfl Tryz.sizeOf39 (by decide)
instance : TF 153 1 1 := mkTF Tryz.underlying153 rfl Tryz.sizeOf150 (by decide)
instance : TF 153 2 4 := mkTF Tryz.underlying153 rfl Tryz.sizeOf151 (by decide)
instance : TF 153 3 5 := mkTF Tryz.underlying153 rfl Tryz.sizeOf151 (by decide)
instance : TF 153 4 6 := mkTF Tryz.underlying153 rfl Tryz.sizeOf4 (by decide)
instance : TB 153 Tryz.t153 (Go.Value.agg #[Go.Value.pointer Option.none, Go.Value.int Go.IntKind.i64 0, Go.Value.int Go.IntKind.i64 0, Go.Value.string { data := #[] }, Go.Value.map Option.none, Go.Value.map Option.none, Go.Value.bool Bool.false]) 7 64 := ⟨by kernel_rfl, rfl, rfl, rfl⟩
instance : TI 157 (Go.Value.slice Option.none 0 0) 1 false := ⟨Tryz.zeroValue157, Tryz.sizeOf157, Tryz.isAgg157⟩
instance : TD 157 (Go.TypeDesc.slice 61) := ⟨Tryz.underlying157⟩
instance : TB 157 Tryz.t157 (Go.Value.slice Option.none 0 0) 1 24 := ⟨by kernel_rfl, rfl, rfl, rfl⟩
instance : TI 160 (Go.Value.map Option.none) 1 false := ⟨Tryz.zeroValue160, Tryz.sizeOf160, Tryz.isAgg160⟩
instance : TD 160 (Go.TypeDesc.map 3 61) := ⟨Tryz.underlying160⟩
instance : TB 160 Tryz.t160 (Go.Value.map Option.none) 1 8 := ⟨by kernel_rfl, rfl, rfl, rfl⟩
instance : TI 164 (Go.Value.agg #[Go.Value.pointer Option.none, Go.Value.int Go.IntKind.i64 0, Go.Value.int Go.IntKind.i64 0, Go.Value.bool Bool.false]) 4 true := ⟨Tryz.zeroValue164, Tryz.sizeOf164, Tryz.isAgg164⟩
instance : TF 164 0 0 := mkTF Tryz.underlying164 rfl Tryz.sizeOf41 (by decide)
instance : TF 164 1 1 := mkTF Tryz.underlying164 rfl Tryz.sizeOf3 (by decide)
instance : TF 164 2 2 := mkTF Tryz.underlying164 rfl Tryz.sizeOf26 (by decide)
instance : TF 164 3 3 := mkTF Tryz.underlying164 rfl Tryz.sizeOf4 (by decide)
instance : TB 164 Tryz.t164 (Go.Value.agg #[Go.Value.pointer Option.none, Go.Value.int Go.IntKind.i64 0, Go.Value.int Go.IntKind.i64 0, Go.Value.bool Bool.false]) 4 32 := ⟨by kernel_rfl, rfl, rfl, rfl⟩
instance : TI 165 (Go.Value.agg #[Go.Value.pointer Option.none, Go.Value.int Go.IntKind.i64 0, Go.Value.int Go.IntKind.i64 0, Go.Value.bool Bool.false]) 4 true := ⟨Tryz.zeroValue165, Tryz.sizeOf165, Tryz.isAgg165⟩
instance : TF 165 0 0 := mkTF Tryz.underlying165 rfl Tryz.sizeOf41 (by decide)
instance : TF 165 1 1 := mkTF Tryz.underlying165 rfl Tryz.sizeOf3 (by decide)
instance : TF 165 2 2 := mkTF Tryz.underlying165 rfl Tryz.sizeOf26 (by decide)
instance : TF 165 3 3 := mkTF Tryz.underlying165 rfl Tryz.sizeOf4 (by decide)
instance : TB 165 Tryz.t165 (Go.Value.agg #[Go.Value.pointer Option.none, Go.Value.int Go.IntKind.i64 0, Go.Value.int Go.IntKind.i64 0, Go.Value.bool Bool.false]) 4 32 := ⟨by kernel_rfl, rfl, rfl, rfl⟩
instance : TI 181 (Go.Value.map Option.none) 1 false := ⟨Tryz.zeroValue181, Tryz.sizeOf181, Tryz.isAgg181⟩
instance : TD 181 (Go.TypeDesc.map 3 9) := ⟨Tryz.underlying181⟩
instance : TB 181 Tryz.t181 (Go.Value.map Option.none) 1 8 := ⟨by kernel_rfl, rfl, rfl, rfl⟩
instance : TI 182 (Go.Value.agg #[Go.Value.slice Option.none 0 0, Go.Value.map Option.none, Go.Value.slice Option.none 0 0, Go.Value.int Go.IntKind.i64 0, Go.Value.bool Bool.false]) 5 true := ⟨Tryz.zeroValue182, Tryz.sizeOf182, Tryz.isAgg182⟩
instance : TF 182 0 0 := mkTF Tryz.underlying182 rfl Tryz.sizeOf112 (by decide)
instance : TF 182 1 1 := mkTF Tryz.underlying182 rfl Tryz.sizeOf181 (by decide)
instance : TF 182 2 2 := mkTF Tryz.underlying182 rfl Tryz.sizeOf22 (by decide)
instance : TF 182 3 3 := mkTF Tryz.underlying182 rfl Tryz.sizeOf3 (by decide)
instance : TF 182 4 4 := mkTF Tryz.underlying182 rfl Tryz.sizeOf4 (by decide)
instance : TB 182 Tryz.t182 (Go.Value.agg #[Go.Value.slice Option.none 0 0, Go.Value.map Option.none, Go.Value.slice Option.none 0 0, Go.Value.int Go.IntKind.i64 0, Go.Value.bool Bool.false]) 5 72 := ⟨by kernel_rfl, rfl, rfl, rfl⟩
instance : TI 183 (Go.Value.agg #[Go.Value.slice Option.none 0 0, Go.Value.map Option.none, Go.Value.slice Option.none 0 0, Go.Value.int Go.IntKind.i64 0, Go.Value.bool Bool.false]) 5 true := ⟨Tryz.zeroValue183, Tryz.sizeOf183, Tryz.isAgg183⟩
instance : TF 183 0 0 := mkTF Tryz.underlying183 rfl Tryz.sizeOf112 (by decide)
instance : TF 183 1 1 := mkTF Tryz.underlying183 rfl Tryz.sizeOf181 (by decide)
instance : TF 183 2 2 := mkTF Tryz.underlying183 rfl Tryz.sizeOf22 (by decide)
instance : TF 183 3 3 := mkTF Tryz.underlying183 rfl Tryz.sizeOf3 (by decide)
instance : TF 183 4 4 := mkTF Tryz.underlying183 rfl Tryz.sizeOf4 (by decide)
instance : TB 183 Tryz.t183 (Go.Value.agg #[Go.Value.slice Option.none 0 0, Go.Value.map Option.none, Go.Value.slice Option.none 0 0, Go.Value.int Go.IntKind.i64 0, Go.Value.bool Bool.false]) 5 72 := ⟨by kernel_rfl, rfl, rfl, rfl⟩
instance : TI 184 (Go.Value.int Go.IntKind.u64 0) 1 false := ⟨Tryz.zeroValue184, Tryz.sizeOf184, Tryz.isAgg184⟩
instance : TD 184 (Go.TypeDesc.int Go.IntKind.u64) := ⟨Tryz.underlying184⟩
instance : TB 184 Tryz.t184 (Go.Value.int Go.IntKind.u64 0) 1 8 := ⟨by kernel_rfl, rfl, rfl, rfl⟩
instance : TI 191 (Go.Value.agg #[Go.Value.pointer Option.none, Go.Value.int Go.IntKind.i64 0, Go.Value.int Go.IntKind.i64 0, Go.Value.string { data := #[] }, Go.Value.string { data := #[] }, Go.Value.string { data := #[] }, Go.Value.bool Bool.false]) 7 true := ⟨Tryz.zeroValue191, Tryz.sizeOf191, Tryz.isAgg191⟩
instance : TF 191 0 0 := mkTF Tryz.underlying191 rfl Tryz.sizeOf40 (by decide)
instance : TF 191 1 1 := mkTF Tryz.underlying191 rfl Tryz.sizeOf3 (by decide)
instance : TF 191 2 2 := mkTF Tryz.underlying191 rfl Tryz.sizeOf3 (by decide)
instance : TF 191 3 3 := mkTF Tryz.underlying191 rfl Tryz.sizeOf9 (by decide)
instance : TF 191 4 4 := mkTF Tryz.underlying191 rfl Tryz.sizeOf9 (by decide)
instance : TF 191 5 5 := mkTF Tryz.underlying191 rfl Tryz.sizeOf9 (by decide)
instance : TF 191 6 6 := mkTF Tryz.underlying191 rfl Tryz.sizeOf4 (by decide)
instance : TB 191 Tryz.t191 (Go.Value.agg #[Go.Value.pointer Option.none, Go.Value.int Go.IntKind.i64 0, Go.Value.int Go.IntKind.i64 0, Go.Value.string { data := #[] }, Go.Value.string { data := #[] }, Go.Value.string { data := #[] }, Go.Value.bool Bool.false]) 7 80 := ⟨by kernel_rfl, rfl, rfl, rfl⟩
instance : TI 192 (Go.Value.agg #[Go.Value.pointer Option.none, Go.Value.int Go.IntKind.i64 0, Go.Value.int Go.IntKind.i64 0, Go.Value.string { data := #[] }, Go.Value.string { data := #[] }, Go.Value.string { data := #[] }, Go.Value.bool Bool.false]) 7 true := ⟨Tryz.zeroValue192, Tryz.sizeOf192, Tryz.isAgg192⟩
instance : TF 192 0 0 := mkTF Tryz.underlying192 rfl Tryz.sizeOf40 (by decide)
instance : TF 192 1 1 := mkTF Tryz.underlying192 rfl Tryz.sizeOf3 (by decide)
instance : TF 192 2 2 := mkTF Tryz.underlying192 rfl Tryz.sizeOf3 (by decide)
instance : TF 192 3 3 := mkTF Tryz.underlying192 rfl Tryz.sizeOf9 (by decide)
instance : TF 192 4 4 := mkTF Tryz.underlying192 rfl Tryz.sizeOf9 (by decide)
instance : TF 192 5 5 := mkTF Tryz.underlying192 rfl Tryz.sizeOf9 (by decide)
instance : TF 192 6 6 := mkTF Tryz.underlying192 rfl Tryz.sizeOf4 (by decide)
instance : TB 192 Tryz.t192 (Go.Value.agg #[Go.Value.pointer Option.none, Go.Value.int Go.IntKind.i64 0, Go.Value.int Go.IntKind.i64 0, Go.Value.string { data := #[] }, Go.Value.string { data := #[] }, Go.Value.string { data := #[] }, Go.Value.bool Bool.false]) 7 80 := ⟨by kernel_rfl, rfl, rfl, rfl⟩
instance : TI 211 (Go.Value.agg #[Go.Value.int Go.IntKind.i64 0, Go.Value.int Go.IntKind.i64 0, Go.Value.int Go.IntKind.i64 0, Go.Value.int Go.IntKind.u64 0, Go.Value.int Go.IntKind.i64 0]) 5 true := ⟨Tryz.zeroValue211, Tryz.sizeOf211, Tryz.isAgg211⟩
instance : TF 211 0 0 := mkTF Tryz.underlying211 rfl Tryz.sizeOf61 (by decide)
instance : TF 211 1 4 := mkTF Tryz.underlying211 rfl Tryz.sizeOf26 (by decide)
instance : TB 211 Tryz.t211 (Go.Value.agg #[Go.Value.int Go.IntKind.i64 0, Go.Value.int Go.IntKind.i64 0, Go.Value.int Go.IntKind.i64 0, Go.Value.int Go.IntKind.u64 0, Go.Value.int Go.IntKind.i64 0]) 5 40 := ⟨by kernel_rfl, rfl, rfl, rfl⟩
instance : TI 212 (Go.Value.agg #[Go.Value.int Go.IntKind.i64 0, Go.Value.int Go.IntKind.i64 0, Go.Value.int Go.IntKind.i64 0, Go.Value.int Go.IntKind.u64 0, Go.Value.int Go.IntKind.i64 0]) 5 true := ⟨Tryz.zeroValue212, Tryz.sizeOf212, Tryz.isAgg212⟩
instance : TF 212 0 0 := mkTF Tryz.underlying212 rfl Tryz.sizeOf61 (by decide)
instance : TF 212 1 4 := mkTF Tryz.underlying212 rfl Tryz.sizeOf26 (by decide)
instance : TB 212 Tryz.t212 (Go.Value.agg #[Go.Value.int Go.IntKind.i64 0, Go.Value.int Go.IntKind.i64 0, Go.Value.int Go.IntKind.i64 0, Go.Value.int Go.IntKind.u64 0, Go.Value.int Go.IntKind.i64 0]) 5 40 := ⟨by kernel_rfl, rfl, rfl, rfl⟩
instance : TI 214 (Go.Value.pointer Option.none) 1 false := ⟨Tryz.zeroValue214, Tryz.sizeOf214, Tryz.isAgg214⟩
instance : TD 214 (Go.TypeDesc.pointer 216) := ⟨Tryz.underlying214⟩
instance : TB 214 Tryz.t214 (Go.Value.pointer Option.none) 1 8 := ⟨by kernel_rfl, rfl, rfl, rfl⟩
instance : TI 215 (Go.Value.agg #[Go.Value.string { data := #[] }, Go.Value.bool Bool.false]) 2 true := ⟨Tryz.zeroValue215, Tryz.sizeOf215, Tryz.isAgg215⟩
instance : TF 215 0 0 := mkTF Tryz.underlying215 rfl Tryz.sizeOf9 (by decide)
instance : TF 215 1 1 := mkTF Tryz.underlying215 rfl Tryz.sizeOf4 (by decide)
instance : TB 215 Tryz.t215 (Go.Value.agg #[Go.Value.string { data := #[] }, Go.Value.bool Bool.false]) 2 24 := ⟨by kernel_rfl, rfl, rfl, rfl⟩
instance : TI 216 (Go.Value.agg #[Go.Value.string { data := #[] }, Go.Value.bool Bool.false]) 2 true := ⟨Tryz.zeroValue216, Tryz.sizeOf216, Tryz.isAgg216⟩
instance : TF 216 0 0 := mkTF Tryz.underlying216 rfl Tryz.sizeOf9 (by decide)
instance : TF 216 1 1 := mkTF Tryz.underlying216 rfl Tryz.sizeOf4 (by decide)
instance : TB 216 Tryz.t216 (Go.Value.agg #[Go.Value.string { data := #[] }, Go.Value.bool Bool.false]) 2 24 := ⟨by kernel_rfl, rfl, rfl, rfl⟩
instance : TI 219 (Go.Value.agg #[Go.Value.int Go.IntKind.i64 0, Go.Value.int Go.IntKind.i64 0, Go.Value.int Go.IntKind.i64 0, Go.Value.int Go.IntKind.u64 0]) 4 true := ⟨Tryz.zeroValue219, Tryz.sizeOf219, Tryz.isAgg219⟩
instance : TF 219 0 0 := mkTF Tryz.underlying219 rfl Tryz.sizeOf61 (by decide)
instance : TB 219 Tryz.t219 (Go.Value.agg #[Go.Value.int Go.IntKind.i64 0, Go.Value.int Go.IntKind.i64 0, Go.Value.int Go.IntKind.i64 0, Go.Value.int Go.IntKind.u64 0]) 4 32 := ⟨by kernel_rfl, rfl, rfl, rfl⟩
instance : TI 220 (Go.Value.agg #[Go.Value.int Go.IntKind.i64 0, Go.Value.int Go.IntKind.i64 0, Go.Value.int Go.IntKind.i64 0, Go.Value.int Go.IntKind.u64 0]) 4 true := ⟨Tryz.zeroValue220, Tryz.sizeOf220, Tryz.isAgg220⟩
instance : TF 220 0 0 := mkTF Tryz.underlying220 rfl Tryz.sizeOf61 (by decide)
instance : TB 220 Tryz.t220 (Go.Value.agg #[Go.Value.int Go.IntKind.i64 0, Go.Value.int Go.IntKind.i64 0, Go.Value.int Go.IntKind.i64 0, Go.Value.int Go.IntKind.u64 0]) 4 32 := ⟨by kernel_rfl, rfl, rfl, rfl⟩
instance : TI 228 (Go.Value.pointer Option.none) 1 false := ⟨Tryz.zeroValue228, Tryz.sizeOf228, Tryz.isAgg228⟩
instance : TD 228 (Go.TypeDesc.pointer 230) := ⟨Tryz.underlying228⟩
instance : TB 228 Tryz.t228 (Go.Value.pointer Option.none) 1 8 := ⟨by kernel_rfl, rfl, rfl, rfl⟩
instance : TI 229 (Go.Value.agg #[Go.Value.pointer Option.none, Go.Value.slice Option.none 0 0]) 2 true := ⟨Tryz.zeroValue229, Tryz.sizeOf229, Tryz.isAgg229⟩
instance : TF 229 0 0 := mkTF Tryz.underlying229 rfl Tryz.sizeOf228 (by decide)
instance : TF 229 1 1 := mkTF Tryz.underlying229 rfl Tryz.sizeOf67 (by decide)
instance : TB 229 Tryz.t229 (Go.Value.agg #[Go.Value.pointer Option.none, Go.Value.slice Option.none 0 0]) 2 32 := ⟨by kernel_rfl, rfl, rfl, rfl⟩
instance : TI 230 (Go.Value.agg #[Go.Value.pointer Option.none, Go.Value.slice Option.none 0 0]) 2 true := ⟨Tryz.zeroValue230, Tryz.sizeOf230, Tryz.isAgg230⟩
instance : TF 230 0 0 := mkTF Tryz.underlying230 rfl Tryz.sizeOf228 (by decide)
instance : TF 230 1 1 := mkTF Tryz.underlying230 rfl Tryz.sizeOf67 (by decide)
instance : TB 230 Tryz.t230 (Go.Value.agg #[Go.Value.pointer Option.none, Go.Value.slice Option.none 0 0]) 2 32 := ⟨by kernel_rfl, rfl, rfl, rfl⟩
instance : TI 232 Go.Value.nilIface 1 false := ⟨Tryz.zeroValue232, Tryz.sizeOf232, Tryz.isAgg232⟩
instance : TD 232 (Go.TypeDesc.interface #[("Error", 190)]) := ⟨Tryz.underlying232⟩
instance : TB 232 Tryz.t232 Go.Value.nilIface 1 16 := ⟨by kernel_rfl, rfl, rfl, rfl⟩
instance : TI 233 Go.Value.nilIface 1 false := ⟨Tryz.zeroValue233, Tryz.sizeOf233, Tryz.isAgg233⟩
instance : TD 233 (Go.TypeDesc.interface #[("Error", 190)]) := ⟨Tryz.underlying233⟩
instance : TB 233 Tryz.t233 Go.Value.nilIface 1 16 := ⟨by kernel_rfl, rfl, rfl, rfl⟩
instance : TI 236 (Go.Value.slice Option.none 0 0) 1 false := ⟨Tryz.zeroValue236, Tryz.sizeOf236, Tryz.isAgg236⟩
instance : TD 236 (Go.TypeDesc.slice 274) := ⟨Tryz.underlying236⟩
instance : TB 236 Tryz.t236 (Go.Value.slice Option.none 0 0) 1 24 := ⟨by kernel_rfl, rfl, rfl, rfl⟩
instance : TI 237 (Go.Value.agg #[Go.Value.slice Option.none 0 0, Go.Value.slice Option.none 0 0, Go.Value.int Go.IntKind.i64 0, Go.Value.bool Bool.false]) 4 true := ⟨Tryz.zeroValue237, Tryz.sizeOf237, Tryz.isAgg237⟩
instance : TF 237 0 0 := mkTF Tryz.underlying237 rfl Tryz.sizeOf112 (by decide)
instance : TF 237 1 1 := mkTF Tryz.underlying237 rfl Tryz.sizeOf236 (by decide)
instance : TF 237 2 2 := mkTF Tryz.underlying237 rfl Tryz.sizeOf3 (by decide)
instance : TF 237 3 3 := mkTF Tryz.underlying237 rfl Tryz.sizeOf4 (by decide)
instance : TB 237 Tryz.t237 (Go.Value.agg #[Go.Value.slice Option.none 0 0, Go.Value.slice Option.none 0 0, Go.Value.int Go.IntKind.i64 0, Go.Value.bool Bool.false]) 4 64 := ⟨by kernel_rfl, rfl, rfl, rfl⟩
instance : TI 238 (Go.Value.agg #[Go.Value.slice Option.none 0 0, Go.Value.slice Option.none 0 0, Go.Value.int Go.IntKind.i64 0, Go.Value.bool Bool.false]) 4 true := ⟨Tryz.zeroValue238, Tryz.sizeOf238, Tryz.isAgg238⟩
instance : TF 238 0 0 := mkTF Tryz.underlying238 rfl Tryz.sizeOf112 (by decide)
instance : TF 238 1 1 := mkTF Tryz.underlying238 rfl Tryz.sizeOf236 (by decide)
instance : TF 238 2 2 := mkTF Tryz.underlying238 rfl Tryz.sizeOf3 (by decide)
instance : TF 238 3 3 := mkTF Tryz.underlying238 rfl Tryz.sizeOf4 (by decide)
instance : TB 238 Tryz.t238 (Go.Value.agg #[Go.Value.slice Option.none 0 0, Go.Value.slice Option.none 0 0, Go.Value.int Go.IntKind.i64 0, Go.Value.bool Bool.false]) 4 64 := ⟨by kernel_rfl, rfl, rfl, rfl⟩
instance : TI 247 (Go.Value.pointer Option.none) 1 false := ⟨Tryz.zeroValue247, Tryz.sizeOf247, Tryz.isAgg247⟩
instance : TD 247 (Go.TypeDesc.pointer 249) := ⟨Tryz.underlying247⟩
instance : TB 247 Tryz.t247 (Go.Value.pointer Option.none) 1 8 := ⟨by kernel_rfl, rfl, rfl, rfl⟩
instance : TI 248 (Go.Value.agg #[Go.Value.string { data := #[] }, Go.Value.bool Bool.false]) 2 true := ⟨Tryz.zeroValue248, Tryz.sizeOf248, Tryz.isAgg248⟩
instance : TF 248 0 0 := mkTF Tryz.underlying248 rfl Tryz.sizeOf9 (by decide)
instance : TF 248 1 1 := mkTF Tryz.underlying248 rfl Tryz.sizeOf4 (by decide)
instance : TB 248 Tryz.t248 (Go.Value.agg #[Go.Value.string { data := #[] }, Go.Value.bool Bool.false]) 2 24 := ⟨by kernel_rfl, rfl, rfl, rfl⟩
instance : TI 249 (Go.Value.agg #[Go.Value.string { data := #[] }, Go.Value.bool Bool.false]) 2 true := ⟨Tryz.zeroValue249, Tryz.sizeOf249, Tryz.isAgg249⟩
instance : TF 249 0 0 := mkTF Tryz.underlying249 rfl Tryz.sizeOf9 (by decide)
instance : TF 249 1 1 := mkTF Tryz.underlying249 rfl Tryz.sizeOf4 (by decide)
instance : TB 249 Tryz.t249 (Go.Value.agg #[Go.Value.string { data := #[] }, Go.Value.bool Bool.false]) 2 24 := ⟨by kernel_rfl, rfl, rfl, rfl⟩
instance : TI 257 Go.Value.nilIface 1 false := ⟨Tryz.zeroValue257, Tryz.sizeOf257, Tryz.isAgg257⟩
instance : TD 257 (Go.TypeDesc.interface #[("bailiwick/rec.right", 23)]) := ⟨Tryz.underlying257⟩
instance : TB 257 Tryz.t257 Go.Value.nilIface 1 16 := ⟨by kernel_rfl, rfl, rfl, rfl⟩
instance : TI 258 Go.Value.nilIface 1 false := ⟨Tryz.zeroValue258, Tryz.sizeOf258, Tryz.isAgg258⟩
instance : TD 258 (Go.TypeDesc.interface #[("bailiwick/rec.right", 23)]) := ⟨Tryz.underlying258⟩
instance : TB 258 Tryz.t258 Go.Value.nilIface 1 16 := ⟨by kernel_rfl, rfl, rfl, rfl⟩
instance : TI 270 (Go.Value.pointer Option.none) 1 false := ⟨Tryz.zeroValue270, Tryz.sizeOf270, Tryz.isAgg270⟩
instance : TD 270 (Go.TypeDesc.pointer 5) := ⟨Tryz.underlying270⟩
instance : TB 270 Tryz.t270 (Go.Value.pointer Option.none) 1 8 := ⟨by kernel_rfl, rfl, rfl, rfl⟩
instance : TI 273 (Go.Value.agg #[Go.Value.int Go.IntKind.i64 0, Go.Value.string { data := #[] }]) 2 true := ⟨Tryz.zeroValue273, Tryz.sizeOf273, Tryz.isAgg273⟩
instance : TF 273 0 0 := mkTF Tryz.underlying273 rfl Tryz.sizeOf3 (by decide)
instance : TF 273 1 1 := mkTF Tryz.underlying273 rfl Tryz.sizeOf9 (by decide)
instance : TB 273 Tryz.t273 (Go.Value.agg #[Go.Value.int Go.IntKind.i64 0, Go.Value.string { data := #[] }]) 2 24 := ⟨by kernel_rfl, rfl, rfl, rfl⟩
instance : TI 274 (Go.Value.agg #[Go.Value.int Go.IntKind.i64 0, Go.Value.string { data := #[] }]) 2 true := ⟨Tryz.zeroValue274, Tryz.sizeOf274, Tryz.isAgg274⟩
instance : TF 274 0 0 := mkTF Tryz.underlying274 rfl Tryz.sizeOf3 (by decide)
instance : TF 274 1 1 := mkTF Tryz.underlying274 rfl Tryz.sizeOf9 (by decide)
instance : TB 274 Tryz.t274 (Go.Value.agg #[Go.Value.int Go.IntKind.i64 0, Go.Value.string { data := #[] }]) 2 24 := ⟨by kernel_rfl, rfl, rfl, rfl⟩
instance : TI 278 (Go.Value.slice Option.none 0 0) 1 false := ⟨Tryz.zeroValue278, Tryz.sizeOf278, Tryz.isAgg278⟩
instance : TD 278 (Go.TypeDesc.slice 111) := ⟨Tryz.underlying278⟩
instance : TB 278 Tryz.t278 (Go.Value.slice Option.none 0 0) 1 24 := ⟨by kernel_rfl, rfl, rfl, rfl⟩
instance : TI 280 (Go.Value.slice Option.none 0 0) 1 false := ⟨Tryz.zeroValue280, Tryz.sizeOf280, Tryz.isAgg280⟩
instance : TD 280 (Go.TypeDesc.slice 112) := ⟨Tryz.underlying280⟩
instance : TB 280 Tryz.t280 (Go.Value.slice Option.none 0 0) 1 24 := ⟨by kernel_rfl, rfl, rfl, rfl⟩
instance : TI 281 (Go.Value.slice Option.none 0 0) 1 false := ⟨Tryz.zeroValue281, Tryz.sizeOf281, Tryz.isAgg281⟩
instance : TD 281 (Go.TypeDesc.slice 22) := ⟨Tryz.underlying281⟩
instance : TB 281 Tryz.t281 (Go.Value.slice Option.none 0 0) 1 24 := ⟨by kernel_rfl, rfl, rfl, rfl⟩
instance : TI 285 (Go.Value.pointer Option.none) 1 false := ⟨Tryz.zeroValue285, Tryz.sizeOf285, Tryz.isAgg285⟩
instance : TD 285 (Go.TypeDesc.pointer 287) := ⟨Tryz.underlying285⟩
instance : TB 285 Tryz.t285 (Go.Value.pointer Option.none) 1 8 := ⟨by kernel_rfl, rfl, rfl, rfl⟩
instance : TI 286 (Go.Value.agg #[Go.Value.string { data := #[] }]) 1 true := ⟨Tryz.zeroValue286, Tryz.sizeOf286, Tryz.isAgg286⟩
instance : TF 286 0 0 := mkTF Tryz.underlying286 rfl Tryz.sizeOf9 (by decide)
instance : TB 286 Tryz.t286 (Go.Value.agg #[Go.Value.string { data := #[] }]) 1 16 := ⟨by kernel_rfl, rfl, rfl, rfl⟩
instance : TI 287 (Go.Value.agg #[Go.Value.string { data := #[] }]) 1 true := ⟨Tryz.zeroValue287, Tryz.sizeOf287, Tryz.isAgg287⟩
instance : TF 287 0 0 := mkTF Tryz.underlying287 rfl Tryz.sizeOf9 (by decide)
instance : TB 287 Tryz.t287 (Go.Value.agg #[Go.Value.string { data := #[] }]) 1 16 := ⟨by kernel_rfl, rfl, rfl, rfl⟩
instance : TI 288 (Go.Value.agg #[Go.Value.int Go.IntKind.i64 0, Go.Value.int Go.IntKind.i64 0, Go.Value.int Go.IntKind.i64 0, Go.Value.int Go.IntKind.i64 0, Go.Value.int Go.IntKind.i64 0, Go.Value.int Go.IntKind.i64 0, Go.Value.int Go.IntKind.i64 0, Go.Value.int Go.IntKind.i64 0, Go.Value.int Go.IntKind.i64 0, Go.Value.bool Bool.false]) 10 true := ⟨Tryz.zeroValue288, Tryz.sizeOf288, Tryz.isAgg288⟩
instance : TF 288 0 0 := mkTF Tryz.underlying288 rfl Tryz.sizeOf3 (by decide)
instance : TF 288 1 1 := mkTF Tryz.underlying288 rfl Tryz.sizeOf3 (by decide)
instance : TF 288 2 2 := mkTF Tryz.underlying288 rfl Tryz.sizeOf3 (by decide)
instance : TF 288 3 3 := mkTF Tryz.underlying288 rfl Tryz.sizeOf3 (by decide)
instance : TF 288 4 4 := mkTF Tryz.underlying288 rfl Tryz.sizeOf3 (by decide)
instance : TF 288 5 5 := mkTF Tryz.underlying288 rfl Tryz.sizeOf3 (by decide)
instance : TF 288 6 6 := mkTF Tryz.underlying288 rfl Tryz.sizeOf3 (by decide)
instance : TF 288 7 7 := mkTF Tryz.underlying288 rfl Tryz.sizeOf3 (by decide)
instance : TF 288 8 8 := mkTF Tryz.underlying288 rfl Tryz.sizeOf3 (by decide)
instance : TF 288 9 9 := mkTF Tryz.underlying288 rfl Tryz.sizeOf4 (by decide)
instance : TB 288 Tryz.t288 (Go.Value.agg #[Go.Value.int Go.IntKind.i64 0, Go.Value.int Go.IntKind.i64 0, Go.Value.int Go.IntKind.i64 0, Go.Value.int Go.IntKind.i64 0, Go.Value.int Go.IntKind.i64 0, Go.Value.int Go.IntKind.i64 0, Go.Value.int Go.IntKind.i64 0, Go.Value.int Go.IntKind.i64 0, Go.Value.int Go.IntKind.i64 0, Go.Value.bool Bool.false]) 10 80 := ⟨by kernel_rfl, rfl, rfl, rfl⟩
instance : TI 289 (Go.Value.agg #[Go.Value.int Go.IntKind.i64 0, Go.Value.int Go.IntKind.i64 0, Go.Value.int Go.IntKind.i64 0, Go.Value.int Go.IntKind.i64 0, Go.Value.int Go.IntKind.i64 0, Go.Value.int Go.IntKind.i64 0, Go.Value.int Go.IntKind.i64 0, Go.Value.int Go.IntKind.i64 0, Go.Value.int Go.IntKind.i64 0, Go.Value.bool Bool.false]) 10 true := ⟨Tryz.zeroValue289, Tryz.sizeOf289, Tryz.isAgg289⟩
instance : TF 289 0 0 := mkTF Tryz.underlying289 rfl Tryz.sizeOf3 (by decide)
instance : TF 289 1 1 := mkTF Tryz.underlying289 rfl Tryz.sizeOf3 (by decide)
instance : TF 289 2 2 := mkTF Tryz.underlying289 rfl Tryz.sizeOf3 (by decide)
instance : TF 289 3 3 := mkTF Tryz.underlying289 rfl Tryz.sizeOf3 (by decide)
instance : TF 289 4 4 := mkTF Tryz.underlying289 rfl Tryz.sizeOf3 (by decide)
instance : TF 289 5 5 := mkTF Tryz.underlying289 rfl Tryz.sizeOf3 (by decide)
instance : TF 289 6 6 := mkTF Tryz.underlying289 rfl Tryz.sizeOf3 (by decide)
instance : TF 289 7 7 := mkTF Tryz.underlying289 rfl Tryz.sizeOf3 (by decide)
instance : TF 289 8 8 := mkTF Tryz.underlying289 rfl Tryz.sizeOf3 (by decide)
instance : TF 289 9 9 := mkTF Tryz.underlying289 rfl Tryz.sizeOf4 (by decide)
instance : TB 289 Tryz.t289 (Go.Value.agg #[Go.Value.int Go.IntKind.i64 0, Go.Value.int Go.IntKind.i64 0, Go.Value.int Go.IntKind.i64 0, Go.Value.int Go.IntKind.i64 0, Go.Value.int Go.IntKind.i64 0, Go.Value.int Go.IntKind.i64 0, Go.Value.int Go.IntKind.i64 0, Go.Value.int Go.IntKind.i64 0, Go.Value.int Go.IntKind.i64 0, Go.Value.bool Bool.false]) 10 80 := ⟨by kernel_rfl, rfl, rfl, rfl⟩
instance : TI 290 (Go.Value.agg #[Go.Value.int Go.IntKind.i64 0, Go.Value.int Go.IntKind.i64 0, Go.Value.int Go.IntKind.i64 0, Go.Value.int Go.IntKind.i64 0, Go.Value.int Go.IntKind.i64 0, Go.Value.int Go.IntKind.i64 0, Go.Value.int Go.IntKind.i64 0, Go.Value.int Go.IntKind.i64 0, Go.Value.int Go.IntKind.i64 0, Go.Value.bool Bool.false]) 10 true := ⟨Tryz.zeroValue290, Tryz.sizeOf290, Tryz.isAgg290⟩
instance : TF 290 0 0 := mkTF Tryz.underlying290 rfl Tryz.sizeOf289 (by decide)
instance : TB 290 Tryz.t290 (Go.Value.agg #[Go.Value.int Go.IntKind.i64 0, Go.Value.int Go.IntKind.i64 0, Go.Value.int Go.IntKind.i64 0, Go.Value.int Go.IntKind.i64 0, Go.Value.int Go.IntKind.i64 0, Go.Value.int Go.IntKind.i64 0, Go.Value.int Go.IntKind.i64 0, Go.Value.int Go.IntKind.i64 0, Go.Value.int Go.IntKind.i64 0, Go.Value.bool Bool.false]) 10 80 := ⟨by kernel_rfl, rfl, rfl, rfl⟩
instance : TI 291 (Go.Value.agg #[Go.Value.int Go.IntKind.i64 0, Go.Value.int Go.IntKind.i64 0, Go.Value.int Go.IntKind.i64 0, Go.Value.int Go.IntKind.i64 0, Go.Value.int Go.IntKind.i64 0, Go.Value.int Go.IntKind.i64 0, Go.Value.int Go.IntKind.i64 0, Go.Value.int Go.IntKind.i64 0, Go.Value.int Go.IntKind.i64 0, Go.Value.bool Bool.false]) 10 true := ⟨Tryz.zeroValue291, Tryz.sizeOf291, Tryz.isAgg291⟩
instance : TF 291 0 0 := mkTF Tryz.underlying291 rfl Tryz.sizeOf289 (by decide)
instance : TB 291 Tryz.t291 (Go.Value.agg #[Go.Value.int Go.IntKind.i64 0, Go.Value.int Go.IntKind.i64 0, Go.Value.int Go.IntKind.i64 0, Go.Value.int Go.IntKind.i64 0, Go.Value.int Go.IntKind.i64 0, Go.Value.int Go.IntKind.i64 0, Go.Value.int Go.IntKind.i64 0, Go.Value.int Go.IntKind.i64 0, Go.Value.int Go.IntKind.i64 0, Go.Value.bool Bool.false]) 10 80 := ⟨by kernel_rfl, rfl, rfl, rfl⟩
instance : TI 293 (Go.Value.agg #[Go.Value.int Go.IntKind.i64 0, Go.Value.string { data := #[] }, Go.Value.int Go.IntKind.i64 0, Go.Value.int Go.IntKind.i64 0]) 4 true := ⟨Tryz.zeroValue293, Tryz.sizeOf293, Tryz.isAgg293⟩
instance : TF 293 0 0 := mkTF Tryz.underlying293 rfl Tryz.sizeOf3 (by decide)
instance : TF 293 1 1 := mkTF Tryz.underlying293 rfl Tryz.sizeOf9 (by decide)
instance : TF 293 2 2 := mkTF Tryz.underlying293 rfl Tryz.sizeOf3 (by decide)
instance : TF 293 3 3 := mkTF Tryz.underlying293 rfl Tryz.sizeOf3 (by decide)
instance : TB 293 Tryz.t293 (Go.Value.agg #[Go.Value.int Go.IntKind.i64 0, Go.Value.string { data := #[] }, Go.Value.int Go.IntKind.i64 0, Go.Value.int Go.IntKind.i64 0]) 4 40 := ⟨by kernel_rfl, rfl, rfl, rfl⟩
instance : TI 294 (Go.Value.agg #[Go.Value.int Go.IntKind.i64 0, Go.Value.string { data := #[] }, Go.Value.int Go.IntKind.i64 0, Go.Value.int Go.IntKind.i64 0]) 4 true := ⟨Tryz.zeroValue294, Tryz.sizeOf294, Tryz.isAgg294⟩
instance : TF 294 0 0 := mkTF Tryz.underlying294 rfl Tryz.sizeOf3 (by decide)
instance : TF 294 1 1 := mkTF Tryz.underlying294 rfl Tryz.sizeOf9 (by decide)
instance : TF 294 2 2 := mkTF Tryz.underlying294 rfl Tryz.sizeOf3 (by decide)
instance : TF 294 3 3 := mkTF Tryz.underlying294 rfl Tryz.sizeOf3 (by decide)
instance : TB 294 Tryz.t294 (Go.Value.agg #[Go.Value.int Go.IntKind.i64 0, Go.Value.string { data := #[] }, Go.Value.int Go.IntKind.i64 0, Go.Value.int Go.IntKind.i64 0]) 4 40 := ⟨by kernel_rfl, rfl, rfl, rfl⟩
instance : TI 295 (Go.Value.agg #[Go.Value.int Go.IntKind.i64 0, Go.Value.string { data := #[] }, Go.Value.int Go.IntKind.i64 0, Go.Value.int Go.IntKind.i64 0]) 4 true := ⟨Tryz.zeroValue295, Tryz.sizeOf295, Tryz.isAgg295⟩
instance : TF 295 0 0 := mkTF Tryz.underlying295 rfl Tryz.sizeOf294 (by decide)
instance : TB 295 Tryz.t295 (Go.Value.agg #[Go.Value.int Go.IntKind.i64 0, Go.Value.string { data := #[] }, Go.Value.int Go.IntKind.i64 0, Go.Value.int Go.IntKind.i64 0]) 4 40 := ⟨by kernel_rfl, rfl, rfl, rfl⟩
instance : TI 296 (Go.Value.agg #[Go.Value.int Go.IntKind.i64 0, Go.Value.string { data := #[] }, Go.Value.int Go.IntKind.i64 0, Go.Value.int Go.IntKind.i64 0]) 4 true := ⟨Tryz.zeroValue296, Tryz.sizeOf296, Tryz.isAgg296⟩
instance : TF 296 0 0 := mkTF Tryz.underlying296 rfl Tryz.sizeOf294 (by decide)
instance : TB 296 Tryz.t296 (Go.Value.agg #[Go.Value.int Go.IntKind.i64 0, Go.Value.string { data := #[] }, Go.Value.int Go.IntKind.i64 0, Go.Value.int Go.IntKind.i64 0]) 4 40 := ⟨by kernel_rfl, rfl, rfl, rfl⟩
instance : TI 298 (Go.Value.int Go.IntKind.i64 0) 1 false := ⟨Tryz.zeroValue298, Tryz.sizeOf298, Tryz.isAgg298⟩
instance : TD 298 (Go.TypeDesc.int Go.IntKind.i64) := ⟨Tryz.underlying298⟩
instance : TB 298 Tryz.t298 (Go.Value.int Go.IntKind.i64 0) 1 8 := ⟨by kernel_rfl, rfl, rfl, rfl⟩
instance : TI 306 (Go.Value.pointer Option.none) 1 false := ⟨Tryz.zeroValue306, Tryz.sizeOf306, Tryz.isAgg306⟩
instance : TD 306 Go.TypeDesc.unsafePointer := ⟨Tryz.underlying306⟩
instance : TB 306 Tryz.t306 (Go.Value.pointer Option.none) 1 8 := ⟨by kernel_rfl, rfl, rfl, rfl⟩
instance : TI 312 (Go.Value.int Go.IntKind.u64 0) 1 false := ⟨Tryz.zeroValue312, Tryz.sizeOf312, Tryz.isAgg312⟩
instance : TD 312 (Go.TypeDesc.int Go.IntKind.u64) := ⟨Tryz.underlying312⟩
instance : TB 312 Tryz.t312 (Go.Value.int Go.IntKind.u64 0) 1 8 := ⟨by kernel_rfl, rfl, rfl, rfl⟩
instance : TI 316 (Go.Value.pointer Option.none) 1 false := ⟨Tryz.zeroValue316, Tryz.sizeOf316, Tryz.isAgg316⟩
instance : TD 316 (Go.TypeDesc.pointer 3) := ⟨Tryz.underlying316⟩
instance : TB 316 Tryz.t316 (Go.Value.pointer Option.none) 1 8 := ⟨by kernel_rfl, rfl, rfl, rfl⟩
instance : TI 320 (Go.Value.pointer Option.none) 1 false := ⟨Tryz.zeroValue320, Tryz.sizeOf320, Tryz.isAgg320⟩
instance : TD 320 (Go.TypeDesc.pointer 312) := ⟨Tryz.underlying320⟩
instance : TB 320 Tryz.t320 (Go.Value.pointer Option.none) 1 8 := ⟨by kernel_rfl, rfl, rfl, rfl⟩
instance : TI 323 (Go.Value.agg #[Go.Value.pointer Option.none, Go.Value.pointer Option.none, Go.Value.pointer Option.none, Go.Value.string { data := #[] }]) 4 true := ⟨Tryz.zeroValue323, Tryz.sizeOf323, Tryz.isAgg323⟩
instance : TF 323 0 0 := mkTF Tryz.underlying323 rfl Tryz.sizeOf17 (by decide)
instance : TF 323 1 1 := mkTF Tryz.underlying323 rfl Tryz.sizeOf17 (by decide)
instance : TF 323 2 2 := mkTF Tryz.underlying323 rfl Tryz.sizeOf17 (by decide)
instance : TF 323 3 3 := mkTF Tryz.underlying323 rfl Tryz.sizeOf9 (by decide)
instance : TB 323 Tryz.t323 (Go.Value.agg #[Go.Value.pointer Option.none, Go.Value.pointer Option.none, Go.Value.pointer Option.none, Go.Value.string { data := #[] }]) 4 40 := ⟨by kernel_rfl, rfl, rfl, rfl⟩
instance : TI 324 (Go.Value.agg #[Go.Value.pointer Option.none, Go.Value.pointer Option.none, Go.Value.pointer Option.none, Go.Value.string { data := #[] }]) 4 true := ⟨Tryz.zeroValue324, Tryz.sizeOf324, Tryz.isAgg324⟩
instance : TF 324 0 0 := mkTF Tryz.underlying324 rfl Tryz.sizeOf17 (by decide)
instance : TF 324 1 1 := mkTF Tryz.underlying324 rfl Tryz.sizeOf17 (by decide)
instance : TF 324 2 2 := mkTF Tryz.underlying324 rfl Tryz.sizeOf17 (by decide)
instance : TF 324 3 3 := mkTF Tryz.underlying324 rfl Tryz.sizeOf9 (by decide)
instance : TB 324 Tryz.t324 (Go.Value.agg #[Go.Value.pointer Option.none, Go.Value.pointer Option.none, Go.Value.pointer Option.none, Go.Value.string { data := #[] }]) 4 40 := ⟨by kernel_rfl, rfl, rfl, rfl⟩
instance : TI 325 (Go.Value.agg #[]) 0 true := ⟨Tryz.zeroValue325, Tryz.sizeOf325, Tryz.isAgg325⟩
instance : TD 325 (Go.TypeDesc.array 0 16) := ⟨Tryz.underlying325⟩
instance : TB 325 Tryz.t325 (Go.Value.agg #[]) 0 0 := ⟨by kernel_rfl, rfl, rfl, rfl⟩
instance : TI 326 (Go.Value.agg #[]) 0 true := ⟨Tryz.zeroValue326, Tryz.sizeOf326, Tryz.isAgg326⟩
instance : TB 326 Tryz.t326 (Go.Value.agg #[]) 0 0 := ⟨by kernel_rfl, rfl, rfl, rfl⟩
instance : TI 327 (Go.Value.agg #[]) 0 true := ⟨Tryz.zeroValue327, Tryz.sizeOf327, Tryz.isAgg327⟩
instance : TB 327 Tryz.t327 (Go.Value.agg #[]) 0 0 := ⟨by kernel_rfl, rfl, rfl, rfl⟩
instance : TI 328 (Go.Value.int Go.IntKind.u8 0) 1 false := ⟨Tryz.zeroValue328, Tryz.sizeOf328, Tryz.isAgg328⟩
instance : TD 328 (Go.TypeDesc.int Go.IntKind.u8) := ⟨Tryz.underlying328⟩
instance : TB 328 Tryz.t328 (Go.Value.int Go.IntKind.u8 0) 1 1 := ⟨by kernel_rfl, rfl, rfl, rfl⟩
instance : TI 329 (Go.Value.int Go.IntKind.u8 0) 1 false := ⟨Tryz.zeroValue329, Tryz.sizeOf329, Tryz.isAgg329⟩
instance : TD 329 (Go.TypeDesc.int Go.IntKind.u8) := ⟨Tryz.underlying329⟩
instance : TB 329 Tryz.t329 (Go.Value.int Go.IntKind.u8 0) 1 1 := ⟨by kernel_rfl, rfl, rfl, rfl⟩
instance : TI 331 (Go.Value.int Go.IntKind.i32 0) 1 false := ⟨Tryz.zeroValue331, Tryz.sizeOf331, Tryz.isAgg331⟩
instance : TD 331 (Go.TypeDesc.int Go.IntKind.i32) := ⟨Tryz.underlying331⟩
instance : TB 331 Tryz.t331 (Go.Value.int Go.IntKind.i32 0) 1 4 := ⟨by kernel_rfl, rfl, rfl, rfl⟩
instance : TI 332 (Go.Value.int Go.IntKind.i32 0) 1 false := ⟨Tryz.zeroValue332, Tryz.sizeOf332, Tryz.isAgg332⟩
instance : TD 332 (Go.TypeDesc.int Go.IntKind.i32) := ⟨Tryz.underlying332⟩
instance : TB 332 Tryz.t332 (Go.Value.int Go.IntKind.i32 0) 1 4 := ⟨by kernel_rfl, rfl, rfl, rfl⟩
instance : TI 333 (Go.Value.agg #[Go.Value.int Go.IntKind.u64 0, Go.Value.int Go.IntKind.u64 0, Go.Value.int Go.IntKind.u32 0, Go.Value.int Go.IntKind.u8 0, Go.Value.int Go.IntKind.u8 0, Go.Value.int Go.IntKind.u8 0, Go.Value.int Go.IntKind.u8 0, Go.Value.nilFunc, Go.Value.pointer Option.none, Go.Value.int Go.IntKind.i32 0, Go.Value.int Go.IntKind.i32 0]) 11 true := ⟨Tryz.zeroValue333, Tryz.sizeOf333, Tryz.isAgg333⟩
instance : TF 333 0 0 := mkTF Tryz.underlying333 rfl Tryz.sizeOf12 (by decide)
instance : TF 333 1 1 := mkTF Tryz.underlying333 rfl Tryz.sizeOf12 (by decide)
instance : TF 333 2 2 := mkTF Tryz.underlying333 rfl Tryz.sizeOf59 (by decide)
instance : TF 333 3 3 := mkTF Tryz.underlying333 rfl Tryz.sizeOf328 (by decide)
instance : TF 333 4 4 := mkTF Tryz.underlying333 rfl Tryz.sizeOf5 (by decide)
instance : TF 333 5 5 := mkTF Tryz.underlying333 rfl Tryz.sizeOf5 (by decide)
instance : TF 333 6 6 := mkTF Tryz.underlying333 rfl Tryz.sizeOf329 (by decide)
instance : TF 333 7 7 := mkTF Tryz.underlying333 rfl Tryz.sizeOf330 (by decide)
instance : TF 333 8 8 := mkTF Tryz.underlying333 rfl Tryz.sizeOf270 (by decide)
instance : TF 333 9 9 := mkTF Tryz.underlying333 rfl Tryz.sizeOf331 (by decide)
instance : TF 333 10 10 := mkTF Tryz.underlying333 rfl Tryz.sizeOf332 (by decide)
instance : TB 333 Tryz.t333 (Go.Value.agg #[Go.Value.int Go.IntKind.u64 0, Go.Value.int Go.IntKind.u64 0, Go.Value.int Go.IntKind.u32 0, Go.Value.int Go.IntKind.u8 0, Go.Value.int Go.IntKind.u8 0, Go.Value.int Go.IntKind.u8 0, Go.Value.int Go.IntKind.u8 0, Go.Value.nilFunc, Go.Value.pointer Option.none, Go.Value.int Go.IntKind.i32 0, Go.Value.int Go.IntKind.i32 0]) 11 48 := ⟨by kernel_rfl, rfl, rfl, rfl⟩
instance : TI 334 (Go.Value.agg #[Go.Value.int Go.IntKind.u64 0, Go.Value.int Go.IntKind.u64 0, Go.Value.int Go.IntKind.u32 0, Go.Value.int Go.IntKind.u8 0, Go.Value.int Go.IntKind.u8 0, Go.Value.int Go.IntKind.u8 0, Go.Value.int Go.IntKind.u8 0, Go.Value.nilFunc, Go.Value.pointer Option.none, Go.Value.int Go.IntKind.i32 0, Go.Value.int Go.IntKind.i32 0]) 11 true := ⟨Tryz.zeroValue334, Tryz.sizeOf334, Tryz.isAgg334⟩
instance : TF 334 0 0 := mkTF Tryz.underlying334 rfl Tryz.sizeOf12 (by decide)
instance : TF 334 1 1 := mkTF Tryz.underlying334 rfl Tryz.sizeOf12 (by decide)
instance : TF 334 2 2 := mkTF Tryz.underlying334 rfl Tryz.sizeOf59 (by decide)
instance : TF 334 3 3 := mkTF Tryz.underlying334 rfl Tryz.sizeOf328 (by decide)
instance : TF 334 4 4 := mkTF Tryz.underlying334 rfl Tryz.sizeOf5 (by decide)
instance : TF 334 5 5 := mkTF Tryz.underlying334 rfl Tryz.sizeOf5 (by decide)
instance : TF 334 6 6 := mkTF Tryz.underlying334 rfl Tryz.sizeOf329 (by decide)
instance : TF 334 7 7 := mkTF Tryz.underlying334 rfl Tryz.sizeOf330 (by decide)
instance : TF 334 8 8 := mkTF Tryz.underlying334 rfl Tryz.sizeOf270 (by decide)
instance : TF 334 9 9 := mkTF Tryz.underlying334 rfl Tryz.sizeOf331 (by decide)
instance : TF 334 10 10 := mkTF Tryz.underlying334 rfl Tryz.sizeOf332 (by decide)
instance : TB 334 Tryz.t334 (Go.Value.agg #[Go.Value.int Go.IntKind.u64 0, Go.Value.int Go.IntKind.u64 0, Go.Value.int Go.IntKind.u32 0, Go.Value.int Go.IntKind.u8 0, Go.Value.int Go.IntKind.u8 0, Go.Value.int Go.IntKind.u8 0, Go.Value.int Go.IntKind.u8 0, Go.Value.nilFunc, Go.Value.pointer Option.none, Go.Value.int Go.IntKind.i32 0, Go.Value.int Go.IntKind.i32 0]) 11 48 := ⟨by kernel_rfl, rfl, rfl, rfl⟩
instance : TI 341 (Go.Value.agg #[Go.Value.int Go.IntKind.i64 0, Go.Value.int Go.IntKind.u64 0, Go.Value.string { data := #[] }, Go.Value.int Go.IntKind.i64 0, Go.Value.int Go.IntKind.i64 0]) 5 true := ⟨Tryz.zeroValue341, Tryz.sizeOf341, Tryz.isAgg341⟩
instance : TF 341 0 0 := mkTF Tryz.underlying341 rfl Tryz.sizeOf3 (by decide)
instance : TF 341 1 1 := mkTF Tryz.underlying341 rfl Tryz.sizeOf35 (by decide)
instance : TF 341 2 2 := mkTF Tryz.underlying341 rfl Tryz.sizeOf9 (by decide)
instance : TF 341 3 3 := mkTF Tryz.underlying341 rfl Tryz.sizeOf3 (by decide)
instance : TF 341 4 4 := mkTF Tryz.underlying341 rfl Tryz.sizeOf3 (by decide)
instance : TB 341 Tryz.t341 (Go.Value.agg #[Go.Value.int Go.IntKind.i64 0, Go.Value.int Go.IntKind.u64 0, Go.Value.string { data := #[] }, Go.Value.int Go.IntKind.i64 0, Go.Value.int Go.IntKind.i64 0]) 5 48 := ⟨by kernel_rfl, rfl, rfl, rfl⟩
instance : TI 342 (Go.Value.agg #[Go.Value.int Go.IntKind.i64 0, Go.Value.int Go.IntKind.u64 0, Go.Value.string { data := #[] }, Go.Value.int Go.IntKind.i64 0, Go.Value.int Go.IntKind.i64 0]) 5 true := ⟨Tryz.zeroValue342, Tryz.sizeOf342, Tryz.isAgg342⟩
instance : TF 342 0 0 := mkTF Tryz.underlying342 rfl Tryz.sizeOf3 (by decide)
instance : TF 342 1 1 := mkTF Tryz.underlying342 rfl Tryz.sizeOf35 (by decide)
instance : TF 342 2 2 := mkTF Tryz.underlying342 rfl Tryz.sizeOf9 (by decide)
instance : TF 342 3 3 := mkTF Tryz.underlying342 rfl Tryz.sizeOf3 (by decide)
instance : TF 342 4 4 := mkTF Tryz.underlying342 rfl Tryz.sizeOf3 (by decide)
instance : TB 342 Tryz.t342 (Go.Value.agg #[Go.Value.int Go.IntKind.i64 0, Go.Value.int Go.IntKind.u64 0, Go.Value.string { data := #[] }, Go.Value.int Go.IntKind.i64 0, Go.Value.int Go.IntKind.i64 0]) 5 48 := ⟨by kernel_rfl, rfl, rfl, rfl⟩
end Go.Proofs.YtbdhhedfplkidaaGreat
/- The walk's rules, one for each kind of operation. -/
namespace Go.Proofs.YtbdhhedfplkidaaGreat
open Go

/-- Block b is a row of cells of the type E, which may be written to. -/
def row (b : Nat) (E : TypeId) (cs : List Value) : HProp := pt b (.cells cs.toArray E (0, 0))
/-- Block b is a map with these entries. -/
def mapb (b : Nat) (es : List MapEntry) (clock : Nat) : HProp := pt b (.map es.toArray clock)
class Rw (H : HProp) (b : Nat) (E : outParam TypeId) (cs : outParam (List Value)) (R : outParam HProp) : Prop where
  eq : H = (row b E cs • R)
instance (priority := 1000) rwHead (b : Nat) (E : TypeId) (cs : List Value) (R : HProp) : Rw (row b E cs • R) b E cs R := ⟨rfl⟩
instance (priority := 500) rwTail (b : Nat) (E : TypeId) (cs : List Value) (B H R : HProp) [h : Rw H b E cs R] : Rw (B • H) b E cs (B • R) := ⟨by rw [h.eq, sep_left_comm']⟩
instance (priority := 900) rwLast (b : Nat) (E : TypeId) (cs : List Value) : Rw (row b E cs) b E cs emp := ⟨by rw [sep_comm', emp_sep]⟩
class Mb (H : HProp) (b : Nat) (es : outParam (List MapEntry)) (clock : outParam Nat) (R : outParam HProp) : Prop where
  eq : H = (mapb b es clock • R)
instance (priority := 1000) mbHead (b : Nat) (es : List MapEntry) (k : Nat) (R : HProp) : Mb (mapb b es k • R) b es k R := ⟨rfl⟩
instance (priority := 500) mbTail (b : Nat) (es : List MapEntry) (k : Nat) (B H R : HProp) [h : Mb H b es k R] : Mb (B • H) b es k (B • R) := ⟨by rw [h.eq, sep_left_comm']⟩
instance (priority := 900) mbLast (b : Nat) (es : List MapEntry) (k : Nat) : Mb (mapb b es k) b es k emp := ⟨by rw [sep_comm', emp_sep]⟩

/-- Cell o of a row is v. -/
class Nv (cs : List Value) (o : Nat) (v : outParam Value) : Prop where
  eq : cs[o]? = some v
instance nv0 (v : Value) (r : List Value) : Nv (v :: r) 0 v := ⟨rfl⟩
instance nvS (u v : Value) (r : List Value) (o : Nat) [h : Nv r o v] : Nv (u :: r) (o + 1) v := ⟨by simpa using h.eq⟩
class Nvs (cs : List Value) (o k : Nat) (vs : outParam (List Value)) : Prop where
  eq : ∀ j, j < k → cs[o + j]? = vs[j]?
  len : vs.length = k
instance nvs0 (cs : List Value) (o : Nat) : Nvs cs o 0 [] := ⟨fun _ h => absurd h (by omega), rfl⟩
instance nvsS (cs : List Value) (o k : Nat) (v : Value) (vs : List Value) [h : Nv cs o v] [t : Nvs cs (o + 1) k vs] : Nvs cs o (k + 1) (v :: vs) := ⟨fun j hj => by
  cases j with
  | zero => simpa using h.eq
  | succ j => have := t.eq j (by omega); rw [show o + (j + 1) = o + 1 + j from by omega]; simpa using this, by simp [t.len]⟩
class St (cs : List Value) (o : Nat) (v : Value) (cs' : outParam (List Value)) : Prop where
  eq : cs.set o v = cs'
  lt : o < cs.length
instance st0 (u v : Value) (r : List Value) : St (u :: r) 0 v (v :: r) := ⟨rfl, by simp⟩
instance stS (u v : Value) (r r' : List Value) (o : Nat) [h : St r o v r'] : St (u :: r) (o + 1) v (u :: r') := ⟨by simp [h.eq], by have := h.lt; simp; omega⟩
def setAll (cs : List Value) (o : Nat) : List Value → List Value
  | [] => cs
  | v :: vs => setAll (cs.set o v) (o + 1) vs
theorem setAll_length (vs : List Value) : ∀ (cs : List Value) (o : Nat), (setAll cs o vs).length = cs.length := by
  induction vs with
  | nil => intros; rfl
  | cons v vs ih => intro cs o; simp [setAll, ih]
class Sts (cs : List Value) (o : Nat) (vs : List Value) (cs' : outParam (List Value)) : Prop where
  eq : setAll cs o vs = cs'
  le : o + vs.length ≤ cs.length
instance sts0 (cs : List Value) : Sts cs cs.length [] cs := ⟨rfl, by simp⟩
instance (priority := low) stsN (cs : List Value) (o : Nat) (v : Value) (cs' : List Value) [h : St cs o v cs'] : Sts cs o [v] cs' := ⟨h.eq, by have := h.lt; simp; omega⟩
instance stsS (cs cs' cs'' : List Value) (o : Nat) (v u : Value) (vs : List Value) [h : St cs o v cs'] [t : Sts cs' (o + 1) (u :: vs) cs''] : Sts cs o (v :: u :: vs) cs'' := ⟨by
  show setAll (cs.set o v) (o + 1) (u :: vs) = cs''
  rw [h.eq]; exact t.eq, by have := t.le; have e := congrArg List.length h.eq; simp at e this ⊢; omega⟩
/-- A value's cells. -/
class Cl (v : Value) (cs : outParam (List Value)) : Prop where
  eq : v.cells = cs.toArray
  one : ∀ u ∈ cs, u.oneCell' = true
class One (v : Value) : Prop where
  one : v.oneCell' = true
  cells : v.cells = #[v]
instance (b : Bool) : One (.bool b) := ⟨rfl, rfl⟩
instance (k : IntKind) (n : Int) : One (.int k n) := ⟨rfl, rfl⟩
instance (s : ByteArray) : One (.string s) := ⟨rfl, rfl⟩
instance (a : Option Addr) : One (.pointer a) := ⟨rfl, rfl⟩
instance (a : Option Addr) (n c : Nat) : One (.slice a n c) := ⟨rfl, rfl⟩
instance (r : Option Nat) : One (.map r) := ⟨rfl, rfl⟩
instance (f : Fn) (x y : Array Value) : One (.func f x y) := ⟨rfl, rfl⟩
instance : One .nilFunc := ⟨rfl, rfl⟩
instance : One .nilIface := ⟨rfl, rfl⟩
instance (t : TypeId) (v : Value) : One (.iface t v) := ⟨rfl, rfl⟩
class Ones (cs : List Value) : Prop where
  one : ∀ u ∈ cs, u.oneCell' = true
instance : Ones [] := ⟨fun _ h => by cases h⟩
instance (v : Value) (vs : List Value) [h : One v] [t : Ones vs] : Ones (v :: vs) := ⟨fun u hu => by
  rcases List.mem_cons.1 hu with rfl | hu
  · exact h.one
  · exact t.one u hu⟩
instance (priority := low) clOne (v : Value) [h : One v] : Cl v [v] := ⟨h.cells, fun u hu => by simp at hu; subst hu; exact h.one⟩
instance clAgg (cs : List Value) [h : Ones cs] : Cl (.agg cs.toArray) cs := ⟨rfl, h.one⟩

section
variable {c w : World} {H R : HProp} {b : Nat} {E : TypeId} {cs : List Value}
theorem SL.rcell (h : SL c (row b E cs • R) w) (i : Nat) : w.cell? ⟨b, i, none⟩ = cs[i]? := by
  have := SL.cell (cs := cs.toArray) h i
  simpa using this
theorem SL.rfrozen (h : SL c (row b E cs • R) w) (i : Nat) : w.frozen? ⟨b, i, none⟩ = false := by
  have := SL.frozen (cs := cs.toArray) (fz := (0, 0)) h i
  simpa using this
theorem SL.rset (h : SL c (row b E cs • R) w) (i : Nat) (v : Value) : SL c (row b E (cs.set i v) • R) (w.setCell ⟨b, i, none⟩ v) := by
  have := SL.setCell (cs := cs.toArray) h i v
  simpa [row] using this
theorem SL.ralloc (h : SL c R w) (E : TypeId) (cs : Array Value) : SL c (row w.heap.size E cs.toList • R) (w.alloc (.cells cs E)) := h.alloc _
theorem add_none (b o i : Nat) : (⟨b, o, none⟩ : Addr).add i = ⟨b, o + i, none⟩ := by
  unfold Addr.add; split
  · rename_i h; subst h; rfl
  · rfl
theorem SL.storeCells : ∀ (vs : List Value) (cs : List Value) (o i : Nat) (w : World), SL c (row b E cs • R) w → o + i + vs.length ≤ cs.length → (∀ u ∈ vs, u.oneCell' = true) →
    ∃ w', (storeCells ⟨b, o, none⟩ vs i).run Pg w = .ok () w' ∧ SL c (row b E (setAll cs (o + i) vs) • R) w'
  | [], cs, o, i, w, h, _, _ => ⟨w, rfl, h⟩
  | v :: vs, cs, o, i, w, h, hl, h1 => by
    simp only [List.length_cons] at hl
    have hc := h.rcell (o + i)
    have hlt : cs[o + i]? = some cs[o + i] := List.getElem?_eq_getElem (by omega)
    have hr := run_store Pg w ⟨b, o + i, none⟩ v .plain (h1 v (by simp))
    rw [hc, hlt] at hr
    simp only [h.rfrozen (o + i), Bool.false_eq_true, if_false] at hr
    obtain ⟨w', hr', hs'⟩ := SL.storeCells vs (cs.set (o + i) v) o (i + 1) _ (h.rset (o + i) v) (by simp; omega) (fun u hu => h1 u (by simp [hu]))
    refine ⟨w', ?_, by rw [show o + (i + 1) = o + i + 1 from by omega] at hs'; exact hs'⟩
    simp only [Go.storeCells, Sem.run_bind, add_none, hr, Result.andThen_ok]
    exact hr'
end

/-- What a pure operation yields. -/
def cmp (op : BinOp) (a b : Int) : Option Value :=
  match op with
  | .eql => some (.bool (decide (a = b)))
  | .neq => some (.bool (decide (a ≠ b)))
  | .lss => some (.bool (decide (a < b)))
  | .leq => some (.bool (decide (a ≤ b)))
  | .gtr => some (.bool (decide (b < a)))
  | .geq => some (.bool (decide (b ≤ a)))
  | _ => none
def pv (l : List (Nat × Value)) : Op → Option Value
  | .move x => ev l x
  | .assign x => ev l x
  | .pick c a b => match ev l c with
    | some (.bool true) => ev l a
    | some (.bool false) => ev l b
    | _ => none
  | .unOp op _ x => match op with
    | .not => match ev l x with
      | some (.bool b) => some (.bool !b)
      | _ => none
    | _ => none
  | .extract x i => match ev l x with
    | some (.tuple vs) => vs[i]?
    | _ => none
  | .nilCheck x => match ev l x with
    | some (.pointer (some a)) => some (.pointer (some a))
    | some (.func (.func f) x y) => some (.func (.func f) x y)
    | _ => none
  | _ => none

/-- What a test of two numbers yields. -/
def pc (l : List (Nat × Value)) : Op → Option Value
  | .binOp op _ x y _ => match ev l x with
    | some (.int k a) => match ev l y with
      | some (.int k' b) => bif decide (k = k') then cmp op a b else none
      | _ => none
    | _ => none
  | _ => none

section
variable {c : World} {Q : Exit → Act → World → Prop} {n : Nat} {l : List (Nat × Value)} {H R : HProp} {ks : List Kn}
variable {q q1 q2 : Md} {all : Array Oper} {o : Oper} {rest : List Oper} {d : Nat} {v : Value}
theorem pv_run {a : Act} {w : World} (hf : Fr a n l) (h : pv l o.op = some v) : (execOp a.eval o).run Pg w = .ok (.value v) w := by
  unfold pv at h
  unfold execOp
  split at h <;> rename_i hop <;> simp only [hop]
  · rw [hf.eval h]; rfl
  · rw [hf.eval h]; rfl
  · split at h
    · rename_i hc; simp [hf.eval hc, hf.eval h, asBool]
    · rename_i hc; simp [hf.eval hc, hf.eval h, asBool]
    · cases h
  · split at h
    · split at h
      · rename_i hx; cases h; simp [hf.eval hx, Op.unary]
      · cases h
    · cases h
  · split at h
    · rename_i vs hx; simp [hf.eval hx, Instr.extract, h]
    · cases h
  · split at h
    · rename_i hx; cases h; simp [hf.eval hx]
    · rename_i hx; cases h; simp [hf.eval hx]
    · cases h
  · cases h
theorem pc_run {a : Act} {w : World} (hf : Fr a n l) (h : pc l o.op = some v) : (execOp a.eval o).run Pg w = .ok (.value v) w := by
  unfold pc at h
  unfold execOp
  split at h <;> rename_i hop <;> simp only [hop]
  · split at h
    · rename_i k x hx
      split at h
      · rename_i k' y hy
        by_cases hk : k = k'
        · subst hk
          simp only [decide_true, cond_true] at h
          rw [hf.eval hx, hf.eval hy]
          unfold cmp at h
          split at h <;> cases h <;> simp [eqGuard, binOp, Op.intCmp, bne] <;> rfl
        · simp [hk] at h
      · cases h
    · cases h
  · cases h
/-- A pure operation. -/
theorem W.op [hNL : NL q1 q2] (hg : o.guard = none) (hd : o.dst = some d) (hn : Nat.blt d n = true) (hv : pv l o.op = some v)
    (k : WS c Q n (.ops q2 all rest ks) ((d, v) :: l) H) : WS c Q n (.ops q1 all (o :: rest) ks) l H :=
  W.val hg hd hn (fun _ _ hf _ => pv_run hf hv) k
/-- A test: both ways. -/
theorem W.test [hNL : NL q1 q2] (hg : o.guard = none) (hd : o.dst = some d) (hn : Nat.blt d n = true) {b : Bool} (hv : pc l o.op = some (.bool b))
    (k : b = true → WS c Q n (.ops q2 all rest ks) ((d, .bool true) :: l) H) (k' : b = false → WS c Q n (.ops q2 all rest ks) ((d, .bool false) :: l) H) : WS c Q n (.ops q1 all (o :: rest) ks) l H := by
  cases hb : b with
  | true => exact W.val hg hd hn (fun _ _ hf _ => pc_run hf (hb ▸ hv)) (k hb)
  | false => exact W.val hg hd hn (fun _ _ hf _ => pc_run hf (hb ▸ hv)) (k' hb)
theorem W.ift [hNL : NL q1 q2] (hg : o.guard = none) (hd : o.dst = some d) (hn : Nat.blt d n = true) {p : Prop} [Decidable p] (hv : pc l o.op = some (.bool (decide p)))
    (k : p → WS c Q n (.ops q2 all rest ks) ((d, .bool true) :: l) H) (k' : ¬p → WS c Q n (.ops q2 all rest ks) ((d, .bool false) :: l) H) : WS c Q n (.ops q1 all (o :: rest) ks) l H :=
  W.test hg hd hn hv (fun h => k (of_decide_eq_true h)) (fun h => k' (of_decide_eq_false h))
theorem W.yes [hNL : NL q1 q2] (hg : o.guard = none) (hd : o.dst = some d) (hn : Nat.blt d n = true) {p : Prop} [Decidable p] (hv : pc l o.op = some (.bool (decide p))) (hp : p)
    (k : WS c Q n (.ops q2 all rest ks) ((d, .bool true) :: l) H) : WS c Q n (.ops q1 all (o :: rest) ks) l H :=
  W.val hg hd hn (fun _ _ hf _ => pc_run hf (by rw [hv, decide_eq_true hp])) k
theorem W.no [hNL : NL q1 q2] (hg : o.guard = none) (hd : o.dst = some d) (hn : Nat.blt d n = true) {p : Prop} [Decidable p] (hv : pc l o.op = some (.bool (decide p))) (hp : ¬p)
    (k : WS c Q n (.ops q2 all rest ks) ((d, .bool false) :: l) H) : WS c Q n (.ops q1 all (o :: rest) ks) l H :=
  W.val hg hd hn (fun _ _ hf _ => pc_run hf (by rw [hv, decide_eq_false hp])) k
/-- A test, left as it is. -/
theorem W.cmp [hNL : NL q1 q2] (hg : o.guard = none) (hd : o.dst = some d) (hn : Nat.blt d n = true) (hv : pc l o.op = some v)
    (k : WS c Q n (.ops q2 all rest ks) ((d, v) :: l) H) : WS c Q n (.ops q1 all (o :: rest) ks) l H :=
  W.val hg hd hn (fun _ _ hf _ => pc_run hf hv) k
/-- Some operation on two numbers. -/
theorem W.bin [hNL : NL q1 q2] {op : BinOp} {t t' : TypeId} {x y : Operand} {k1 k2 : IntKind} {i j : Int} (hg : o.guard = none) (hd : o.dst = some d) (hn : Nat.blt d n = true) (ho : o.op = .binOp op t x y t')
    (hx : ev l x = some (.int k1 i)) (hy : ev l y = some (.int k2 j)) (hr : ∀ w, (binOp op t (.int k1 i) (.int k2 j)).run Pg w = .ok v w)
    (k : WS c Q n (.ops q2 all rest ks) ((d, v) :: l) H) : WS c Q n (.ops q1 all (o :: rest) ks) l H := by
  refine W.val hg hd hn (fun a w hf _ => ?_) k
  have he : ∀ w, (eqGuard op t x y (.int k1 i) (.int k2 j)).run Pg w = .ok () w := fun w => by cases op <;> rfl
  simp only [execOp, ho, hf.eval hx, hf.eval hy, Sem.run_bind, he, Result.andThen_ok, hr]
  rfl
/-- &x.f -/
theorem W.fld [hNL : NL q1 q2] {s f r b i : Nat} {x : Operand} (hg : o.guard = none) (hd : o.dst = some d) (hn : Nat.blt d n = true) (ho : o.op = .fieldAddr s x f)
    (hx : ev l x = some (.pointer (some ⟨b, i, none⟩))) [ht : TFi s f i r] (k : WS c Q n (.ops q2 all rest ks) ((d, .pointer (some ⟨b, r, none⟩)) :: l) H) : WS c Q n (.ops q1 all (o :: rest) ks) l H := by
  refine W.val hg hd hn (fun a w hf _ => ?_) k
  simp [execOp, ho, hf.eval hx, ht.run]
/-- A sum, a difference, a product that its kind holds. -/
def arith (op : BinOp) (a b : Int) : Option Int :=
  match op with
  | .add => some (a + b)
  | .sub => some (a - b)
  | .mul => some (a * b)
  | _ => none
theorem W.wrap [hNL : NL q1 q2] {op : BinOp} {t t' : TypeId} {x y : Operand} {kd : IntKind} {i j r : Int} (hg : o.guard = none) (hd : o.dst = some d) (hn : Nat.blt d n = true) (ho : o.op = .binOp op t x y t')
    (hx : ev l x = some (.int kd i)) (hy : ev l y = some (.int kd j)) (hr : arith op i j = some r)
    (k : WS c Q n (.ops q2 all rest ks) ((d, .int kd (kd.wrap r)) :: l) H) : WS c Q n (.ops q1 all (o :: rest) ks) l H := by
  refine W.val hg hd hn (fun a w hf _ => ?_) k
  unfold arith at hr
  split at hr <;> cases hr <;> simp [execOp, ho, hf.eval hx, hf.eval hy, eqGuard, binOp, Op.intArith]
theorem W.ar [hNL : NL q1 q2] {op : BinOp} {t t' : TypeId} {x y : Operand} {kd : IntKind} {i j r : Int} (hg : o.guard = none) (hd : o.dst = some d) (hn : Nat.blt d n = true) (ho : o.op = .binOp op t x y t')
    (hx : ev l x = some (.int kd i)) (hy : ev l y = some (.int kd j)) (hr : arith op i j = some r) (hw : kd.wrap r = r)
    (k : WS c Q n (.ops q2 all rest ks) ((d, .int kd r) :: l) H) : WS c Q n (.ops q1 all (o :: rest) ks) l H :=
  W.wrap hg hd hn ho hx hy hr (by rw [hw]; exact k)
/-- A number of another kind. -/
theorem W.conv [hNL : NL q1 q2] {s t : TypeId} {x : Operand} {k1 k2 : IntKind} {i : Int} (hg : o.guard = none) (hd : o.dst = some d) (hn : Nat.blt d n = true) (ho : o.op = .convert s t x)
    [hs : TD s (.int k1)] [ht : TD t (.int k2)] (hx : ev l x = some (.int k1 i))
    (k : WS c Q n (.ops q2 all rest ks) ((d, .int k2 (k2.wrap i)) :: l) H) : WS c Q n (.ops q1 all (o :: rest) ks) l H := by
  refine W.val hg hd hn (fun a w hf _ => ?_) k
  simp [execOp, ho, hf.eval hx, convert, run_underlying hs.eq, run_underlying ht.eq, Conv.intToInt]
theorem W.cv [hNL : NL q1 q2] {s t : TypeId} {x : Operand} {k1 k2 : IntKind} {i : Int} (hg : o.guard = none) (hd : o.dst = some d) (hn : Nat.blt d n = true) (ho : o.op = .convert s t x)
    [hs : TD s (.int k1)] [ht : TD t (.int k2)] (hx : ev l x = some (.int k1 i)) (hw : k2.wrap i = i)
    (k : WS c Q n (.ops q2 all rest ks) ((d, .int k2 i) :: l) H) : WS c Q n (.ops q1 all (o :: rest) ks) l H :=
  W.conv hg hd hn ho hx (by rw [hw]; exact k)
/-- A load of one cell. -/
theorem W.ld [hNL : NL q1 q2] {t : TypeId} {x : Operand} {z : Value} {b i : Nat} {E : TypeId} {cs : List Value} (hg : o.guard = none) (hd : o.dst = some d) (hn : Nat.blt d n = true) (ho : o.op = .load t x) [ti : TI t z 1 false]
    (hx : ev l x = some (.pointer (some ⟨b, i, none⟩))) [hr : Rw H b E cs R] [hv : Nv cs i v] (k : WS c Q n (.ops q2 all rest ks) ((d, v) :: l) H) : WS c Q n (.ops q1 all (o :: rest) ks) l H := by
  refine W.val hg hd hn (fun a w hf hs => ?_) k
  rw [hr.eq] at hs
  simp [execOp, ho, hf.eval hx, Instr.loadAt, Instr.sureAddr, loadVar, ti.agg, hs.rcell, hv.eq]
/-- A load of one cell, at a place that is reckoned. -/
theorem W.ldi [hNL : NL q1 q2] {t : TypeId} {x : Operand} {z : Value} {b i : Nat} {E : TypeId} {cs : List Value} (hg : o.guard = none) (hd : o.dst = some d) (hn : Nat.blt d n = true) (ho : o.op = .load t x) [ti : TI t z 1 false]
    (hx : ev l x = some (.pointer (some ⟨b, i, none⟩))) [hr : Rw H b E cs R] (hv : cs[i]? = some v) (k : WS c Q n (.ops q2 all rest ks) ((d, v) :: l) H) : WS c Q n (.ops q1 all (o :: rest) ks) l H := by
  refine W.val hg hd hn (fun a w hf hs => ?_) k
  rw [hr.eq] at hs
  simp [execOp, ho, hf.eval hx, Instr.loadAt, Instr.sureAddr, loadVar, ti.agg, hs.rcell, hv]
/-- A load of a struct. -/
theorem W.lds [hNL : NL q1 q2] {t : TypeId} {x : Operand} {z : Value} {b i s : Nat} {E : TypeId} {cs vs : List Value} (hg : o.guard = none) (hd : o.dst = some d) (hn : Nat.blt d n = true) (ho : o.op = .load t x) [ti : TI t z s true]
    (hx : ev l x = some (.pointer (some ⟨b, i, none⟩))) [hr : Rw H b E cs R] [hv : Nvs cs i s vs] (k : WS c Q n (.ops q2 all rest ks) ((d, .agg vs.toArray) :: l) H) : WS c Q n (.ops q1 all (o :: rest) ks) l H := by
  refine W.val hg hd hn (fun a w hf hs => ?_) k
  rw [hr.eq] at hs
  have hl := run_loadCells_list (P := Pg) w ⟨b, i, none⟩ vs (fun j u hu => by
    rw [add_none, hs.rcell, hv.eq j (by have := List.getElem?_eq_some_iff.1 hu; have := this.1; have := hv.len; omega)]; exact hu)
  rw [hv.len] at hl
  simp [execOp, ho, hf.eval hx, Instr.loadAt, Instr.sureAddr, loadVar, ti.agg, ti.size, hl]
/-- A store of one cell. -/
theorem W.st [NX q1 q2] {t : TypeId} {x y : Operand} {z : Value} {a' : Bool} {b i : Nat} {E : TypeId} {cs cs' : List Value} (hg : o.guard = none) (hd : o.dst = none) (ho : o.op = .store t x y) [ti : TI t z 1 a']
    (hx : ev l x = some (.pointer (some ⟨b, i, none⟩))) (hy : ev l y = some v) [h1 : One v] [hr : Rw H b E cs R] [hv : St cs i v cs'] (k : WS c Q n (.ops q2 all rest ks) l (row b E cs' • R)) : WS c Q n (.ops q1 all (o :: rest) ks) l H := by
  refine W.unit hg hd (fun a w hf hs => ?_) k
  rw [hr.eq] at hs
  obtain ⟨w', h2, h3⟩ := SL.storeCells [v] cs i 0 w hs (by have := hv.lt; simp; omega) (fun u hu => by simp at hu; subst hu; exact h1.one)
  refine ⟨w', ?_, by rw [← hv.eq]; exact h3⟩
  simp [execOp, ho, hf.eval hx, hf.eval hy, Instr.storeAt, Instr.sureAddr, storeVar, h1.cells, ti.size, h2]
/-- A store of one cell, at a place that is reckoned. -/
theorem W.sti [NX q1 q2] {t : TypeId} {x y : Operand} {z : Value} {a' : Bool} {b i : Nat} {E : TypeId} {cs : List Value} (hg : o.guard = none) (hd : o.dst = none) (ho : o.op = .store t x y) [ti : TI t z 1 a']
    (hx : ev l x = some (.pointer (some ⟨b, i, none⟩))) (hy : ev l y = some v) [h1 : One v] [hr : Rw H b E cs R] (hv : i < cs.length) (k : WS c Q n (.ops q2 all rest ks) l (row b E (cs.set i v) • R)) : WS c Q n (.ops q1 all (o :: rest) ks) l H := by
  haveI : St cs i v (cs.set i v) := ⟨rfl, hv⟩
  exact W.st hg hd ho hx hy k
/-- A store of a struct. -/
theorem W.sts [NX q1 q2] {t : TypeId} {x y : Operand} {z : Value} {a' : Bool} {b i s : Nat} {E : TypeId} {cs cs' vs : List Value} (hg : o.guard = none) (hd : o.dst = none) (ho : o.op = .store t x y) [ti : TI t z s a']
    (hx : ev l x = some (.pointer (some ⟨b, i, none⟩))) (hy : ev l y = some (.agg vs.toArray)) [h1 : Ones vs] [hr : Rw H b E cs R] [hv : Sts cs i vs cs'] (hlen : vs.length = s) (k : WS c Q n (.ops q2 all rest ks) l (row b E cs' • R)) : WS c Q n (.ops q1 all (o :: rest) ks) l H := by
  refine W.unit hg hd (fun a w hf hs => ?_) k
  rw [hr.eq] at hs
  obtain ⟨w', h2, h3⟩ := SL.storeCells vs cs i 0 w hs (by have := hv.le; omega) h1.one
  refine ⟨w', ?_, by rw [← hv.eq]; exact h3⟩
  simp [execOp, ho, hf.eval hx, hf.eval hy, Instr.storeAt, Instr.sureAddr, storeVar, Value.cells, hlen, ti.size, h2]
/-- A new variable. -/
theorem W.alc [NX q1 q2] {t : TypeId} {z : Value} {s : Nat} {ag : Bool} {cs : List Value} (hg : o.guard = none) (hd : o.dst = some d) (hn : Nat.blt d n = true) (ho : o.op = .alloc t) [ti : TI t z s ag] [hc : Cl z cs]
    (k : ∀ b, WS c Q n (.ops q2 all rest ks) ((d, .pointer (some ⟨b, 0, none⟩)) :: l) (row b t cs • H)) : WS c Q n (.ops q1 all (o :: rest) ks) l H := by
  refine W.valw (val := fun b => .pointer (some ⟨b, 0, none⟩)) (K := fun b => row b t cs • H) hg hd hn (fun a w hf hs => ?_) k
  refine ⟨w.heap.size, w.alloc (.cells cs.toArray t), ?_, hs.ralloc t cs.toArray⟩
  simp [execOp, ho, Instr.alloc, ti.zero, newVar, newRow, hc.eq]
/-- A new variable with a value. -/
theorem W.box [NX q1 q2] {t : TypeId} {x : Operand} {cs : List Value} (hg : o.guard = none) (hd : o.dst = some d) (hn : Nat.blt d n = true) (ho : o.op = .box t x) (hx : ev l x = some v) [hc : Cl v cs]
    (k : ∀ b, WS c Q n (.ops q2 all rest ks) ((d, .pointer (some ⟨b, 0, none⟩)) :: l) (row b t cs • H)) : WS c Q n (.ops q1 all (o :: rest) ks) l H := by
  refine W.valw (val := fun b => .pointer (some ⟨b, 0, none⟩)) (K := fun b => row b t cs • H) hg hd hn (fun a w hf hs => ?_) k
  refine ⟨w.heap.size, w.alloc (.cells cs.toArray t), ?_, hs.ralloc t cs.toArray⟩
  simp [execOp, ho, Instr.box, hf.eval hx, newVar, newRow, hc.eq]
/-- A call of a function by its contract. -/
theorem W.call [NX q1 q2] {f : FuncId} {args : List Operand} {vs : List Value} {ts : Array TypeId} {A : HProp} {Post : Value → HProp → Prop} (h : CS f vs A Post)
    (hg : o.guard = none) (hd : o.dst = some d) (hn : Nat.blt d n = true) (ho : o.op = .call { callee := .value (.func f), args := args.toArray, argTypes := ts })
    (hc : ∀ (args : Array Value) (w : World), (callFunc f args).run Pg w = .ok (.enter f args) w) (hx : EvL l args vs) [ht : Take H A R]
    (k : ∀ v H', Post v H' → WS c Q n (.ops q2 all rest ks) ((d, v) :: l) (H' • R)) : WS c Q n (.ops q1 all (o :: rest) ks) l H := by
  refine W.base hg fun a w hf hs K hK => ?_
  rw [ht.eq] at hs
  have hrun : (execOp a.eval o).run Pg w = .ok (.enter f vs.toArray) w := by
    simp only [execOp, ho, resolve, Sem.run_bind, Act.eval, Deferred.ofValue, Sem.run_pure, Result.andThen_ok, invoke]
    rw [List.map_toArray, hf.evalL hx]
    simp [hc]
  unfold Oper.wp
  rw [hrun]
  show Calls Pg f vs.toArray w _
  refine (h c R w hs).mono ?_
  rintro e w' ⟨v, H', hp, rfl, hs'⟩
  show K (a.put o.dst v) w'
  rw [hd]
  exact hK _ _ (k v H' hp) _ _ (hf.put hn _) hs'
end
/-- A contract is proved by a walk of the body. -/
theorem CS.walk {f : FuncId} {fn : Func} {x : Code} {n : Nat} {args : List Value} {A : HProp} {Post : Value → HProp → Prop}
    (hf : Pg.funcs[f]? = some fn) (hb : fn.body = some x) (hn : fn.ntmps = n) (hl : Nat.ble args.length n = true)
    (h : ∀ (c : World) (R : HProp), WS c (bodyPost Pg fn fun e w' => ∃ v H', Post v H' ∧ e = .returned v ∧ SL c (H' • R) w') n (.code x []) (ini 0 args) (A • R)) : CS f args A Post := by
  have hl := Nat.le_of_ble_eq_true hl
  intro c R w hs
  refine calls_of_wp hf hb ?_
  subst hn
  refine h c R _ w ⟨rfl, by simp; omega, fun i v hv => ?_⟩ hs
  obtain ⟨_, h2⟩ := lk_ini args 0 i v hv
  have h3 := (List.getElem?_eq_some_iff.1 h2).1
  simp only [Nat.sub_zero] at h2 h3
  rw [Array.getElem?_append_left (by simpa using h3)]
  simpa using h2
section
variable {c : World} {n : Nat} {l : List (Nat × Value)} {H R : HProp} {fn : Func} {Post : Value → HProp → Prop} {e : Ex}
theorem fin_of {v : Value} (he : e = .normal ∨ e = .ret) (hr : ∀ a w, Fr a n l → SL c H w → (results fn a.tmps).run Pg w = .ok v w) (H' : HProp) (hp : Post v H') (hi : Imp H (H' • R)) :
    WS c (bodyPost Pg fn fun e w' => ∃ v H', Post v H' ∧ e = .returned v ∧ SL c (H' • R) w') n (.done e []) l H := by
  intro a w hf hs
  rcases he with rfl | rfl <;> exact ⟨hf.defers, v, hr a w hf hs, v, H', hp, rfl, hs.imp hi⟩
theorem W.ret1 {t : Tmp} {v : Value} (he : e = .normal ∨ e = .ret) (hr : fn.results = #[.tmp t]) (hv : lk t l = some v) (H' : HProp) (hp : Post v H') (hi : Imp H (H' • R)) :
    WS c (bodyPost Pg fn fun e w' => ∃ v H', Post v H' ∧ e = .returned v ∧ SL c (H' • R) w') n (.done e []) l H :=
  fin_of he (fun a w hf _ => by rw [results_tmp hr]; simp [Array.getD_eq_getD_getElem?, hf.slot t v hv]) H' hp hi
theorem W.ret0 (he : e = .normal ∨ e = .ret) (hr : fn.results = #[]) (H' : HProp) (hp : Post (.tuple #[]) H') (hi : Imp H (H' • R)) :
    WS c (bodyPost Pg fn fun e w' => ∃ v H', Post v H' ∧ e = .returned v ∧ SL c (H' • R) w') n (.done e []) l H :=
  fin_of he (fun a w hf _ => by rw [results_none hr]) H' hp hi
theorem W.ret2 {t u : Tmp} {v v' : Value} (he : e = .normal ∨ e = .ret) (hr : fn.results = #[.tmp t, .tmp u]) (hv : lk t l = some v) (hv' : lk u l = some v') (H' : HProp) (hp : Post (.tuple #[v, v']) H') (hi : Imp H (H' • R)) :
    WS c (bodyPost Pg fn fun e w' => ∃ v H', Post v H' ∧ e = .returned v ∧ SL c (H' • R) w') n (.done e []) l H :=
  fin_of he (fun a w hf _ => by rw [results_tmp2 hr]; simp [Array.getD_eq_getD_getElem?, hf.slot t v hv, hf.slot u v' hv']) H' hp hi
theorem results_tmp3 {fn : Func} {t u s : Tmp} (h : fn.results = #[.tmp t, .tmp u, .tmp s]) (tmps : Array Value) (P : Program) (w : World) :
    (results fn tmps).run P w = .ok (.tuple #[tmps.getD t undef, tmps.getD u undef, tmps.getD s undef]) w := by
  simp [results, h]
theorem W.ret3 {t u s : Tmp} {v v' v'' : Value} (he : e = .normal ∨ e = .ret) (hr : fn.results = #[.tmp t, .tmp u, .tmp s]) (hv : lk t l = some v) (hv' : lk u l = some v') (hv'' : lk s l = some v'') (H' : HProp) (hp : Post (.tuple #[v, v', v'']) H') (hi : Imp H (H' • R)) :
    WS c (bodyPost Pg fn fun e w' => ∃ v H', Post v H' ∧ e = .returned v ∧ SL c (H' • R) w') n (.done e []) l H :=
  fin_of he (fun a w hf _ => by rw [results_tmp3 hr]; simp [Array.getD_eq_getD_getElem?, hf.slot t v hv, hf.slot u v' hv', hf.slot s v'' hv'']) H' hp hi
end
end Go.Proofs.YtbdhhedfplkidaaGreat
/- The walk's rules: texts, slices, make, append, copy. -/
namespace Go.Proofs.YtbdhhedfplkidaaGreat
open Go
open M (Str)

def str (s : Str) : Value := .string ⟨s.toArray⟩
abbrev int (n : Int) : Value := .int .i64 n
abbrev u64 (n : Nat) : Value := .int .u64 n
abbrev u8 (b : UInt8) : Value := .int .u8 b.toNat
instance (s : Str) : One (str s) := ⟨rfl, rfl⟩
/-- A row whose cells may be written to, whatever is frozen behind them. -/
def rowb (b : Nat) (E : TypeId) (cs : List Value) : HProp := ex fun fz : Nat × Nat => pr (cs.length ≤ fz.1) • pt b (.cells cs.toArray E fz)
class Rwb (H : HProp) (b : Nat) (E : outParam TypeId) (cs : outParam (List Value)) (R : outParam HProp) : Prop where
  eq : H = (rowb b E cs • R)
instance (priority := 1000) rwbHead (b : Nat) (E : TypeId) (cs : List Value) (R : HProp) : Rwb (rowb b E cs • R) b E cs R := ⟨rfl⟩
instance (priority := 500) rwbTail (b : Nat) (E : TypeId) (cs : List Value) (B H R : HProp) [h : Rwb H b E cs R] : Rwb (B • H) b E cs (B • R) := ⟨by rw [h.eq, sep_left_comm']⟩
/-- The slice value v has the elements whose cells are xs (k cells each), and its array is all its own. -/
def slck (k : Nat) (E : TypeId) (v : Value) (n : Nat) (xs : List Value) : HProp := fun h =>
  xs.length = n * k ∧ ((v = .slice none 0 0 ∧ n = 0 ∧ ∀ b, h b = none) ∨ ∃ g cap sp, v = .slice (some ⟨g, 0, none⟩) n cap ∧ n ≤ cap ∧ cap ≤ maxLen ∧ (xs ++ sp).length = cap * k ∧ row g E (xs ++ sp) h)
/-- .. elements of one cell. -/
abbrev slc (E : TypeId) (v : Value) (xs : List Value) : HProp := slck 1 E v xs.length xs

section
variable {c w : World} {H R : HProp} {b : Nat} {E : TypeId} {cs : List Value}
theorem SL.bcell (h : SL c (rowb b E cs • R) w) (i : Nat) : w.cell? ⟨b, i, none⟩ = cs[i]? := by
  obtain ⟨fz, h⟩ := SL.exE h
  rw [sep_assoc'] at h
  have := SL.cell (cs := cs.toArray) h.prE.2 i
  simpa using this
theorem SL.bset (h : SL c (rowb b E cs • R) w) (i : Nat) (v : Value) : SL c (rowb b E (cs.set i v) • R) (w.setCell ⟨b, i, none⟩ v) := by
  obtain ⟨fz, h⟩ := SL.exE h
  rw [sep_assoc'] at h
  obtain ⟨hl, h⟩ := h.prE
  have := SL.setCell (cs := cs.toArray) h i v
  unfold rowb
  rw [ex_sep]
  refine ⟨this.os, this.tape, this.output, ?_⟩
  obtain ⟨hp, p, s⟩ := this.heap
  refine ⟨hp, ⟨fz, ?_⟩, s⟩
  show ((pr ((cs.set i v).length ≤ fz.1) • pt b (Obj.cells (cs.set i v).toArray E fz)) • R) hp
  rw [pr_true (by simpa using hl), emp_sep]
  simpa using p
theorem SL.bfrozen (h : SL c (rowb b E cs • R) w) (i : Nat) (hi : i < cs.length) : w.frozen? ⟨b, i, none⟩ = false := by
  obtain ⟨fz, h⟩ := SL.exE h
  rw [sep_assoc'] at h
  obtain ⟨hl, h⟩ := h.prE
  have := SL.frozen (cs := cs.toArray) (fz := fz) h i
  rw [this]
  simp; omega
theorem SL.slckE {k : Nat} {v : Value} {n : Nat} {xs : List Value} (h : SL c (slck k E v n xs • R) w) :
    xs.length = n * k ∧ ((v = .slice none 0 0 ∧ n = 0 ∧ SL c R w) ∨ ∃ g cap sp, v = .slice (some ⟨g, 0, none⟩) n cap ∧ n ≤ cap ∧ cap ≤ maxLen ∧ (xs ++ sp).length = cap * k ∧ SL c (row g E (xs ++ sp) • R) w) := by
  obtain ⟨hp, ⟨h1, h2, d, e, ⟨hl, p⟩, q⟩, s⟩ := h.heap
  refine ⟨hl, ?_⟩
  rcases p with ⟨hv, hx, hn⟩ | ⟨g, cap, sp, hv, h3, h4, h5, p⟩
  · exact .inl ⟨hv, hx, h.os, h.tape, h.output, h2, q, fun b o ho => s b o (by rw [e b, hn b, ho]; rfl)⟩
  · exact .inr ⟨g, cap, sp, hv, h3, h4, h5, h.os, h.tape, h.output, hp, ⟨h1, h2, d, e, p, q⟩, s⟩
theorem slck_nil (k : Nat) (E : TypeId) : slck k E (.slice none 0 0) 0 [] = emp := by
  funext h
  refine propext ⟨?_, fun x => ⟨by simp, .inl ⟨rfl, rfl, x⟩⟩⟩
  rintro ⟨_, x⟩
  rcases x with x | ⟨g, cap, sp, hv, _⟩
  · exact x.2.2
  · cases hv
theorem slck_mk {k : Nat} {E : TypeId} {g n cap : Nat} {xs sp : List Value} (hl : xs.length = n * k) (hn : n ≤ cap) (hm : cap ≤ maxLen) (hc : (xs ++ sp).length = cap * k) : Imp (row g E (xs ++ sp)) (slck k E (.slice (some ⟨g, 0, none⟩) n cap) n xs) :=
  fun hp h => ⟨hp, ⟨hl, .inr ⟨g, cap, sp, rfl, hn, hm, hc, h⟩⟩, fun _ _ h => h⟩
theorem SL.owns {k : Nat} {v : Value} {n : Nat} {xs : List Value} (h : SL c (slck k E v n xs • R) w) : w.ownsRow 0 E k v n xs := by
  obtain ⟨hl, h⟩ := h.slckE
  refine ⟨hl, ?_⟩
  rcases h with ⟨rfl, rfl, _⟩ | ⟨g, cap, sp, rfl, h1, h2, h3, h4⟩
  · exact .inl ⟨rfl, rfl⟩
  · exact .inr ⟨g, cap, _, rfl, Nat.zero_le _, h4.get, h1, h2, by simpa using h3, by rw [← hl]; simp⟩
/-- Behind a law that ends in ownsRow and grownBy. -/
theorem SL.grown {k : Nat} {v v' : Value} {n n' : Nat} {xs ys : List Value} {w' : World} (h : SL c (slck k E v n xs • R) w) (ho : w'.ownsRow 0 E k v' n' ys) (hg : w.grownBy w' v.ownBlock)
    (hb : ∀ b, v'.ownBlock = some b → v.ownBlock = some b ∨ w.heap.size ≤ b) : SL c (slck k E v' n' ys • R) w' := by
  obtain ⟨hl, h⟩ := h.slckE
  obtain ⟨hl', ho⟩ := ho
  -- the frame's own part of the world stays
  have key : ∃ hp : Hp, R hp ∧ (∀ b o, hp b = some o → w'.heap[b]? = some o) ∧ (∀ b, v.ownBlock = some b → hp b = none) ∧ (∀ b, w.heap.size ≤ b → hp b = none) := by
    rcases h with ⟨rfl, rfl, h0⟩ | ⟨g, cap, sp, rfl, h1, h2, h3, h4⟩
    · obtain ⟨hp, q, s⟩ := h0.heap
      refine ⟨hp, q, fun b o hbo => ?_, fun b hb => by simp [Value.ownBlock] at hb, fun b hb => ?_⟩
      · rw [hg.block b (Array.getElem?_eq_some_iff.1 (s b o hbo)).1 (by simp [Value.ownBlock])]; exact s b o hbo
      · cases hx : hp b with
        | none => rfl
        | some o => have := (Array.getElem?_eq_some_iff.1 (s b o hx)).1; omega
    · obtain ⟨hp, ⟨h1', h2', d, e, p, q⟩, s⟩ := h4.heap
      have hgn : h2' g = none := by
        rcases d g with x | x
        · have := p g; rw [x] at this; simp at this
        · exact x
      have hs2 : ∀ b o, h2' b = some o → w.heap[b]? = some o := fun b o hbo => s b o (by rw [e b]; rcases d b with x | x; rw [x, hbo]; rfl; rw [x] at hbo; cases hbo)
      refine ⟨h2', q, fun b o hbo => ?_, fun b hb => ?_, fun b hb => ?_⟩
      · rw [hg.block b (Array.getElem?_eq_some_iff.1 (hs2 b o hbo)).1 ?_]
        · exact hs2 b o hbo
        · intro e'
          simp [Value.ownBlock] at e'
          rw [e', hgn] at hbo; cases hbo
      · simp [Value.ownBlock] at hb; subst hb; exact hgn
      · cases hx : h2' b with
        | none => rfl
        | some o => have := (Array.getElem?_eq_some_iff.1 (hs2 b o hx)).1; omega
  have hos : w.os = c.os ∧ w.tape = c.tape ∧ w.output = c.output := by
    rcases h with ⟨_, _, h⟩ | ⟨_, _, _, _, _, _, _, h⟩
    · exact ⟨h.os, h.tape, h.output⟩
    · exact ⟨h.os, h.tape, h.output⟩
  obtain ⟨hp, q, s, hv, hn⟩ := key
  refine ⟨hg.os.trans hos.1, hg.tape.trans hos.2.1, hg.output.trans hos.2.2, ?_⟩
  rcases ho with ⟨rfl, rfl⟩ | ⟨g, cap, cur, rfl, _, hgg, h1, h2, h3, h4⟩
  · refine ⟨hp, ⟨fun _ => none, hp, fun b => .inl rfl, fun b => by simp, ⟨hl', .inl ⟨rfl, rfl, fun _ => rfl⟩⟩, q⟩, s⟩
  · have hgn : hp g = none := by
      rcases hb g rfl with x | x
      · exact hv g x
      · exact hn g x
    have hcur : cur.toList = ys ++ cur.toList.drop (n' * k) := by rw [← h4]; simp
    refine ⟨fun b => if b = g then some (.cells cur E (0, 0)) else hp b, ⟨fun b => if b = g then some (.cells cur E (0, 0)) else none, hp, fun b => ?_, fun b => ?_, ⟨hl', .inr ⟨g, cap, cur.toList.drop (n' * k), rfl, h1, h2, ?_, fun b => ?_⟩⟩, q⟩, fun b o hbo => ?_⟩
    · by_cases hbg : b = g
      · right; rw [hbg]; exact hgn
      · left; simp [hbg]
    · by_cases hbg : b = g <;> simp [hbg]
    · rw [← hcur]; simpa using h3
    · rw [← hcur]
    · by_cases hbg : b = g
      · subst hbg; simp at hbo; subst hbo; exact hgg
      · simp [hbg] at hbo; exact s b o hbo
end
/-- What append hands back lies where the slice lay, or in a new block. -/
theorem append_block {w w' : World} (t ty e : TypeId) (i : TypeInfo) (z : Value) (size bytes : Nat) (ht : Pg.underlying t = some (.slice e)) (hi : Pg.info? e = some i) (hz : i.zero = some z)
    (hsize : i.size = size) (hby : i.bytes = bytes) (hzs : z.cells.size = size) (hsz : 0 < size) (v v' : Value) (n : Nat) (xs : List Value) (hown : w.ownsRow 0 e size v n xs)
    (a : Addr) (m cp : Nat) (news : List Value) (hl : news.length = m * size) (hnews : ∀ j u, news[j]? = some u → w.cell? (a.add j) = some u) (h1 : ∀ u ∈ news, u.oneCell' = true)
    (h63 : n + m ≤ maxLen) (hbytes : (n + m) * bytes ≤ 140737488355328) (hr1 : (Builtin.append_ #[t, t] ty #[v, .slice (some a) m cp]).run Pg w = .ok v' w') (b : Nat) (hb : v'.ownBlock = some b) : v.ownBlock = some b ∨ w.heap.size ≤ b := by
  rcases hown.2 with ⟨rfl, rfl⟩ | ⟨g, cap, cur, rfl, hbg, hg, hnc, hcm, hcs, htake⟩
  · have hown' : w.ownsRow w.heap.size e size (.slice none 0 0) 0 xs := ⟨hown.1, .inl ⟨rfl, rfl⟩⟩
    obtain ⟨v2, w2, r1, r2, _, _⟩ := run_append_own (P := Pg) w w.heap.size t ty e i z size bytes ht hi hz hsize hby hzs hsz (.slice none 0 0) 0 xs hown' a m cp news hl hnews h1 h63 hbytes (Nat.le_refl _)
    rw [hr1] at r1
    injection r1 with e1 e2
    subst e1
    exact .inr (r2.lt b hb).1
  · subst hsize
    subst hby
    by_cases hroom : n + m ≤ cap
    · have hfit : n * i.size + news.length ≤ cur.size := by rw [hl, hcs, ← Nat.add_mul]; exact Nat.mul_le_mul_right _ hroom
      have hr := run_append_room (P := Pg) w t ty e i ht hi g n cap cur hg a m cp news hl hnews h1 hroom hfit
      rw [hr1] at hr
      injection hr with e1 e2
      subst e1
      exact .inl hb
    · have holds : ∀ j u, xs[j]? = some u → w.cell? ((⟨g, 0, none⟩ : Addr).add j) = some u := hown.cells (g := g) rfl
      have hsmall : n + m ≤ 9223372036854775807 := by simp only [maxLen] at h63; omega
      have hr := run_append_grow (P := Pg) w t ty e i z ht hi hz ⟨g, 0, none⟩ n cap xs hown.1 holds a m cp news hl hnews (by omega) (by omega) (growslice_fits (by omega) hbytes)
      rw [hr1] at hr
      injection hr with e1 e2
      subst e1
      simp [Value.ownBlock] at hb
      exact .inr (by omega)
theorem toArray_toList_cells (cs : Array Value) : cs.toList.toArray = cs := by simp

section
variable {c : World} {Q : Exit → Act → World → Prop} {n : Nat} {l : List (Nat × Value)} {H R : HProp} {ks : List Kn}
variable {q q1 q2 : Md} {all : Array Oper} {o : Oper} {rest : List Oper} {d : Nat} {v : Value}
/-- len of a text -/
theorem W.slen [hNL : NL q1 q2] {t : TypeId} {x : Operand} {s : Str} (hg : o.guard = none) (hd : o.dst = some d) (hn : Nat.blt d n = true) (ho : o.op = .call { callee := .builtin .len, args := #[x], argTypes := #[t] }) [ht : TD t .string]
    (hx : ev l x = some (str s)) (k : WS c Q n (.ops q2 all rest ks) ((d, .int .i64 s.length) :: l) H) : WS c Q n (.ops q1 all (o :: rest) ks) l H := by
  refine W.val hg hd hn (fun a w hf _ => ?_) k
  have hsz : (⟨s.toArray⟩ : ByteArray).size = s.length := by simp [ByteArray.size]
  simp [execOp, ho, resolve, hf.eval hx, invoke, builtin, Builtin.len_, run_underlying ht.eq, str, goInt, hsz]
/-- len of a slice -/
theorem W.len [hNL : NL q1 q2] {t e : TypeId} {x : Operand} {p : Option Addr} {m cp : Nat} (hg : o.guard = none) (hd : o.dst = some d) (hn : Nat.blt d n = true) (ho : o.op = .call { callee := .builtin .len, args := #[x], argTypes := #[t] }) [ht : TD t (.slice e)]
    (hx : ev l x = some (.slice p m cp)) (k : WS c Q n (.ops q2 all rest ks) ((d, .int .i64 m) :: l) H) : WS c Q n (.ops q1 all (o :: rest) ks) l H := by
  refine W.val hg hd hn (fun a w hf _ => ?_) k
  simp [execOp, ho, resolve, hf.eval hx, invoke, builtin, Builtin.len_, run_underlying ht.eq, goInt]
/-- a byte of a text -/
theorem W.sidx [hNL : NL q1 q2] {t : TypeId} {x y : Operand} {s : Str} {kd : IntKind} {i : Int} {u : UInt8} (hg : o.guard = none) (hd : o.dst = some d) (hn : Nat.blt d n = true) (ho : o.op = .index t x y) [ht : TD t .string]
    (hx : ev l x = some (str s)) (hy : ev l y = some (.int kd i)) (h0 : 0 ≤ i) (hu : s[i.toNat]? = some u) (k : WS c Q n (.ops q2 all rest ks) ((d, .int .u8 u.toNat) :: l) H) : WS c Q n (.ops q1 all (o :: rest) ks) l H := by
  refine W.val hg hd hn (fun a w hf _ => ?_) k
  obtain ⟨hi, he⟩ := List.getElem?_eq_some_iff.1 hu
  have hr := run_index_string (P := Pg) (w := w) t ⟨s.toArray⟩ kd i ht.eq
  have hsz : (⟨s.toArray⟩ : ByteArray).size = s.length := by simp [ByteArray.size]
  rw [dif_pos ⟨h0, by rw [hsz]; omega⟩] at hr
  have hb : (⟨s.toArray⟩ : ByteArray)[i.toNat]'(by rw [hsz]; omega) = u := by
    show s.toArray[i.toNat]'_ = u
    simpa using he
  rw [hb] at hr
  simp [execOp, ho, hf.eval hx, hf.eval hy, str, hr]
/-- two texts, one behind the other -/
theorem W.scat [hNL : NL q1 q2] {t t' : TypeId} {x y : Operand} {s u : Str} (hg : o.guard = none) (hd : o.dst = some d) (hn : Nat.blt d n = true) (ho : o.op = .binOp .add t x y t')
    (hx : ev l x = some (str s)) (hy : ev l y = some (str u)) (hl : s.length + u.length ≤ 9223372036854775807) (k : WS c Q n (.ops q2 all rest ks) ((d, str (s ++ u)) :: l) H) : WS c Q n (.ops q1 all (o :: rest) ks) l H := by
  refine W.val hg hd hn (fun a w hf _ => ?_) k
  have hsz : ∀ s : Str, (⟨s.toArray⟩ : ByteArray).size = s.length := fun s => by simp [ByteArray.size]
  have e : (⟨s.toArray⟩ ++ ⟨u.toArray⟩ : ByteArray) = ⟨(s ++ u).toArray⟩ := by
    apply ByteArray.ext
    simp
  have : ¬ ((((⟨s.toArray⟩ : ByteArray).size + (⟨u.toArray⟩ : ByteArray).size : Nat) : Int) > IntKind.i64.max) := by
    rw [hsz, hsz]; simp [IntKind.max, IntKind.bits]; omega
  simp only [execOp, ho, hf.eval hx, hf.eval hy, str, eqGuard, binOp, Op.stringOp]
  simp only [e, if_neg this]
  simp
theorem W.seq [hNL : NL q1 q2] {t t' : TypeId} {x y : Operand} {s u : Str} (hg : o.guard = none) (hd : o.dst = some d) (hn : Nat.blt d n = true) (ho : o.op = .binOp .eql t x y t')
    (hx : ev l x = some (str s)) (hy : ev l y = some (str u)) (k : WS c Q n (.ops q2 all rest ks) ((d, .bool (decide (s = u))) :: l) H) : WS c Q n (.ops q1 all (o :: rest) ks) l H := by
  refine W.val hg hd hn (fun a w hf _ => ?_) k
  simp only [execOp, ho, hf.eval hx, hf.eval hy, str, eqGuard, binOp, Op.stringOp]
  simp
  by_cases h : s = u <;> simp [h]
theorem W.sne [hNL : NL q1 q2] {t t' : TypeId} {x y : Operand} {s u : Str} (hg : o.guard = none) (hd : o.dst = some d) (hn : Nat.blt d n = true) (ho : o.op = .binOp .neq t x y t')
    (hx : ev l x = some (str s)) (hy : ev l y = some (str u)) (k : WS c Q n (.ops q2 all rest ks) ((d, .bool (decide (s ≠ u))) :: l) H) : WS c Q n (.ops q1 all (o :: rest) ks) l H := by
  refine W.val hg hd hn (fun a w hf _ => ?_) k
  simp only [execOp, ho, hf.eval hx, hf.eval hy, str, eqGuard, binOp, Op.stringOp]
  simp
  by_cases h : s = u <;> simp [h]
/-- s[i:j], s[i:], s[:j] -/
theorem W.ssub [hNL : NL q1 q2] {t : TypeId} {x y z : Operand} {s : Str} {k1 k2 : IntKind} {i j : Int} (hg : o.guard = none) (hd : o.dst = some d) (hn : Nat.blt d n = true) (ho : o.op = .slice t x (some y) (some z) none) [ht : TD t .string]
    (hx : ev l x = some (str s)) (hy : ev l y = some (.int k1 i)) (hz : ev l z = some (.int k2 j)) (h0 : 0 ≤ i) (h1 : i ≤ j) (h2 : j ≤ s.length)
    (k : WS c Q n (.ops q2 all rest ks) ((d, str ((s.drop i.toNat).take (j.toNat - i.toNat))) :: l) H) : WS c Q n (.ops q1 all (o :: rest) ks) l H := by
  refine W.val hg hd hn (fun a w hf _ => ?_) k
  have hr := run_slice_string (P := Pg) (w := w) t ⟨s.toArray⟩ k1 k2 i j ht.eq h0 h1 (by simpa [ByteArray.size] using h2)
  simp [execOp, ho, hf.eval hx, hf.eval hy, hf.eval hz, str, Instr.sliceAt, run_underlying ht.eq, hr, ByteArray.extract_mk]
theorem W.sfrom [hNL : NL q1 q2] {t : TypeId} {x y : Operand} {s : Str} {k1 : IntKind} {i : Int} (hg : o.guard = none) (hd : o.dst = some d) (hn : Nat.blt d n = true) (ho : o.op = .slice t x (some y) none none) [ht : TD t .string]
    (hx : ev l x = some (str s)) (hy : ev l y = some (.int k1 i)) (h0 : 0 ≤ i) (h1 : i ≤ s.length)
    (k : WS c Q n (.ops q2 all rest ks) ((d, str (s.drop i.toNat)) :: l) H) : WS c Q n (.ops q1 all (o :: rest) ks) l H := by
  refine W.val hg hd hn (fun a w hf _ => ?_) k
  have hr := run_slice_string_from_if (P := Pg) (w := w) t ⟨s.toArray⟩ k1 i ht.eq
  have hsz : (⟨s.toArray⟩ : ByteArray).size = s.length := by simp [ByteArray.size]
  rw [if_pos ⟨h0, by rw [hsz]; exact h1⟩] at hr
  simp only [execOp, ho, hf.eval hx, hf.eval hy, str, Instr.sliceAt, run_underlying ht.eq, Option.map_some, Option.map_none, Sem.run_bind, Result.andThen_ok, hr]
  rw [hsz, ByteArray.extract_mk, List.take_of_length_le (by simp)]
  simp
theorem W.sto [hNL : NL q1 q2] {t : TypeId} {x z : Operand} {s : Str} {k2 : IntKind} {j : Int} (hg : o.guard = none) (hd : o.dst = some d) (hn : Nat.blt d n = true) (ho : o.op = .slice t x none (some z) none) [ht : TD t .string]
    (hx : ev l x = some (str s)) (hz : ev l z = some (.int k2 j)) (h0 : 0 ≤ j) (h2 : j ≤ s.length)
    (k : WS c Q n (.ops q2 all rest ks) ((d, str (s.take j.toNat)) :: l) H) : WS c Q n (.ops q1 all (o :: rest) ks) l H := by
  refine W.val hg hd hn (fun a w hf _ => ?_) k
  have hr := run_slice_string_to_if (P := Pg) (w := w) t ⟨s.toArray⟩ k2 j ht.eq
  rw [if_pos ⟨h0, by simpa [ByteArray.size] using h2⟩] at hr
  simp only [execOp, ho, hf.eval hx, hf.eval hz, str, Instr.sliceAt, run_underlying ht.eq, Option.map_some, Option.map_none, Sem.run_bind, Result.andThen_ok, hr]
  rw [ByteArray.extract_mk]
  simp
/-- []byte(s) -/
theorem W.s2b [NX q1 q2] {s t : TypeId} {e : TypeId} {x : Operand} {u : Str} (hg : o.guard = none) (hd : o.dst = some d) (hn : Nat.blt d n = true) (ho : o.op = .convert s t x) [hs : TD s .string] [ht : TD t (.slice e)] [he : TD e (.int .u8)]
    (hx : ev l x = some (str u)) (k : ∀ b m sp, WS c Q n (.ops q2 all rest ks) ((d, .slice (some ⟨b, 0, none⟩) u.length m) :: l) (rowb b e (u.map u8 ++ sp) • H)) : WS c Q n (.ops q1 all (o :: rest) ks) l H := by
  refine W.valw (σ := Nat × Nat × List Value) (val := fun p => .slice (some ⟨p.1, 0, none⟩) u.length p.2.1) (K := fun p => rowb p.1 e (u.map u8 ++ p.2.2) • H) hg hd hn (fun a w hf hs' => ?_) (fun p => k p.1 p.2.1 p.2.2)
  have hr := run_bytes_of_string (P := Pg) w s t e ⟨u.toArray⟩ hs.eq ht.eq he.eq
  have hsz : (⟨u.toArray⟩ : ByteArray).size = u.length := by simp [ByteArray.size]
  refine ⟨(w.heap.size, grownCap w u.length 0 e, List.replicate (grownCap w u.length 0 e - u.length) (Value.int .u8 0)), w.drew.alloc (.cells (bytesRow ⟨u.toArray⟩ (grownCap w u.length 0 e)) e ((bytesRow ⟨u.toArray⟩ (grownCap w u.length 0 e)).size, (bytesRow ⟨u.toArray⟩ (grownCap w u.length 0 e)).size + 1)), ?_, ?_⟩
  · rw [hsz] at hr
    simp only [execOp, ho, hf.eval hx, str, Sem.run_bind, hr, Result.andThen_ok]
    rfl
  · have h2 := (SL.drew hs').alloc (.cells (bytesRow ⟨u.toArray⟩ (grownCap w u.length 0 e)) e ((bytesRow ⟨u.toArray⟩ (grownCap w u.length 0 e)).size, (bytesRow ⟨u.toArray⟩ (grownCap w u.length 0 e)).size + 1))
    have hb : bytesRow ⟨u.toArray⟩ (grownCap w u.length 0 e) = (u.map u8 ++ List.replicate (grownCap w u.length 0 e - u.length) (Value.int .u8 0)).toArray := by
      simp only [bytesRow, hsz]
      simp
    rw [hb] at h2
    rw [hb]
    generalize List.map u8 u ++ List.replicate (grownCap w (List.length u) 0 e - List.length u) (Value.int .u8 0) = cs at h2
    refine h2.imp (Imp.sep (Imp.exi (cs.toArray.size, cs.toArray.size + 1) ?_) (Imp.refl _))
    rw [pr_true, emp_sep]
    · exact Imp.refl _
    · simp
/-- string(b) of a row's first cells -/
theorem W.b2s [hNL : NL q1 q2] {s t : TypeId} {e E : TypeId} {x : Operand} {b m : Nat} {u : Str} {sp : List Value} (hg : o.guard = none) (hd : o.dst = some d) (hn : Nat.blt d n = true) (ho : o.op = .convert s t x) [hs : TD s (.slice e)] [ht : TD t .string] [he : TD e (.int .u8)]
    (hx : ev l x = some (.slice (some ⟨b, 0, none⟩) u.length m)) [hr : Rw H b E (u.map u8 ++ sp) R] (k : WS c Q n (.ops q2 all rest ks) ((d, str u) :: l) H) : WS c Q n (.ops q1 all (o :: rest) ks) l H := by
  refine W.val hg hd hn (fun a w hf hs' => ?_) k
  rw [hr.eq] at hs'
  have h2 := run_convert_bytes_back (P := Pg) w s t e ⟨b, 0, none⟩ m u hs.eq he.eq ht.eq (fun j hj => by
    rw [add_none, hs'.rcell, Nat.zero_add, List.getElem?_append_left (by simpa using hj)]
    simp [hj, u8])
  simp [execOp, ho, hf.eval hx, h2, str]
theorem W.b2sb [hNL : NL q1 q2] {s t : TypeId} {e E : TypeId} {x : Operand} {b m : Nat} {u : Str} {sp : List Value} (hg : o.guard = none) (hd : o.dst = some d) (hn : Nat.blt d n = true) (ho : o.op = .convert s t x) [hs : TD s (.slice e)] [ht : TD t .string] [he : TD e (.int .u8)]
    (hx : ev l x = some (.slice (some ⟨b, 0, none⟩) u.length m)) [hr : Rwb H b E (u.map u8 ++ sp) R] (k : WS c Q n (.ops q2 all rest ks) ((d, str u) :: l) H) : WS c Q n (.ops q1 all (o :: rest) ks) l H := by
  refine W.val hg hd hn (fun a w hf hs' => ?_) k
  rw [hr.eq] at hs'
  have h2 := run_convert_bytes_back (P := Pg) w s t e ⟨b, 0, none⟩ m u hs.eq he.eq ht.eq (fun j hj => by
    rw [add_none, hs'.bcell, Nat.zero_add, List.getElem?_append_left (by simpa using hj)]
    simp [hj, u8])
  simp [execOp, ho, hf.eval hx, h2, str]
theorem W.ldb [hNL : NL q1 q2] {t : TypeId} {x : Operand} {z : Value} {b i : Nat} {E : TypeId} {cs : List Value} (hg : o.guard = none) (hd : o.dst = some d) (hn : Nat.blt d n = true) (ho : o.op = .load t x) [ti : TI t z 1 false]
    (hx : ev l x = some (.pointer (some ⟨b, i, none⟩))) [hr : Rwb H b E cs R] (hv : cs[i]? = some v) (k : WS c Q n (.ops q2 all rest ks) ((d, v) :: l) H) : WS c Q n (.ops q1 all (o :: rest) ks) l H := by
  refine W.val hg hd hn (fun a w hf hs => ?_) k
  rw [hr.eq] at hs
  simp [execOp, ho, hf.eval hx, Instr.loadAt, Instr.sureAddr, loadVar, ti.agg, hs.bcell, hv]
theorem W.stb [NX q1 q2] {t : TypeId} {x y : Operand} {z : Value} {a' : Bool} {b i : Nat} {E : TypeId} {cs : List Value} (hg : o.guard = none) (hd : o.dst = none) (ho : o.op = .store t x y) [ti : TI t z 1 a']
    (hx : ev l x = some (.pointer (some ⟨b, i, none⟩))) (hy : ev l y = some v) [h1 : One v] [hr : Rwb H b E cs R] (hv : i < cs.length) (k : WS c Q n (.ops q2 all rest ks) l (rowb b E (cs.set i v) • R)) : WS c Q n (.ops q1 all (o :: rest) ks) l H := by
  refine W.unit hg hd (fun a w hf hs => ?_) k
  rw [hr.eq] at hs
  have h2 := run_store Pg w ⟨b, i, none⟩ v .plain h1.one
  rw [hs.bcell, List.getElem?_eq_getElem hv] at h2
  simp only [hs.bfrozen i hv, Bool.false_eq_true, if_false] at h2
  refine ⟨_, ?_, hs.bset i v⟩
  simp [execOp, ho, hf.eval hx, hf.eval hy, Instr.storeAt, Instr.sureAddr, storeVar, h1.cells, ti.size, storeCells, add_none, h2]
/-- &xs[i] -/
theorem W.idx [hNL : NL q1 q2] {t e : TypeId} {x y : Operand} {z : Value} {s : Nat} {ag : Bool} {b off m cp : Nat} {kd : IntKind} {i : Int} (hg : o.guard = none) (hd : o.dst = some d) (hn : Nat.blt d n = true) (ho : o.op = .indexAddr t x y) [ht : TD t (.slice e)] [ti : TI e z s ag]
    (hx : ev l x = some (.slice (some ⟨b, off, none⟩) m cp)) (hy : ev l y = some (.int kd i)) (h0 : 0 ≤ i) (h1 : i < m)
    (k : WS c Q n (.ops q2 all rest ks) ((d, .pointer (some ⟨b, off + i.toNat * s, none⟩)) :: l) H) : WS c Q n (.ops q1 all (o :: rest) ks) l H := by
  refine W.val hg hd hn (fun a w hf _ => ?_) k
  simp [execOp, ho, hf.eval hx, hf.eval hy, Instr.indexAt, run_underlying ht.eq, asIntOf, h0, h1, ti.size, add_none]
/-- make([]T, m) -/
theorem W.mks [NX q1 q2] {t e : TypeId} {x : Operand} {z : Value} {i : TypeInfo} {m by' : Nat} (hg : o.guard = none) (hd : o.dst = some d) (hn : Nat.blt d n = true) (ho : o.op = .makeSlice t x x) [ht : TD t (.slice e)] [tb : TB e i z 1 by']
    (hcl : z.cells = #[z]) (hx : ev l x = some (.int .i64 m)) (h1 : m * by' ≤ 281474976710656) (h2 : m ≤ 9223372036854775807)
    (k : ∀ b, WS c Q n (.ops q2 all rest ks) ((d, .slice (some ⟨b, 0, none⟩) m m) :: l) (row b e (List.replicate m z) • H)) : WS c Q n (.ops q1 all (o :: rest) ks) l H := by
  refine W.valw (val := fun b => .slice (some ⟨b, 0, none⟩) m m) (K := fun b => row b e (List.replicate m z) • H) hg hd hn (fun a w hf hs' => ?_) k
  have h3 : ((m * by' : Nat) : Int) ≤ ((281474976710656 : Nat) : Int) := Int.ofNat_le.2 h1
  rw [Int.natCast_mul] at h3
  have hr := run_make (P := Pg) w t e i z ht.eq tb.eq tb.zero .i64 .i64 m m (by omega) (Int.le_refl _) (by rw [tb.bytes, Int.mul_comm]; exact h3) (by omega)
  have hm : madeCells z.cells ((m : Int).toNat * i.size) = (List.replicate m z).toArray := by
    rw [hcl, tb.size, Nat.mul_one, Int.toNat_natCast]
    simp [madeCells]
    apply Array.ext
    · simp
    · intro j h1 h2; simp [Nat.mod_one]
  rw [hm, Int.toNat_natCast] at hr
  refine ⟨w.heap.size, _, ?_, hs'.ralloc e (List.replicate m z).toArray⟩
  simp [execOp, ho, hf.eval hx, hr]
/-- append of a row's elements to a slice of one's own -/
theorem W.app [NX q1 q2] {t e : TypeId} {x y : Operand} {z : Value} {i : TypeInfo} {kk by' : Nat} {v : Value} {g m cp n' : Nat} {E : TypeId} {xs news : List Value} {H2 : HProp}
    (hg : o.guard = none) (hd : o.dst = some d) (hn : Nat.blt d n = true) (ho : o.op = .call { callee := .builtin .append, args := #[x, y], argTypes := #[t, t] }) [ht : TD t (.slice e)] [tb : TB e i z kk by']
    (hcl : z.cells.size = kk) (hk : Nat.blt 0 kk = true) (hx : ev l x = some v) (hy : ev l y = some (.slice (some ⟨g, 0, none⟩) m cp))
    [hp : Pick H (slck kk e v n' xs) R] [hr : Rw R g E news H2] (hl : news.length = m * kk) [h1 : Ones news] (h2 : (n' + m) * by' ≤ 140737488355328) (h3 : n' + m ≤ 9223372036854775807)
    (k : ∀ v', One v' → WS c Q n (.ops q2 all rest ks) ((d, v') :: l) (slck kk e v' (n' + m) (xs ++ news) • R)) : WS c Q n (.ops q1 all (o :: rest) ks) l H := by
  refine W.valw (σ := { v' : Value // One v' }) (val := fun v' => v'.1) (K := fun v' => slck kk e v'.1 (n' + m) (xs ++ news) • R) hg hd hn (fun a w hf hs' => ?_) (fun v' => k v'.1 v'.2)
  have hk : 0 < kk := Nat.le_of_ble_eq_true hk
  have h3 : n' + m ≤ maxLen := by simpa [maxLen] using h3
  rw [hp.eq] at hs'
  have hs2 := hs'
  rw [sep_comm', hr.eq, sep_assoc'] at hs2
  have hnews : ∀ (j : Nat) (u : Value), news[j]? = some u → w.cell? ((⟨g, 0, none⟩ : Addr).add j) = some u := fun j u hu => by
    rw [add_none, hs2.rcell, Nat.zero_add]; exact hu
  obtain ⟨v', w', r1, r2, r3, r4⟩ := run_append_own (P := Pg) w 0 t o.type e i z kk by' ht.eq tb.eq tb.zero tb.size tb.bytes hcl hk v n' xs hs'.owns ⟨g, 0, none⟩ m cp news hl hnews h1.one h3 h2 (Nat.zero_le _)
  have h1' : One v' := by
    rcases r2.2 with h | ⟨g', cap', cs', h, _⟩
    · rw [h.1]; infer_instance
    · rw [h]; infer_instance
  refine ⟨⟨v', h1'⟩, w', ?_, hs'.grown r2 r3 ?_⟩
  · simp [execOp, ho, resolve, hf.eval hx, hf.eval hy, invoke, builtin, r1]
  · exact append_block t o.type e i z kk by' ht.eq tb.eq tb.zero tb.size tb.bytes hcl hk v v' n' xs hs'.owns ⟨g, 0, none⟩ m cp news hl hnews h1.one h3 h2 r1
end
end Go.Proofs.YtbdhhedfplkidaaGreat
/- More of the walk's rules: slices built and cut, copy, min and max, quiet calls. -/
namespace Go.Proofs.YtbdhhedfplkidaaGreat
open Go
open M (Str)
/-- What the parts of a literal are: number k on. -/
def EvP (l : List (Nat × Value)) : Nat → List (Nat × Operand) → List Value → Prop
  | _, [], [] => True
  | k, (i, x) :: r, v :: vs => i = k ∧ ev l x = some v ∧ EvP l (k + 1) r vs
  | _, _, _ => False
theorem EvP.eval {a : Act} {n : Nat} {l : List (Nat × Value)} (hf : Fr a n l) : ∀ {k : Nat} {ps : List (Nat × Operand)} {vs : List Value}, EvP l k ps vs → ps.map (fun p => (p.1, a.eval p.2)) = (vs.zipIdx k).map fun x => (x.2, x.1)
  | _, [], [], _ => rfl
  | k, (i, x) :: r, v :: vs, h => by
    obtain ⟨rfl, h1, h2⟩ := h
    simp only [List.map_cons, List.zipIdx_cons, hf.eval h1, EvP.eval hf h2]
  | _, [], _ :: _, h => h.elim
  | _, _ :: _, [], h => h.elim
theorem one_cells (v : Value) (h : v.oneCell' = true) : v.cells = #[v] := by
  cases v <;> first | rfl | (simp [Value.oneCell'] at h)
section
variable {c : World} {Q : Exit → Act → World → Prop} {n : Nat} {l : List (Nat × Value)} {H R : HProp} {ks : List Kn}
variable {q q1 q2 : Md} {all : Array Oper} {o : Oper} {rest : List Oper} {d : Nat} {v : Value}
/-- []T{x, y, ..}, each of one cell -/
theorem W.bsl [NX q1 q2] {t e : TypeId} {i : TypeInfo} {z : Value} {by' m : Nat} {ps : Array (Nat × Operand)} {vs : List Value} (hg : o.guard = none) (hd : o.dst = some d) (hn : Nat.blt d n = true) (ho : o.op = .buildSlice t m ps) [ht : TD t (.slice e)] [tb : TB e i z 1 by']
    (hp : EvP l 0 ps.toList vs) (hm : vs.length = m) (hm2 : Nat.ble m 1000 = true) (hm3 : Nat.ble 1 m = true) [h1 : Ones vs]
    (k : ∀ b, WS c Q n (.ops q2 all rest ks) ((d, .slice (some ⟨b, 0, none⟩) m m) :: l) (row b e vs • H)) : WS c Q n (.ops q1 all (o :: rest) ks) l H := by
  have hm2 := Nat.le_of_ble_eq_true hm2
  have hm3 := Nat.le_of_ble_eq_true hm3
  refine W.valw (val := fun b => .slice (some ⟨b, 0, none⟩) m m) (K := fun b => row b e vs • H) hg hd hn (fun a w hf hs' => ?_) k
  refine ⟨w.heap.size, w.alloc (.cells vs.toArray e), ?_, hs'.ralloc e vs.toArray⟩
  have hps : (ps.map fun p => (p.1, a.eval p.2)).toList = (vs.zipIdx 0).map fun x => (x.2, x.1) := by
    rw [Array.toList_map]; exact hp.eval hf
  have hr := run_buildSlice (P := Pg) w t e m (ps.map fun p => (p.1, a.eval p.2)) vs.toArray i z ht.eq tb.eq tb.zero (by rw [tb.size]; omega) (by rw [tb.size]; omega) (by
    rw [hps, tb.size]
    exact Great.fill_flat _ _ (fun v hv => one_cells v (h1.one v hv)) (by simp [hm]))
  simp only [execOp, ho, Sem.run_bind, hr, Result.andThen_ok]
  rfl
/-- copy of a text into a row -/
theorem W.cpys [NX q1 q2] {t t' e : TypeId} {x y : Operand} {z : Value} {ag : Bool} {b off m cp : Nat} {E : TypeId} {cs : List Value} {u : Str} (hg : o.guard = none) (hd : o.dst = some d) (hn : Nat.blt d n = true) (ho : o.op = .call { callee := .builtin .copy, args := #[x, y], argTypes := #[t, t'] })
    [ht : TD t (.slice e)] [ti : TI e z 1 ag] (hx : ev l x = some (.slice (some ⟨b, off, none⟩) m cp)) (hy : ev l y = some (str u)) [hr : Rw H b E cs R] (hu : u.length ≤ m) (hc : off + u.length ≤ cs.length)
    (k : WS c Q n (.ops q2 all rest ks) ((d, .int .i64 u.length) :: l) (row b E (setAll cs off (u.map u8)) • R)) : WS c Q n (.ops q1 all (o :: rest) ks) l H := by
  refine W.valw (σ := Unit) (val := fun _ => .int .i64 u.length) (K := fun _ => row b E (setAll cs off (u.map u8)) • R) hg hd hn (fun a w hf hs' => ?_) (fun _ => k)
  rw [hr.eq] at hs'
  obtain ⟨w', h2, h3⟩ := SL.storeCells (u.map u8) cs off 0 w hs' (by simpa using hc) (fun v hv => by obtain ⟨x, _, rfl⟩ := List.mem_map.1 hv; rfl)
  refine ⟨(), w', ?_, h3⟩
  have hsz : (⟨u.toArray⟩ : ByteArray).size = u.length := by simp [ByteArray.size]
  have hmin : Nat.min u.length m = u.length := Nat.min_eq_left hu
  have hex : ((⟨u.toArray⟩ : ByteArray).extract 0 u.length).data.map (fun b => Value.int .u8 b.toNat) = (u.map u8).toArray := by
    rw [ByteArray.extract_mk]; simp
  have hrun : (Builtin.copy_ #[t, t'] o.type #[.slice (some ⟨b, off, none⟩) m cp, str u]).run Pg w = .ok (.int .i64 u.length) w' := by
    simp only [Builtin.copy_, List.getElem?_toArray, List.getElem?_cons_zero, List.getElem?_cons_succ, run_underlying ht.eq, Sem.run_bind, Result.andThen_ok, str, Builtin.lenOf, Sem.run_pure, hsz, hmin, ti.size, Builtin.firstCells, hex, h2, goInt]
  simp [execOp, ho, resolve, hf.eval hx, hf.eval hy, invoke, builtin, hrun]
/-- xs[i:] -/
theorem W.slf [hNL : NL q1 q2] {t e : TypeId} {x y : Operand} {z : Value} {s : Nat} {ag : Bool} {b off m cp : Nat} {kd : IntKind} {i : Int} (hg : o.guard = none) (hd : o.dst = some d) (hn : Nat.blt d n = true) (ho : o.op = .slice t x (some y) none none) [ht : TD t (.slice e)] [ti : TI e z s ag]
    (hx : ev l x = some (.slice (some ⟨b, off, none⟩) m cp)) (hy : ev l y = some (.int kd i)) (h0 : 0 ≤ i) (h1 : i ≤ m) (h2 : i < cp)
    (k : WS c Q n (.ops q2 all rest ks) ((d, .slice (some ⟨b, off + i.toNat * s, none⟩) (m - i.toNat) (cp - i.toNat)) :: l) H) : WS c Q n (.ops q1 all (o :: rest) ks) l H := by
  refine W.val hg hd hn (fun a w hf _ => ?_) k
  have hne : cp ≠ i.toNat := by omega
  simp [execOp, ho, hf.eval hx, hf.eval hy, Instr.sliceAt, Instr.slice, run_underlying ht.eq, Instr.sliceBounds, Instr.sliceBound, asIntOf, h0, h1, ti.size, hne, add_none]
/-- xs[:j] -/
theorem W.slt [hNL : NL q1 q2] {t e : TypeId} {x y : Operand} {z : Value} {s : Nat} {ag : Bool} {b off m cp : Nat} {kd : IntKind} {i : Int} (hg : o.guard = none) (hd : o.dst = some d) (hn : Nat.blt d n = true) (ho : o.op = .slice t x none (some y) none) [ht : TD t (.slice e)] [ti : TI e z s ag]
    (hx : ev l x = some (.slice (some ⟨b, off, none⟩) m cp)) (hy : ev l y = some (.int kd i)) (h0 : 0 ≤ i) (h1 : i ≤ cp)
    (k : WS c Q n (.ops q2 all rest ks) ((d, .slice (some ⟨b, off, none⟩) i.toNat cp) :: l) H) : WS c Q n (.ops q1 all (o :: rest) ks) l H := by
  refine W.val hg hd hn (fun a w hf _ => ?_) k
  by_cases hc : cp = 0
  · subst hc
    obtain rfl : i = 0 := by omega
    simp [execOp, ho, hf.eval hx, hf.eval hy, Instr.sliceAt, Instr.slice, run_underlying ht.eq, Instr.sliceBounds, Instr.sliceBound, asIntOf, ti.size]
  · simp [execOp, ho, hf.eval hx, hf.eval hy, Instr.sliceAt, Instr.slice, run_underlying ht.eq, Instr.sliceBounds, Instr.sliceBound, asIntOf, h0, h1, ti.size, hc, add_none]
/-- min(x, y) of numbers -/
theorem W.mn [hNL : NL q1 q2] {ts : Array TypeId} {x y : Operand} {kd k2 : IntKind} {i j : Int} (hg : o.guard = none) (hd : o.dst = some d) (hn : Nat.blt d n = true) (ho : o.op = .call { callee := .builtin .min, args := #[x, y], argTypes := ts })
    (hx : ev l x = some (.int kd i)) (hy : ev l y = some (.int k2 j)) (k : WS c Q n (.ops q2 all rest ks) ((d, .int kd (if j < i then j else i)) :: l) H) : WS c Q n (.ops q1 all (o :: rest) ks) l H := by
  refine W.val hg hd hn (fun a w hf _ => ?_) k
  simp [execOp, ho, resolve, hf.eval hx, hf.eval hy, invoke, builtin, Builtin.min_, Builtin.min2]
theorem W.mx [hNL : NL q1 q2] {ts : Array TypeId} {x y : Operand} {kd k2 : IntKind} {i j : Int} (hg : o.guard = none) (hd : o.dst = some d) (hn : Nat.blt d n = true) (ho : o.op = .call { callee := .builtin .max, args := #[x, y], argTypes := ts })
    (hx : ev l x = some (.int kd i)) (hy : ev l y = some (.int k2 j)) (k : WS c Q n (.ops q2 all rest ks) ((d, .int kd (if i < j then j else i)) :: l) H) : WS c Q n (.ops q1 all (o :: rest) ks) l H := by
  refine W.val hg hd hn (fun a w hf _ => ?_) k
  simp [execOp, ho, resolve, hf.eval hx, hf.eval hy, invoke, builtin, Builtin.max_, Builtin.max2]
/-- A call, in a region of whatever order, whose contract gives one value and the same assertion. -/
theorem W.qcall {f : FuncId} {args : List Operand} {vs : List Value} {ts : Array TypeId} {A : HProp} (h : CS f vs A fun v' H' => v' = v ∧ H' = A)
    (hg : o.guard = none) (hd : o.dst = some d) (hn : Nat.blt d n = true) (ho : o.op = .call { callee := .value (.func f), args := args.toArray, argTypes := ts })
    (hc : ∀ (args : Array Value) (w : World), (callFunc f args).run Pg w = .ok (.enter f args) w) (hx : EvL l args vs) [ht : Take H A R]
    (k : WS c Q n (.ops .quiet all rest ks) ((d, v) :: l) H) : WS c Q n (.ops .quiet all (o :: rest) ks) l H := by
  refine W.quietCall (f := f) (vs := vs) hg hd hn (fun a w hf hs => ⟨?_, ?_⟩) k
  · simp only [execOp, ho, resolve, Sem.run_bind, Act.eval, Deferred.ofValue, Sem.run_pure, Result.andThen_ok, invoke]
    rw [List.map_toArray, hf.evalL hx]
    simp [hc]
  · rw [ht.eq] at hs ⊢
    refine (h c R w hs).mono ?_
    rintro e w' ⟨v, H', ⟨rfl, rfl⟩, rfl, hs'⟩
    exact ⟨rfl, hs'⟩
/-- A call of a function that neither reads nor writes memory of the caller's. -/
theorem W.fcall [hNL : NQ q] {f : FuncId} {args : List Operand} {vs : List Value} {ts : Array TypeId} (h : CS f vs emp fun v' H' => v' = v ∧ H' = emp)
    (hg : o.guard = none) (hd : o.dst = some d) (hn : Nat.blt d n = true) (ho : o.op = .call { callee := .value (.func f), args := args.toArray, argTypes := ts })
    (hc : ∀ (args : Array Value) (w : World), (callFunc f args).run Pg w = .ok (.enter f args) w) (hx : EvL l args vs)
    (k : WS c Q n (.ops q all rest ks) ((d, v) :: l) H) : WS c Q n (.ops q all (o :: rest) ks) l H := by
  rcases hNL.p with rfl | rfl
  · refine W.call h hg hd hn ho hc hx ?_
    rintro _ _ ⟨rfl, rfl⟩
    rw [emp_sep]; exact k
  · exact W.qcall h hg hd hn ho hc hx k
end
theorem setAll_eq : ∀ (vs cs : List Value) (o : Nat), o + vs.length ≤ cs.length → setAll cs o vs = cs.take o ++ vs ++ cs.drop (o + vs.length)
  | [], cs, o, _ => by simp [setAll]
  | v :: vs, cs, o, h => by
    simp only [List.length_cons] at h
    rw [setAll, setAll_eq vs (cs.set o v) (o + 1) (by simp; omega)]
    rw [List.take_succ_eq_append_getElem (by simp; omega), List.drop_set_of_lt (by omega)]
    simp [List.take_set_of_le]
    omega
end Go.Proofs.YtbdhhedfplkidaaGreat
