/- The plain model of the given program's store: what each function of the layers num, page, disk, bits, shadow, node, tree and txn computes, as Lean functions over lists and numbers. No Go, no memory. -/
namespace Go.Proofs.YtbdhhedfplkidaaGreat.M

abbrev Str := List UInt8

/-! num -/
def be : Nat → Nat → Str
  | 0, _ => []
  | s + 1, n => be s (n / 256) ++ [UInt8.ofNat (n % 256)]
def fromBe (l : Str) : Nat := l.foldl (fun n b => n * 256 + b.toNat) 0

/-! page -/
def sumStep (p : Nat × Nat) (c : UInt8) : Nat × Nat := ((p.1 + c.toNat) % 65521, (p.2 + (p.1 + c.toNat) % 65521) % 65521)
def sum (s : Str) : Nat := let p := s.foldl sumStep (1, 0); p.2 * 65536 + p.1
def sealBody (kind : Int) (text : Str) : Str := [UInt8.ofNat kind.toNat, UInt8.ofNat text.length] ++ text ++ List.replicate (250 - text.length) 0
def sealP (kind : Int) (text : Str) : Str × Int :=
  if kind < 1 ∨ kind > 15 ∨ text.length > 240 then ([], 1) else (sealBody kind text ++ be 4 (sum (sealBody kind text)), 0)
def opens (b : Str) : Int × Str × Int :=
  if b.length ≠ 256 then (0, [], 2) else
  if sum (b.take 252) ≠ fromBe (b.drop 252) then (0, [], 15) else
  let size := min (b.getD 1 0).toNat 250
  let text := (b.drop 2).take size
  let r := sealP (b.getD 0 0).toNat text
  if r.2 = 0 ∧ r.1 = b then ((b.getD 0 0).toNat, text, 0) else (0, [], 2)

/-! disk -/
structure Disk where
  now : List Str
  was : List (Int × Str)
  order : List Int
  fuse : Int
  gone : Bool
def Disk.read (d : Disk) (n : Int) : Str × Int :=
  if d.gone then ([], 5) else if n < 0 ∨ n ≥ d.now.length then ([], 1) else (d.now.getD n.toNat [], 0)
def Disk.write (d : Disk) (n : Int) (s : Str) : Disk × Int :=
  if d.gone then (d, 5) else if n < 0 ∨ n ≥ d.now.length then (d, 1) else
  if s.length ≠ 256 then (d, 1) else
  if d.fuse = 0 then ({ d with gone := true }, 5) else
  let d := { d with fuse := max (-1) (d.fuse - 1) }
  let d := if (d.was.lookup n).isSome then d else { d with was := d.was ++ [(n, d.now.getD n.toNat [])], order := d.order ++ [n] }
  ({ d with now := d.now.set n.toNat s }, 0)
def Disk.sync (d : Disk) : Disk × Int := if d.gone then (d, 5) else ({ d with was := [], order := [] }, 0)

structure DiskOk (d : Disk) : Prop where
  least : 8 ≤ d.now.length
  most : d.now.length ≤ 640
  full : ∀ s ∈ d.now, s.length = 256
  fuse0 : -1 ≤ d.fuse
  fuse1 : d.fuse < 9223372036854775808
  keys : d.was.map (·.1) = d.order
  nodup : d.order.Nodup
  range : ∀ x ∈ d.order, 0 ≤ x ∧ x < d.now.length
theorem nodup_lt : ∀ (n : Nat) (l : List Int), l.Nodup → (∀ x ∈ l, 0 ≤ x ∧ x < n) → l.length ≤ n
  | 0, l, _, h => by
    cases l with
    | nil => simp
    | cons x l => have := h x (by simp); omega
  | n + 1, l, hn, h => by
    have h1 := nodup_lt n (l.filter (· ≠ (n : Int))) (hn.filter _) (fun x hx => by
      have h2 := List.mem_filter.1 hx
      have h3 := h x h2.1
      have h4 : x ≠ (n : Int) := by simpa using h2.2
      omega)
    have h2 : ∀ l : List Int, l.Nodup → l.length ≤ (l.filter (· ≠ (n : Int))).length + 1 := by
      intro l
      induction l with
      | nil => simp
      | cons x l ih =>
        intro hn
        have hx := List.nodup_cons.1 hn
        by_cases hxn : x = (n : Int)
        · have he : l.filter (· ≠ (n : Int)) = l := List.filter_eq_self.2 fun y hy => by
            simp only [ne_eq, decide_not, Bool.not_eq_eq_eq_not, Bool.not_true, decide_eq_false_iff_not]
            rintro rfl
            exact hx.1 (hxn ▸ hy)
          rw [List.filter_cons_of_neg (by simp [hxn]), he]; simp
        · rw [List.filter_cons_of_pos (by simp [hxn])]
          have := ih hx.2
          simp only [List.length_cons]; omega
    have h2 := h2 l hn
    omega
theorem DiskOk.order_le {d : Disk} (h : DiskOk d) : d.order.length ≤ 640 := Nat.le_trans (nodup_lt _ _ h.nodup h.range) h.most
theorem lookup_none {n : Int} : ∀ {was : List (Int × Str)}, (was.lookup n).isSome = false → n ∉ was.map (·.1)
  | [], _, hm => by cases hm
  | q :: was, h, hm => by
    rw [List.lookup] at h
    cases hq : (n == q.1) with
    | true => rw [hq] at h; cases h
    | false =>
      rw [hq] at h
      rcases List.mem_cons.1 hm with hm | hm
      · simp [hm] at hq
      · exact lookup_none h hm
theorem write_ok {d : Disk} (h : DiskOk d) (n : Int) (s : Str) : DiskOk (d.write n s).1 := by
  unfold Disk.write
  by_cases hg : d.gone = true
  · rw [if_pos hg]; exact h
  rw [if_neg hg]
  by_cases hn : n < 0 ∨ n ≥ d.now.length
  · rw [if_pos hn]; exact h
  rw [if_neg hn]
  by_cases hs : s.length ≠ 256
  · rw [if_pos hs]; exact h
  rw [if_neg hs]
  by_cases hf : d.fuse = 0
  · rw [if_pos hf]; exact ⟨h.least, h.most, h.full, h.fuse0, h.fuse1, h.keys, h.nodup, h.range⟩
  rw [if_neg hf]
  have f0 := h.fuse0
  have f1 := h.fuse1
  have hfull : ∀ x ∈ d.now.set n.toNat s, x.length = 256 := fun x hx => by
    rcases List.mem_or_eq_of_mem_set hx with hx | rfl
    · exact h.full x hx
    · simpa using hs
  dsimp only
  cases hw : (d.was.lookup n).isSome with
  | true => exact ⟨by simpa using h.least, by simpa using h.most, hfull, by simp; omega, by simp; omega, h.keys, h.nodup, by simpa using h.range⟩
  | false =>
    refine ⟨by simpa using h.least, by simpa using h.most, hfull, by simp; omega, by simp; omega, by simp [h.keys], ?_, ?_⟩
    · have := lookup_none hw
      rw [h.keys] at this
      simp only [Bool.false_eq_true, if_false]
      exact List.nodup_append.2 ⟨h.nodup, by simp, fun a ha b hb => by simp at hb; subst hb; rintro rfl; exact this ha⟩
    · simp only [Bool.false_eq_true, if_false, List.length_set]
      intro x hx
      rcases List.mem_append.1 hx with hx | hx
      · exact h.range x hx
      · simp at hx; subst hx; omega
theorem sync_ok {d : Disk} (h : DiskOk d) : DiskOk d.sync.1 := by
  unfold Disk.sync
  split
  · exact h
  · exact ⟨h.least, h.most, h.full, h.fuse0, h.fuse1, rfl, by simp, by simp⟩

/-! page on a disk -/
def pageWrite (d : Disk) (n kind : Int) (text : Str) : Disk × Int :=
  let r := sealP kind text
  if r.2 ≠ 0 then (d, r.2) else d.write n r.1
def pageRead (d : Disk) (n : Int) : Int × Str × Int :=
  let r := d.read n
  if r.2 ≠ 0 then (0, [], r.2) else opens r.1

/-! bits -/
def has (b : Str) (i : Int) : Bool := decide (0 ≤ i) && decide (i.toNat / 8 < b.length) && (b.getD (i.toNat / 8) 0).toNat.testBit (i.toNat % 8)
def flip (b : Str) (i : Nat) : Str := b.set (i / 8) (UInt8.ofNat ((b.getD (i / 8) 0).toNat ^^^ 2 ^ (i % 8)))
def with' (b : Str) (i : Int) (on : Bool) : Str :=
  if i < 0 ∨ i.toNat / 8 ≥ b.length ∨ has b i = on then b else flip b i.toNat
def count (b : Str) : Nat := (b.map fun x => ((List.range 8).filter fun i => x.toNat.testBit i).length).sum

/-! shadow -/
structure Store where
  d : Disk
  gen : Int
  root : Int
  used : Str
  fresh : List Int
  given : List Int
  down : Bool
def headText (gen root : Int) (used : Str) : Str := be 6 gen.toNat ++ be 2 root.toNat ++ used
def headLay (d : Disk) (gen root : Int) (used : Str) : Disk × Int :=
  let r := pageWrite d (gen % 2) 1 (headText gen root used)
  if r.2 ≠ 0 then r else r.1.sync
abbrev over (d : Disk) (gen root : Int) (used : Str) : Store := ⟨d, gen, root, used, [], [], false⟩
def Store.size (s : Store) : Int := s.d.now.length
def Store.left (s : Store) : Int := s.size - 2 - count s.used - s.fresh.length
def Store.takeFrom (s : Store) : Nat → Int → Store × Int × Int
  | 0, _ => (s, 0, 4)
  | k + 1, n => if has s.used n = false ∧ n ∉ s.fresh then ({ s with fresh := s.fresh ++ [n] }, n, 0) else s.takeFrom k (n + 1)
def Store.take (s : Store) : Store × Int × Int := if s.down then (s, 0, 5) else s.takeFrom (s.size - 2).toNat 2
def Store.told (s : Store) (e : Int) : Store := { s with down := s.down || e == 5 }
def Store.write (s : Store) (n kind : Int) (text : Str) : Store × Int :=
  if s.down then (s, 5) else if n ∉ s.fresh then (s, 6) else
  let r := pageWrite s.d n kind text
  ({ s with d := r.1 }.told r.2, r.2)
def Store.read (s : Store) (n : Int) : Store × Int × Str × Int :=
  if s.down then (s, 0, [], 5) else if n < 2 ∨ n ≥ s.size then (s, 0, [], 1) else
  let r := pageRead s.d n
  (s.told r.2.2, r)
def Store.give (s : Store) (n : Int) : Store × Int :=
  if s.down then (s, 5) else if n ∈ s.fresh then ({ s with fresh := s.fresh.erase n }, 0)
  else if has s.used n = true ∧ n ∉ s.given then ({ s with given := s.given ++ [n] }, 0) else (s, 6)
def Store.rollback (s : Store) : Store := { s with fresh := [], given := [] }

/-! space -/
def spaceKey (kind a b : Int) : Nat × Bool :=
  if kind < 0 ∨ 16 ≤ kind ∨ a < 0 ∨ 268435455 < a ∨ b < 0 ∨ 4294967296 ≤ b then (0, false)
  else (kind.toNat * 1152921504606846976 + a.toNat * 4294967296 + b.toNat, true)

/-! node -/
structure Node where
  leaf : Bool
  keys : List Nat
  vals : List Str
  kids : List Int
def Node.zero : Node := ⟨false, [], [], []⟩
def rising : List Nat → Bool
  | a :: b :: l => decide (a < b) && rising (b :: l)
  | _ => true
def nsize (n : Node) : Nat := 1 + 8 * n.keys.length + (if n.leaf then n.keys.length + (n.vals.map List.length).sum else 2 * n.kids.length)
def plain (n : Node) : Bool :=
  n.vals.length == (if n.leaf then n.keys.length else 0) && n.kids.length == (if n.leaf then 0 else n.keys.length + 1) && rising n.keys &&
    n.vals.all (fun v => decide (v.length ≤ 40)) && n.kids.all (fun k => decide (2 ≤ k ∧ k < 640))
def right (n : Node) : Bool := plain n && (!n.leaf || decide (0 < n.keys.length)) && decide (nsize n ≤ 240)
end Go.Proofs.YtbdhhedfplkidaaGreat.M
