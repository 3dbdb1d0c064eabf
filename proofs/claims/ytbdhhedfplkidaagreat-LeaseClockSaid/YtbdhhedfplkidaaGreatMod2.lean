/- The plain model, second part: what the functions of layer node compute. -/
import Derived.Test.YtbdhhedfplkidaaGreatLem
namespace Go.Proofs.YtbdhhedfplkidaaGreat.M
/-! node: a text read -/
structure Dec where
  keys : List Nat
  vals : List Str
  kids : List Int
  b : Str
  bad : Bool
def Dec.key (s : Dec) : Dec := { s with keys := s.keys ++ [(take s.b 8).1], b := (take s.b 8).2.1, bad := s.bad || decide ((take s.b 8).2.2 ≠ 0) }
def Dec.val (s : Dec) : Dec := { s with vals := s.vals ++ [(takeText s.b).1], b := (takeText s.b).2.1, bad := s.bad || decide ((takeText s.b).2.2 ≠ 0) }
def Dec.kid (s : Dec) : Dec := { s with kids := s.kids ++ [((take s.b 2).1 : Int)], b := (take s.b 2).2.1, bad := s.bad || decide ((take s.b 2).2.2 ≠ 0) }
def dstep (leaf : Bool) (s : Dec) : Dec := if leaf then s.key.val else s.key.kid
def dloop (leaf : Bool) : Nat → Dec → Dec
  | 0, s => s
  | k + 1, s => if s.b ≠ [] ∧ s.bad = false then dloop leaf k (dstep leaf s) else s
def decode (s : Str) : Node × Int :=
  let t := take s 1
  let leaf := decide (t.1 = 1)
  let s0 : Dec := ⟨[], [], [], t.2.1, decide (t.2.2 ≠ 0)⟩
  if s0.bad = true ∨ (t.1 ≠ 1 ∧ t.1 ≠ 2) then (Node.zero, 2) else
  let d := dloop leaf s.length (if leaf then s0 else s0.kid)
  let n : Node := ⟨leaf, d.keys, d.vals, d.kids⟩
  if d.bad = true ∨ right n = false then (Node.zero, 2) else (n, 0)
theorem take_len (b : Str) (n : Int) : (take b n).2.1.length ≤ b.length := by
  unfold take
  split
  · simp
  split
  · simp
  · simp
theorem take_lt {b : Str} {n : Int} (h : b ≠ []) (hn : 1 ≤ n) : (take b n).2.1.length < b.length := by
  have := List.length_pos_iff.2 h
  unfold take
  split
  · simpa using this
  split
  · simpa using this
  · simp; omega
theorem takeText_len (b : Str) : (takeText b).2.1.length ≤ b.length := by
  unfold takeText
  split
  · simp
  · split
    · simp
    · simp; omega
theorem takeText_fst (b : Str) : (takeText b).1.length ≤ 255 := by
  unfold takeText
  split
  · simp
  · rename_i x l
    split
    · simp
    · have := x.toNat_lt
      simp; omega
/-- What is read is of few parts. -/
structure DecOk (m : Nat) (s : Dec) : Prop where
  keys : s.keys.length + s.b.length ≤ m
  vals : s.vals.length ≤ s.keys.length
  kids : s.kids.length ≤ s.keys.length + 1
  val : ∀ v ∈ s.vals, v.length ≤ 255
theorem dstep_ok {m : Nat} {leaf : Bool} {s : Dec} (h : DecOk m s) (hb : s.b ≠ []) : DecOk m (dstep leaf s) ∧ (dstep leaf s).b.length < s.b.length := by
  have h1 := take_lt hb (show (1 : Int) ≤ 8 by omega)
  have h2 := h.keys
  have h3 := h.vals
  have h4 := h.kids
  cases leaf with
  | true =>
    have h5 := takeText_len (take s.b 8).2.1
    refine ⟨⟨?_, ?_, ?_, ?_⟩, ?_⟩
    · simp [dstep, Dec.key, Dec.val]; omega
    · simp [dstep, Dec.key, Dec.val]; omega
    · simp [dstep, Dec.key, Dec.val]; omega
    · intro v hv
      simp only [dstep, Dec.key, Dec.val, if_true, List.mem_append, List.mem_singleton] at hv
      rcases hv with hv | rfl
      · exact h.val v hv
      · exact takeText_fst _
    · simp [dstep, Dec.key, Dec.val]; omega
  | false =>
    have h5 := take_len (take s.b 8).2.1 2
    refine ⟨⟨?_, ?_, ?_, ?_⟩, ?_⟩
    · simp [dstep, Dec.key, Dec.kid]; omega
    · simp [dstep, Dec.key, Dec.kid]; omega
    · simp [dstep, Dec.key, Dec.kid]; omega
    · intro v hv
      simp only [dstep, Dec.key, Dec.kid, Bool.false_eq_true, if_false] at hv
      exact h.val v hv
    · simp [dstep, Dec.key, Dec.kid]; omega
/-! node: where a key stands -/
def ploop (keys : List Nat) (key : Nat) : Nat → Nat → Nat → Nat
  | 0, lo, _ => lo
  | f + 1, lo, hi => if lo < hi then
      if keys.getD ((lo + hi) / 2) 0 = key then (lo + hi) / 2
      else if keys.getD ((lo + hi) / 2) 0 < key then ploop keys key f ((lo + hi) / 2 + 1) hi
      else ploop keys key f lo ((lo + hi) / 2)
    else lo
def place (keys : List Nat) (key : Nat) : Nat × Bool := (ploop keys key keys.length 0 keys.length, decide (keys[ploop keys key keys.length 0 keys.length]? = some key))
def find (n : Node) (key : Nat) : Nat × Bool :=
  if n.leaf then place n.keys key else (if (place n.keys key).2 then (place n.keys key).1 + 1 else (place n.keys key).1, true)
theorem ploop_le (keys : List Nat) (key : Nat) : ∀ (f lo hi : Nat), lo ≤ hi → ploop keys key f lo hi ≤ hi
  | 0, lo, hi, h => h
  | f + 1, lo, hi, h => by
    unfold ploop
    split
    · split
      · omega
      split
      · exact ploop_le keys key f _ _ (by omega)
      · have := ploop_le keys key f lo ((lo + hi) / 2) (by omega); omega
    · exact h
end Go.Proofs.YtbdhhedfplkidaaGreat.M
