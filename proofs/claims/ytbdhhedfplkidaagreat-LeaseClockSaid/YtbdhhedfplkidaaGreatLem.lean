/- Plain facts on numbers and lists of bytes. -/
import Derived.Test.YtbdhhedfplkidaaGreatE4
namespace Go.Proofs.YtbdhhedfplkidaaGreat.M
open Go
theorem be_length : ∀ s n, (be s n).length = s
  | 0, _ => rfl
  | s + 1, n => by simp [be, be_length s]
theorem be_succ : ∀ s n, be (s + 1) n = UInt8.ofNat (n / 256 ^ s % 256) :: be s n
  | 0, n => by simp [be]
  | s + 1, n => by
    show be (s + 1) (n / 256) ++ [UInt8.ofNat (n % 256)] = _
    rw [be_succ s (n / 256), Nat.div_div_eq_div_mul, Nat.pow_succ, Nat.mul_comm 256]
    rfl
theorem be_byte (s i n : Nat) (h : i < s) (x : UInt8 → Value) (z : Value) : (List.replicate (s - i) z ++ (be i n).map x).set (s - 1 - i) (x (UInt8.ofNat (n / 256 ^ i % 256))) = List.replicate (s - (i + 1)) z ++ (be (i + 1) n).map x := by
  rw [show s - i = (s - (i + 1)) + 1 from by omega, List.replicate_succ', List.append_assoc, List.set_append_right _ _ (by simp; omega), be_succ]
  simp [show s - 1 - i - (s - (i + 1)) = 0 from by omega]
theorem be_lt (s n : Nat) : n / 256 ^ s = 0 ↔ n < 256 ^ s := Nat.div_eq_zero_iff_lt (Nat.pow_pos (by omega))
theorem fdiv_pow (m k : Nat) : (m : Int).fdiv (2 ^ k) = ((m / 2 ^ k : Nat) : Int) := by
  rw [Int.fdiv_eq_ediv_of_nonneg _ (by exact Int.le_of_lt (Int.pow_pos (by omega)))]
  rw [Int.natCast_ediv, Int.natCast_pow]; rfl
theorem u8_wrap (m : Nat) : IntKind.u8.wrap (m : Int) = ((UInt8.ofNat (m % 256)).toNat : Int) := by
  simp [IntKind.wrap, IntKind.bits, IntKind.signed]
theorem bin_shr (k : IntKind) {yk : IntKind} (t m j : Nat) (w : World) (hj : j ≤ k.bits) : (binOp .shr t (.int k m) (.int yk j)).run Pg w = .ok (.int k ((m / 2 ^ j : Nat) : Int)) w := by
  have h0 : ¬ ((j : Int) < 0) := by omega
  simp only [binOp, Op.shift, if_neg h0, Int.toNat_natCast, Nat.min_eq_left hj, fdiv_pow]
  rfl
def put (n : Nat) (size : Int) : Str × Int := if 1 ≤ size ∧ size ≤ 8 ∧ n < 256 ^ size.toNat then (be size.toNat n, 0) else ([], 1)
theorem bin_shl (k : IntKind) (t m j : Nat) (w : World) (hj : j ≤ k.bits) : (binOp .shl t (.int k m) (.int .u64 j)).run Pg w = .ok (.int k (k.wrap ((m * 2 ^ j : Nat) : Int))) w := by
  have h0 : ¬ ((j : Int) < 0) := by omega
  simp only [binOp, Op.shift, if_neg h0, Int.toNat_natCast, Nat.min_eq_left hj]
  rw [Int.natCast_mul, Int.natCast_pow]; rfl
theorem bin_shl64 (t m j : Nat) (w : World) (hj : j ≤ 64) (h : m * 2 ^ j < 18446744073709551616) : (binOp .shl t (.int .u64 m) (.int .u64 j)).run Pg w = .ok (.int .u64 ((m * 2 ^ j : Nat) : Int)) w := by
  rw [bin_shl .u64 t m j w hj]
  generalize m * 2 ^ j = x at *
  have : IntKind.u64.wrap (x : Int) = x := by simp [IntKind.wrap, IntKind.bits, IntKind.signed]; omega
  rw [this]
theorem bin_rem (k : IntKind) (t m j : Nat) (w : World) (hj : 0 < j) : (binOp .rem t (.int k m) (.int k j)).run Pg w = .ok (.int k ((m % j : Nat) : Int)) w := by
  have h0 : j ≠ 0 := by omega
  simp [binOp, Op.intDiv, h0, Int.tmod_eq_emod_of_nonneg]
theorem bin_quo (t m j : Nat) (w : World) (hj : 0 < j) (hm : m < 9223372036854775808) : (binOp .quo t (.int .i64 m) (.int .i64 j)).run Pg w = .ok (.int .i64 ((m / j : Nat) : Int)) w := by
  have h0 : j ≠ 0 := by omega
  have hle := Nat.div_le_self m j
  have hw : ∀ x : Nat, x ≤ m → IntKind.i64.wrap (x : Int) = x := fun x hx => by rw [IntKind.wrap_i64]; omega
  have hw := hw _ hle
  rw [Int.natCast_ediv] at hw
  simp [binOp, Op.intDiv, h0, Int.tdiv_eq_ediv_of_nonneg, hw]
theorem bin_or8 (t m b : Nat) (w : World) (hb : b < 256) (hm : m * 2 ^ 8 + b < 4294967296) : (binOp .or t (.int .u32 ((m * 2 ^ 8 : Nat) : Int)) (.int .u32 b)).run Pg w = .ok (.int .u32 ((m * 256 + b : Nat) : Int)) w := by
  have h1 : (m * 2 ^ 8) ||| b = m * 2 ^ 8 + b := by
    rw [← Nat.shiftLeft_eq, ← Nat.shiftLeft_add_eq_or_of_lt hb]
  have h2 : (BitVec.ofInt 32 ((m * 2 ^ 8 : Nat) : Int) ||| BitVec.ofInt 32 (b : Int)).toNat = m * 2 ^ 8 + b := by
    rw [BitVec.toNat_or, BitVec.toNat_ofInt, BitVec.toNat_ofInt]
    rw [← h1]
    congr 1 <;> omega
  have hw : IntKind.u32.wrap ((m * 256 + b : Nat) : Int) = ((m * 256 + b : Nat) : Int) := by simp [IntKind.wrap, IntKind.bits, IntKind.signed]; omega
  simp only [binOp, Op.intBits]
  show (if IntKind.u32 ≠ IntKind.u32 then _ else (pure (.int .u32 (IntKind.u32.wrap ((BitVec.ofInt 32 ((m * 2 ^ 8 : Nat) : Int) ||| BitVec.ofInt 32 (b : Int)).toNat : Int))) : Sem Value)).run Pg w = _
  rw [if_neg (by simp), h2, hw]
  rfl
theorem bin_shl32 (t m j : Nat) (w : World) (hj : j ≤ 32) (h : m * 2 ^ j < 4294967296) : (binOp .shl t (.int .u32 m) (.int .u64 j)).run Pg w = .ok (.int .u32 ((m * 2 ^ j : Nat) : Int)) w := by
  rw [bin_shl .u32 t m j w hj]
  generalize m * 2 ^ j = x at *
  have : IntKind.u32.wrap (x : Int) = x := by simp [IntKind.wrap, IntKind.bits, IntKind.signed]; omega
  rw [this]
theorem sum_lt (s : Str) : (s.foldl sumStep (1, 0)).1 < 65521 ∧ (s.foldl sumStep (1, 0)).2 < 65521 := by
  have : ∀ (s : Str) (p : Nat × Nat), p.1 < 65521 → p.2 < 65521 → (s.foldl sumStep p).1 < 65521 ∧ (s.foldl sumStep p).2 < 65521 := by
    intro s
    induction s with
    | nil => exact fun p h1 h2 => ⟨h1, h2⟩
    | cons x s ih => exact fun p _ _ => ih _ (Nat.mod_lt _ (by omega)) (Nat.mod_lt _ (by omega))
  exact this s _ (by omega) (by omega)
theorem and_bit (x j : Nat) : x &&& 2 ^ j = if x.testBit j then 2 ^ j else 0 := by
  apply Nat.eq_of_testBit_eq
  intro i
  rw [Nat.testBit_and, Nat.testBit_two_pow]
  by_cases h : j = i
  · subst h; cases hx : x.testBit j <;> simp
  · cases hx : x.testBit j <;> simp [h]
theorem bin_and_bit (t x j : Nat) (w : World) (hx : x < 256) (hj : j < 8) : (binOp .and t (.int .u8 x) (.int .u8 ((2 ^ j : Nat) : Int))).run Pg w = .ok (.int .u8 ((if x.testBit j then 2 ^ j else 0 : Nat) : Int)) w := by
  have hp : 2 ^ j ≤ 2 ^ 7 := Nat.pow_le_pow_right (by omega) (by omega)
  have h2 : (BitVec.ofInt 8 (x : Int) &&& BitVec.ofInt 8 ((2 ^ j : Nat) : Int)).toNat = if x.testBit j then 2 ^ j else 0 := by
    rw [BitVec.toNat_and, BitVec.toNat_ofInt, BitVec.toNat_ofInt, ← and_bit]
    generalize 2 ^ j = y at *
    congr 1 <;> omega
  have hw : IntKind.u8.wrap ((if x.testBit j then 2 ^ j else 0 : Nat) : Int) = ((if x.testBit j then 2 ^ j else 0 : Nat) : Int) := by
    generalize hm : (if x.testBit j then 2 ^ j else 0 : Nat) = m
    have : m < 256 := by rw [← hm]; split <;> omega
    simp [IntKind.wrap, IntKind.bits, IntKind.signed]; omega
  simp only [binOp, Op.intBits]
  show (if IntKind.u8 ≠ IntKind.u8 then _ else (pure (.int .u8 (IntKind.u8.wrap ((BitVec.ofInt 8 (x : Int) &&& BitVec.ofInt 8 ((2 ^ j : Nat) : Int)).toNat : Int))) : Sem Value)).run Pg w = _
  rw [if_neg (by simp), h2, hw]
  rfl
theorem bin_shl8 (t j : Nat) (w : World) (hj : j < 8) : (binOp .shl t (.int .u8 1) (.int .i64 j)).run Pg w = .ok (.int .u8 ((2 ^ j : Nat) : Int)) w := by
  have h0 : ¬ ((j : Int) < 0) := by omega
  have hp : 2 ^ j ≤ 2 ^ 7 := Nat.pow_le_pow_right (by omega) (by omega)
  simp only [binOp, Op.shift, if_neg h0, Int.toNat_natCast, IntKind.bits, Nat.min_eq_left (show j ≤ 8 by omega)]
  have hw : IntKind.u8.wrap (1 * 2 ^ j) = ((2 ^ j : Nat) : Int) := by
    rw [Int.one_mul]
    have : ((2 : Int) ^ j) = ((2 ^ j : Nat) : Int) := by rw [Int.natCast_pow]; rfl
    rw [this]
    generalize 2 ^ j = y at *
    simp [IntKind.wrap, IntKind.bits, IntKind.signed]; omega
  rw [hw]; rfl
theorem getI {α : Type} (l : List α) (i : Nat) (h : i < l.length) : l[((i : Nat) : Int).toNat]? = some l[i] := by simp [h]
def take (b : Str) (size : Int) : Nat × Str × Int :=
  if size < 1 ∨ 8 < size then (0, [], 1) else if (b.length : Int) < size then (0, [], 2) else (fromBe (b.take size.toNat), b.drop size.toNat, 0)
def text (s : Str) : Str × Int := if 255 < s.length then ([], 16) else (UInt8.ofNat s.length :: s, 0)
def takeText (b : Str) : Str × Str × Int :=
  match b with
  | [] => ([], [], 2)
  | n :: _ => if n.toNat ≥ b.length then ([], [], 2) else ((b.drop 1).take n.toNat, b.drop (n.toNat + 1), 0)
theorem fromBe_snoc (l : Str) (x : UInt8) : fromBe (l ++ [x]) = fromBe l * 256 + x.toNat := by simp [fromBe]
theorem fromBe_succ (b : Str) (i : Nat) (h : i < b.length) : fromBe (b.take (i + 1)) = fromBe (b.take i) * 256 + (b[i]).toNat := by
  rw [List.take_succ_eq_append_getElem h, fromBe_snoc]
theorem fromBe_lt (l : Str) : fromBe l < 256 ^ l.length := by
  have : ∀ n (l : Str), l.length = n → fromBe l < 256 ^ n := by
    intro n
    induction n with
    | zero => intro l h; have := List.eq_nil_of_length_eq_zero h; subst this; simp [fromBe]
    | succ n ih =>
      intro l h
      have hne : l ≠ [] := by intro e; subst e; simp at h
      rw [← List.dropLast_concat_getLast hne, fromBe_snoc]
      have := ih l.dropLast (by simp [h])
      have hx := (l.getLast hne).toNat_lt
      rw [Nat.pow_succ]; omega
  exact this _ l rfl
theorem sealBody_length (kind : Int) (text : Str) (h : text.length ≤ 240) : (sealBody kind text).length = 252 := by
  simp [sealBody]; omega
theorem sum_u32 (s : Str) : sum s < 4294967296 := by
  have := sum_lt s
  unfold sum; dsimp only; omega
theorem wrap_u8_small {x : Int} (h0 : 0 ≤ x) (h : x < 256) : IntKind.u8.wrap x = ((UInt8.ofNat x.toNat).toNat : Int) := by
  obtain ⟨m, rfl⟩ := Int.eq_ofNat_of_zero_le h0
  rw [u8_wrap, Nat.mod_eq_of_lt (by omega)]; rfl
theorem seal_cells (kind : Int) (text : Str) (z : Value) (h : text.length ≤ 240) (h0 : 0 ≤ kind) (h1 : kind < 256) (hz : z = u8 0) :
    setAll (((List.replicate 256 z).set (0 + (0 : Int).toNat * 1) (.int .u8 (IntKind.u8.wrap kind))).set (0 + (1 : Int).toNat * 1) (.int .u8 (IntKind.u8.wrap text.length))) (0 + (2 : Int).toNat * 1) (text.map u8) =
      (sealBody kind text).map u8 ++ (List.replicate 4 z ++ (be 0 (sum (sealBody kind text))).map u8) := by
  rw [setAll_eq _ _ _ (by simp only [List.length_set, List.length_replicate, List.length_map]; omega), wrap_u8_small h0 h1, wrap_u8_small (x := text.length) (by omega) (by omega)]
  subst hz
  have e : List.replicate 256 (u8 0) = u8 0 :: u8 0 :: List.replicate 254 (u8 0) := rfl
  rw [e]
  simp only [Int.toNat_zero, Nat.zero_mul, Nat.add_zero, List.set_cons_zero, show (0 : Nat) + (1 : Int).toNat * 1 = 0 + 1 from rfl, List.set_cons_succ, show (0 : Nat) + (2 : Int).toNat * 1 = 2 from rfl]
  simp only [sealBody, be, List.map_nil, List.append_nil, List.map_append, List.map_cons, List.map_replicate, List.length_map, Int.toNat_natCast]
  rw [show (2 : Nat) + text.length = text.length + 1 + 1 from by omega]
  simp only [List.take_succ_cons, List.take_zero, List.drop_succ_cons, List.drop_replicate]
  rw [show 254 - text.length = (250 - text.length) + 4 from by omega, ← List.replicate_append_replicate]
  simp only [List.append_assoc]
end Go.Proofs.YtbdhhedfplkidaaGreat.M
