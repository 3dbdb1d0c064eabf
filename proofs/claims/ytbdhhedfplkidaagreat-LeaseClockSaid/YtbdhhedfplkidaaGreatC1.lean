/- What the functions of layer num do. -/
import Derived.Test.YtbdhhedfplkidaaGreatE3
import Derived.Test.YtbdhhedfplkidaaGreatLem
namespace Go.Proofs.YtbdhhedfplkidaaGreat
open Go
open M (Str)
set_option maxHeartbeats 400000
theorem wrap_u64 {x : Int} (h0 : 0 ≤ x) (h : x < 18446744073709551616) : IntKind.u64.wrap x = x := by
  simp [IntKind.wrap, IntKind.bits, IntKind.signed]; omega
theorem wrap_i64 {x : Int} (h0 : -9223372036854775808 ≤ x) (h : x < 9223372036854775808) : IntKind.i64.wrap x = x := by
  rw [IntKind.wrap_i64]; omega

theorem num_Put (n : Nat) (size : Int) (hn : n < 18446744073709551616) (hs0 : -9223372036854775808 ≤ size) (hs1 : size < 9223372036854775808) :
    CS 54 [u64 n, int size] emp fun v H' => v = .tuple #[str (M.put n size).1, int (M.put n size).2] ∧ H' = emp := by
  refine CS.walk Tryz.func54 rfl Tryz.ntmps54 rfl fun c R => ?_
  (repeat (first | refine W.ctl rfl ?_ | refine W.op rfl rfl rfl rfl ?_ | refine W.skip rfl rfl ?_))
  by_cases h1 : size < 1
  · refine W.yes rfl rfl rfl rfl h1 ?_
    (repeat (first | refine W.ctl rfl ?_ | refine W.op rfl rfl rfl rfl ?_ | refine W.skip rfl rfl ?_))
    refine W.ret2 (.inr rfl) rfl rfl rfl emp ⟨?_, rfl⟩ (Imp.refl _)
    rw [M.put, if_neg (by omega)]; rfl
  refine W.no rfl rfl rfl rfl h1 ?_
  (repeat (first | refine W.ctl rfl ?_ | refine W.op rfl rfl rfl rfl ?_ | refine W.skip rfl rfl ?_))
  by_cases h2 : 8 < size
  · refine W.yes rfl rfl rfl rfl h2 ?_
    (repeat (first | refine W.ctl rfl ?_ | refine W.op rfl rfl rfl rfl ?_ | refine W.skip rfl rfl ?_))
    refine W.ret2 (.inr rfl) rfl rfl rfl emp ⟨?_, rfl⟩ (Imp.refl _)
    rw [M.put, if_neg (by omega)]; rfl
  refine W.no rfl rfl rfl rfl h2 ?_
  (repeat (first | refine W.ctl rfl ?_ | refine W.op rfl rfl rfl rfl ?_ | refine W.skip rfl rfl ?_))
  obtain ⟨s, rfl⟩ : ∃ s : Nat, size = s := ⟨size.toNat, by omega⟩
  refine W.mks rfl rfl rfl rfl rfl rfl (by omega) (by omega) fun b => ?_
  (repeat (first | refine W.ctl rfl ?_ | refine W.op rfl rfl rfl rfl ?_ | refine W.skip rfl rfl ?_))
  refine W.loop (σ := Nat) (fun i => i ≤ s) (fun i => [(0, u64 (n / 256 ^ i : Nat)), (1, int s), (6, .slice (some ⟨b, 0, none⟩) s s), (16, int s), (17, int i)])
    (fun i => row b 5 (List.replicate (s - i) (.int .u8 0) ++ (M.be i n).map u8) • emp • R) (fun i => s - i) 0 (Nat.zero_le _) ⟨by rw [Nat.pow_zero, Nat.div_one]; rfl, rfl, rfl, rfl, rfl, trivial⟩ (Imp.of_eq (by simp [M.be])) ?_
  intro i hi
  (repeat (first | refine W.ctl rfl ?_ | refine W.op rfl rfl rfl rfl ?_ | refine W.skip rfl rfl ?_))
  have hb := M.be_length i n
  by_cases hlt : i < s
  · refine W.yes rfl rfl rfl rfl (p := (i : Int) < s) (by omega) ?_
    (repeat (first | refine W.ctl rfl ?_ | refine W.op rfl rfl rfl rfl ?_ | refine W.skip rfl rfl ?_))
    refine W.ar rfl rfl rfl rfl rfl rfl rfl (wrap_i64 (by omega) (by omega)) ?_
    (repeat (first | refine W.ctl rfl ?_ | refine W.op rfl rfl rfl rfl ?_ | refine W.skip rfl rfl ?_))
    refine W.ar rfl rfl rfl rfl rfl rfl rfl (wrap_i64 (by omega) (by omega)) ?_
    (repeat (first | refine W.ctl rfl ?_ | refine W.op rfl rfl rfl rfl ?_ | refine W.skip rfl rfl ?_))
    refine W.conv rfl rfl rfl rfl rfl ?_
    refine W.idx rfl rfl rfl rfl rfl rfl (by omega) (by omega) ?_
    refine W.sti rfl rfl rfl rfl rfl (by simp [hb]; omega) ?_
    (repeat (first | refine W.ctl rfl ?_ | refine W.op rfl rfl rfl rfl ?_ | refine W.skip rfl rfl ?_))
    refine W.bin rfl rfl rfl rfl rfl rfl (fun w => M.bin_shr .u64 _ _ 8 w (by decide)) ?_
    (repeat (first | refine W.ctl rfl ?_ | refine W.op rfl rfl rfl rfl ?_ | refine W.skip rfl rfl ?_))
    refine W.ar rfl rfl rfl rfl rfl rfl rfl (wrap_i64 (by omega) (by omega)) ?_
    (repeat (first | refine W.ctl rfl ?_ | refine W.op rfl rfl rfl rfl ?_ | refine W.skip rfl rfl ?_))
    have e8 : n / 256 ^ (i + 1) = n / 256 ^ i / 2 ^ 8 := by rw [Nat.pow_succ, ← Nat.div_div_eq_div_mul]
    refine W.again (i + 1) hlt (by omega) ⟨by rw [e8]; rfl, rfl, rfl, rfl, rfl, trivial⟩ (Imp.of_eq ?_)
    rw [← M.be_byte s i n hlt u8, M.u8_wrap, show 0 + ((s : Int) - 1 - i).toNat * 1 = s - 1 - i from by omega]
  · refine W.no rfl rfl rfl rfl (p := (i : Int) < s) (by omega) ?_
    obtain rfl : i = s := by omega
    (repeat (first | refine W.ctl rfl ?_ | refine W.op rfl rfl rfl rfl ?_ | refine W.skip rfl rfl ?_))
    by_cases hz : n < 256 ^ i
    · refine W.no rfl rfl rfl rfl (p := ¬ (((n / 256 ^ i : Nat) : Int) = 0)) (by have := (M.be_lt i n).2 hz; omega) ?_
      (repeat (first | refine W.ctl rfl ?_ | refine W.op rfl rfl rfl rfl ?_ | refine W.skip rfl rfl ?_))
      refine W.eq (H' := row b 5 ((M.be i n).map u8 ++ []) • emp • R) (by simp) ?_
      refine W.b2s rfl rfl rfl rfl (by rw [hb]; rfl) ?_
      (repeat (first | refine W.ctl rfl ?_ | refine W.op rfl rfl rfl rfl ?_ | refine W.skip rfl rfl ?_))
      refine W.ret2 (.inr rfl) rfl rfl rfl emp ⟨?_, rfl⟩ Imp.all
      rw [M.put, if_pos ⟨by omega, by omega, hz⟩]; rfl
    · refine W.yes rfl rfl rfl rfl (p := ¬ (((n / 256 ^ i : Nat) : Int) = 0)) (by have := mt (M.be_lt i n).1 hz; omega) ?_
      (repeat (first | refine W.ctl rfl ?_ | refine W.op rfl rfl rfl rfl ?_ | refine W.skip rfl rfl ?_))
      refine W.ret2 (.inr rfl) rfl rfl rfl emp ⟨?_, rfl⟩ Imp.all
      rw [M.put, if_neg (by simp [hz])]; rfl

theorem num_Take (b : M.Str) (size : Int) (hb : b.length < 9223372036854775808) (hs0 : -9223372036854775808 ≤ size) (hs1 : size < 9223372036854775808) :
    CS 56 [str b, int size] emp fun v H' => v = .tuple #[u64 (M.take b size).1, str (M.take b size).2.1, int (M.take b size).2.2] ∧ H' = emp := by
  refine CS.walk Tryz.func56 rfl Tryz.ntmps56 rfl fun c R => ?_
  (repeat (first | refine W.ctl rfl ?_ | refine W.op rfl rfl rfl rfl ?_ | refine W.skip rfl rfl ?_))
  by_cases h1 : size < 1
  · refine W.yes rfl rfl rfl rfl h1 ?_
    (repeat (first | refine W.ctl rfl ?_ | refine W.op rfl rfl rfl rfl ?_ | refine W.skip rfl rfl ?_))
    refine W.ret3 (.inr rfl) rfl rfl rfl rfl emp ⟨?_, rfl⟩ Imp.all
    rw [M.take, if_pos (by omega)]; rfl
  refine W.no rfl rfl rfl rfl h1 ?_
  (repeat (first | refine W.ctl rfl ?_ | refine W.op rfl rfl rfl rfl ?_ | refine W.skip rfl rfl ?_))
  by_cases h2 : 8 < size
  · refine W.yes rfl rfl rfl rfl h2 ?_
    (repeat (first | refine W.ctl rfl ?_ | refine W.op rfl rfl rfl rfl ?_ | refine W.skip rfl rfl ?_))
    refine W.ret3 (.inr rfl) rfl rfl rfl rfl emp ⟨?_, rfl⟩ Imp.all
    rw [M.take, if_pos (by omega)]; rfl
  refine W.no rfl rfl rfl rfl h2 ?_
  (repeat (first | refine W.ctl rfl ?_ | refine W.op rfl rfl rfl rfl ?_ | refine W.skip rfl rfl ?_))
  obtain ⟨s, rfl⟩ : ∃ s : Nat, size = s := ⟨size.toNat, by omega⟩
  refine W.slen rfl rfl rfl rfl rfl ?_
  (repeat (first | refine W.ctl rfl ?_ | refine W.op rfl rfl rfl rfl ?_ | refine W.skip rfl rfl ?_))
  by_cases h3 : (b.length : Int) < s
  · refine W.yes rfl rfl rfl rfl h3 ?_
    (repeat (first | refine W.ctl rfl ?_ | refine W.op rfl rfl rfl rfl ?_ | refine W.skip rfl rfl ?_))
    refine W.ret3 (.inr rfl) rfl rfl rfl rfl emp ⟨?_, rfl⟩ Imp.all
    rw [M.take, if_neg (by omega), if_pos h3]; rfl
  refine W.no rfl rfl rfl rfl h3 ?_
  (repeat (first | refine W.ctl rfl ?_ | refine W.op rfl rfl rfl rfl ?_ | refine W.skip rfl rfl ?_))
  refine W.loop (σ := Nat) (fun i => i ≤ s) (fun i => [(4, u64 (M.fromBe (b.take i))), (0, str b), (1, int s), (20, int s), (21, int i), (5, str []), (6, int 0)])
    (fun _ => emp • R) (fun i => s - i) 0 (Nat.zero_le _) ⟨rfl, rfl, rfl, rfl, rfl, rfl, rfl, trivial⟩ (Imp.refl _) ?_
  intro i hi
  (repeat (first | refine W.ctl rfl ?_ | refine W.op rfl rfl rfl rfl ?_ | refine W.skip rfl rfl ?_))
  by_cases hlt : i < s
  · refine W.yes rfl rfl rfl rfl (p := (i : Int) < s) (by omega) ?_
    (repeat (first | refine W.ctl rfl ?_ | refine W.op rfl rfl rfl rfl ?_ | refine W.skip rfl rfl ?_))
    have hl := M.fromBe_lt (b.take i)
    have hlen : (b.take i).length = i := by simp; omega
    have hp : 256 ^ i ≤ 256 ^ 7 := Nat.pow_le_pow_right (by omega) (by omega)
    rw [hlen] at hl
    have hx := (b[i]'(by omega)).toNat_lt
    have hsucc := M.fromBe_succ b i (by omega)
    refine W.bin rfl rfl rfl rfl rfl rfl (fun w => M.bin_shl64 _ _ 8 w (by decide) (by omega)) ?_
    (repeat (first | refine W.ctl rfl ?_ | refine W.op rfl rfl rfl rfl ?_ | refine W.skip rfl rfl ?_))
    refine W.sidx rfl rfl rfl rfl rfl rfl (by omega) (M.getI b i (by omega)) ?_
    refine W.cv rfl rfl rfl rfl rfl (wrap_u64 (by omega) (by omega)) ?_
    refine W.ar rfl rfl rfl rfl rfl rfl rfl (wrap_u64 (by omega) (by omega)) ?_
    (repeat (first | refine W.ctl rfl ?_ | refine W.op rfl rfl rfl rfl ?_ | refine W.skip rfl rfl ?_))
    refine W.ar rfl rfl rfl rfl rfl rfl rfl (wrap_i64 (by omega) (by omega)) ?_
    (repeat (first | refine W.ctl rfl ?_ | refine W.op rfl rfl rfl rfl ?_ | refine W.skip rfl rfl ?_))
    refine W.again (i + 1) hlt (by omega) ⟨?_, rfl, rfl, rfl, rfl, rfl, rfl, trivial⟩ (Imp.refl _)
    rw [hsucc]; rfl
  · refine W.no rfl rfl rfl rfl (p := (i : Int) < s) (by omega) ?_
    obtain rfl : i = s := by omega
    (repeat (first | refine W.ctl rfl ?_ | refine W.op rfl rfl rfl rfl ?_ | refine W.skip rfl rfl ?_))
    refine W.draw (by kernel_rfl) (by kernel_rfl) ?_
    (repeat (first | refine W.ctl rfl ?_ | refine W.op rfl rfl rfl rfl ?_ | refine W.skip rfl rfl ?_))
    refine W.sfrom rfl rfl rfl rfl rfl rfl (by omega) (by omega) ?_
    (repeat (first | refine W.ctl rfl ?_ | refine W.op rfl rfl rfl rfl ?_ | refine W.skip rfl rfl ?_))
    refine W.ret3 (.inr rfl) rfl rfl rfl rfl emp ⟨?_, rfl⟩ Imp.all
    rw [M.take, if_neg (by omega), if_neg h3]; rfl
theorem num_Text (s : M.Str) (hb : s.length < 4611686018427387904) :
    CS 179 [str s] emp fun v H' => v = .tuple #[str (M.text s).1, int (M.text s).2] ∧ H' = emp := by
  refine CS.walk Tryz.func179 rfl Tryz.ntmps179 rfl fun c R => ?_
  (repeat (first | refine W.ctl rfl ?_ | refine W.op rfl rfl rfl rfl ?_ | refine W.skip rfl rfl ?_))
  refine W.slen rfl rfl rfl rfl rfl ?_
  by_cases h : 255 < s.length
  · refine W.yes rfl rfl rfl rfl (p := (255 : Int) < s.length) (by omega) ?_
    (repeat (first | refine W.ctl rfl ?_ | refine W.op rfl rfl rfl rfl ?_ | refine W.skip rfl rfl ?_))
    refine W.ret2 (.inr rfl) rfl rfl rfl emp ⟨?_, rfl⟩ Imp.all
    rw [M.text, if_pos h]; rfl
  refine W.no rfl rfl rfl rfl (p := (255 : Int) < s.length) (by omega) ?_
  (repeat (first | refine W.ctl rfl ?_ | refine W.op rfl rfl rfl rfl ?_ | refine W.skip rfl rfl ?_))
  refine W.slen rfl rfl rfl rfl rfl ?_
  refine W.conv rfl rfl rfl rfl rfl ?_
  refine W.bsl (vs := [_]) rfl rfl rfl rfl ⟨rfl, rfl, trivial⟩ rfl rfl rfl fun b => ?_
  refine W.eq (H' := row b 5 ([UInt8.ofNat s.length].map u8 ++ []) • emp • R) (by rw [M.u8_wrap, Nat.mod_eq_of_lt (by omega)]; rfl) ?_
  refine W.b2s (u := [UInt8.ofNat s.length]) rfl rfl rfl rfl rfl ?_
  (repeat (first | refine W.ctl rfl ?_ | refine W.op rfl rfl rfl rfl ?_ | refine W.skip rfl rfl ?_))
  refine W.scat rfl rfl rfl rfl rfl rfl (by simp; omega) ?_
  (repeat (first | refine W.ctl rfl ?_ | refine W.op rfl rfl rfl rfl ?_ | refine W.skip rfl rfl ?_))
  refine W.ret2 (.inr rfl) rfl rfl rfl emp ⟨?_, rfl⟩ Imp.all
  rw [M.text, if_neg h]; rfl
theorem num_TakeText (b : M.Str) (hb : b.length < 9223372036854775808) :
    CS 183 [str b] emp fun v H' => v = .tuple #[str (M.takeText b).1, str (M.takeText b).2.1, int (M.takeText b).2.2] ∧ H' = emp := by
  refine CS.walk Tryz.func183 rfl Tryz.ntmps183 rfl fun c R => ?_
  (repeat (first | refine W.ctl rfl ?_ | refine W.op rfl rfl rfl rfl ?_ | refine W.skip rfl rfl ?_))
  refine W.seq (u := []) rfl rfl rfl rfl rfl rfl ?_
  cases b with
  | nil =>
    refine W.case 7 rfl (fun _ => ?_) (fun h => by simp at h)
    (repeat (first | refine W.ctl rfl ?_ | refine W.op rfl rfl rfl rfl ?_ | refine W.skip rfl rfl ?_))
    refine W.ret3 (.inr rfl) rfl rfl rfl rfl emp ⟨rfl, rfl⟩ Imp.all
  | cons x t =>
    refine W.case 7 rfl (fun h => by simp at h) (fun _ => ?_)
    (repeat (first | refine W.ctl rfl ?_ | refine W.op rfl rfl rfl rfl ?_ | refine W.skip rfl rfl ?_))
    have hx := x.toNat_lt
    refine W.sidx (u := x) rfl rfl rfl rfl rfl rfl (by omega) rfl ?_
    (repeat (first | refine W.ctl rfl ?_ | refine W.op rfl rfl rfl rfl ?_ | refine W.skip rfl rfl ?_))
    refine W.cv rfl rfl rfl rfl rfl (wrap_i64 (by omega) (by omega)) ?_
    (repeat (first | refine W.ctl rfl ?_ | refine W.op rfl rfl rfl rfl ?_ | refine W.skip rfl rfl ?_))
    refine W.slen rfl rfl rfl rfl rfl ?_
    (repeat (first | refine W.ctl rfl ?_ | refine W.op rfl rfl rfl rfl ?_ | refine W.skip rfl rfl ?_))
    by_cases h : (x :: t).length ≤ x.toNat
    · refine W.yes rfl rfl rfl rfl (p := ((x :: t).length : Int) ≤ x.toNat) (by omega) ?_
      (repeat (first | refine W.ctl rfl ?_ | refine W.op rfl rfl rfl rfl ?_ | refine W.skip rfl rfl ?_))
      refine W.ret3 (.inr rfl) rfl rfl rfl rfl emp ⟨?_, rfl⟩ Imp.all
      rw [M.takeText, if_pos h]; rfl
    refine W.no rfl rfl rfl rfl (p := ((x :: t).length : Int) ≤ x.toNat) (by omega) ?_
    (repeat (first | refine W.ctl rfl ?_ | refine W.op rfl rfl rfl rfl ?_ | refine W.skip rfl rfl ?_))
    refine W.sidx (u := x) rfl rfl rfl rfl rfl rfl (by omega) rfl ?_
    refine W.cv rfl rfl rfl rfl rfl (wrap_i64 (by omega) (by omega)) ?_
    refine W.ar rfl rfl rfl rfl rfl rfl rfl (wrap_i64 (by omega) (by omega)) ?_
    (repeat (first | refine W.ctl rfl ?_ | refine W.op rfl rfl rfl rfl ?_ | refine W.skip rfl rfl ?_))
    refine W.draw (by kernel_rfl) (by kernel_rfl) ?_
    (repeat (first | refine W.ctl rfl ?_ | refine W.op rfl rfl rfl rfl ?_ | refine W.skip rfl rfl ?_))
    refine W.ssub rfl rfl rfl rfl rfl rfl rfl (by omega) (by omega) (by omega) ?_
    (repeat (first | refine W.ctl rfl ?_ | refine W.op rfl rfl rfl rfl ?_ | refine W.skip rfl rfl ?_))
    refine W.sfrom rfl rfl rfl rfl rfl rfl (by omega) (by omega) ?_
    (repeat (first | refine W.ctl rfl ?_ | refine W.op rfl rfl rfl rfl ?_ | refine W.skip rfl rfl ?_))
    refine W.ret3 (.inr rfl) rfl rfl rfl rfl emp ⟨?_, rfl⟩ Imp.all
    rw [M.takeText, if_neg h]
    have e1 : ((x.toNat : Int) + 1).toNat = x.toNat + 1 := by omega
    rw [e1]
    rfl
end Go.Proofs.YtbdhhedfplkidaaGreat
