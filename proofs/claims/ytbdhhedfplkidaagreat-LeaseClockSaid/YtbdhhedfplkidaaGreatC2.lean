/- What the functions of layers page, bits and space do. -/
import Derived.Test.YtbdhhedfplkidaaGreatC1
namespace Go.Proofs.YtbdhhedfplkidaaGreat
open Go
open M (Str)
set_option maxHeartbeats 400000
theorem wrap_u32 {x : Int} (h0 : 0 ≤ x) (h : x < 4294967296) : IntKind.u32.wrap x = x := by
  simp [IntKind.wrap, IntKind.bits, IntKind.signed]; omega
theorem page_Sum (s : Str) (hs : s.length < 9223372036854775808) :
    CS 188 [str s] emp fun v H' => v = .int .u32 (M.sum s) ∧ H' = emp := by
  refine CS.walk Tryz.func188 rfl Tryz.ntmps188 rfl fun c R => ?_
  (repeat (first | refine W.ctl rfl ?_ | refine W.op rfl rfl rfl rfl ?_ | refine W.skip rfl rfl ?_))
  refine W.slen rfl rfl rfl rfl rfl ?_
  (repeat (first | refine W.ctl rfl ?_ | refine W.op rfl rfl rfl rfl ?_ | refine W.skip rfl rfl ?_))
  refine W.loop (σ := Nat) (fun i => i ≤ s.length) (fun i => [(3, .int .u32 ((s.take i).foldl M.sumStep (1, 0)).1), (4, .int .u32 ((s.take i).foldl M.sumStep (1, 0)).2), (0, str s), (7, int s.length), (8, int i)])
    (fun _ => emp • R) (fun i => s.length - i) 0 (Nat.zero_le _) ⟨rfl, rfl, rfl, rfl, rfl, trivial⟩ (Imp.refl _) ?_
  intro i hi
  (repeat (first | refine W.ctl rfl ?_ | refine W.op rfl rfl rfl rfl ?_ | refine W.skip rfl rfl ?_))
  obtain ⟨h1, h2⟩ := M.sum_lt (s.take i)
  generalize hp : (s.take i).foldl M.sumStep (1, 0) = p at *
  by_cases hlt : i < s.length
  · refine W.yes rfl rfl rfl rfl (p := (i : Int) < s.length) (by omega) ?_
    have hx := (s[i]'(by omega)).toNat_lt
    (repeat (first | refine W.ctl rfl ?_ | refine W.op rfl rfl rfl rfl ?_ | refine W.skip rfl rfl ?_))
    refine W.sidx rfl rfl rfl rfl rfl rfl (by omega) (M.getI s i (by omega)) ?_
    refine W.cv rfl rfl rfl rfl rfl (wrap_u32 (by omega) (by omega)) ?_
    refine W.ar rfl rfl rfl rfl rfl rfl rfl (wrap_u32 (by omega) (by omega)) ?_
    refine W.bin rfl rfl rfl rfl rfl rfl (fun w => M.bin_rem .u32 _ (p.1 + (s[i]'(by omega)).toNat) 65521 w (by decide)) ?_
    (repeat (first | refine W.ctl rfl ?_ | refine W.op rfl rfl rfl rfl ?_ | refine W.skip rfl rfl ?_))
    refine W.ar rfl rfl rfl rfl rfl rfl rfl (wrap_u32 (by omega) (by omega)) ?_
    refine W.bin rfl rfl rfl rfl rfl rfl (fun w => M.bin_rem .u32 _ (p.2 + (p.1 + (s[i]'(by omega)).toNat) % 65521) 65521 w (by decide)) ?_
    (repeat (first | refine W.ctl rfl ?_ | refine W.op rfl rfl rfl rfl ?_ | refine W.skip rfl rfl ?_))
    refine W.ar rfl rfl rfl rfl rfl rfl rfl (wrap_i64 (by omega) (by omega)) ?_
    (repeat (first | refine W.ctl rfl ?_ | refine W.op rfl rfl rfl rfl ?_ | refine W.skip rfl rfl ?_))
    refine W.again (i + 1) hlt (by omega) ⟨?_, ?_, rfl, rfl, rfl, trivial⟩ (Imp.refl _)
    · rw [List.take_succ_eq_append_getElem hlt, List.foldl_append, hp]; rfl
    · rw [List.take_succ_eq_append_getElem hlt, List.foldl_append, hp]; rfl
  · refine W.no rfl rfl rfl rfl (p := (i : Int) < s.length) (by omega) ?_
    obtain rfl : i = s.length := by omega
    (repeat (first | refine W.ctl rfl ?_ | refine W.op rfl rfl rfl rfl ?_ | refine W.skip rfl rfl ?_))
    refine W.bin rfl rfl rfl rfl rfl rfl (fun w => M.bin_shl32 _ _ 16 w (by decide) (by omega)) ?_
    (repeat (first | refine W.ctl rfl ?_ | refine W.op rfl rfl rfl rfl ?_ | refine W.skip rfl rfl ?_))
    refine W.ar rfl rfl rfl rfl rfl rfl rfl (wrap_u32 (by omega) (by omega)) ?_
    (repeat (first | refine W.ctl rfl ?_ | refine W.op rfl rfl rfl rfl ?_ | refine W.skip rfl rfl ?_))
    refine W.ret1 (.inr rfl) rfl rfl emp ⟨?_, rfl⟩ Imp.all
    rw [List.take_length] at hp
    rw [M.sum, hp]; rfl
theorem space_Key (kind a b : Int) : CS 103 [int kind, int a, int b] emp fun v H' => v = .tuple #[u64 (M.spaceKey kind a b).1, .bool (M.spaceKey kind a b).2] ∧ H' = emp := by
  refine CS.walk Tryz.func103 rfl Tryz.ntmps103 rfl fun c R => ?_
  (repeat (first | refine W.ctl rfl ?_ | refine W.op rfl rfl rfl rfl ?_ | refine W.skip rfl rfl ?_))
  by_cases h0 : kind < 0
  · refine W.yes rfl rfl rfl rfl h0 ?_
    (repeat (first | refine W.ctl rfl ?_ | refine W.op rfl rfl rfl rfl ?_ | refine W.skip rfl rfl ?_))
    refine W.ret2 (.inr rfl) rfl rfl rfl emp ⟨?_, rfl⟩ Imp.all
    rw [M.spaceKey, if_pos (by omega)]; rfl
  refine W.no rfl rfl rfl rfl h0 ?_
  (repeat (first | refine W.ctl rfl ?_ | refine W.op rfl rfl rfl rfl ?_ | refine W.skip rfl rfl ?_))
  by_cases h1 : (16 : Int) ≤ kind
  · refine W.yes rfl rfl rfl rfl h1 ?_
    (repeat (first | refine W.ctl rfl ?_ | refine W.op rfl rfl rfl rfl ?_ | refine W.skip rfl rfl ?_))
    refine W.ret2 (.inr rfl) rfl rfl rfl emp ⟨?_, rfl⟩ Imp.all
    rw [M.spaceKey, if_pos (by omega)]; rfl
  refine W.no rfl rfl rfl rfl h1 ?_
  (repeat (first | refine W.ctl rfl ?_ | refine W.op rfl rfl rfl rfl ?_ | refine W.skip rfl rfl ?_))
  by_cases h2 : a < 0
  · refine W.yes rfl rfl rfl rfl h2 ?_
    (repeat (first | refine W.ctl rfl ?_ | refine W.op rfl rfl rfl rfl ?_ | refine W.skip rfl rfl ?_))
    refine W.ret2 (.inr rfl) rfl rfl rfl emp ⟨?_, rfl⟩ Imp.all
    rw [M.spaceKey, if_pos (by omega)]; rfl
  refine W.no rfl rfl rfl rfl h2 ?_
  (repeat (first | refine W.ctl rfl ?_ | refine W.op rfl rfl rfl rfl ?_ | refine W.skip rfl rfl ?_))
  by_cases h3 : (268435455 : Int) < a
  · refine W.yes rfl rfl rfl rfl h3 ?_
    (repeat (first | refine W.ctl rfl ?_ | refine W.op rfl rfl rfl rfl ?_ | refine W.skip rfl rfl ?_))
    refine W.ret2 (.inr rfl) rfl rfl rfl emp ⟨?_, rfl⟩ Imp.all
    rw [M.spaceKey, if_pos (by omega)]; rfl
  refine W.no rfl rfl rfl rfl h3 ?_
  (repeat (first | refine W.ctl rfl ?_ | refine W.op rfl rfl rfl rfl ?_ | refine W.skip rfl rfl ?_))
  by_cases h4 : b < 0
  · refine W.yes rfl rfl rfl rfl h4 ?_
    (repeat (first | refine W.ctl rfl ?_ | refine W.op rfl rfl rfl rfl ?_ | refine W.skip rfl rfl ?_))
    refine W.ret2 (.inr rfl) rfl rfl rfl emp ⟨?_, rfl⟩ Imp.all
    rw [M.spaceKey, if_pos (by omega)]; rfl
  refine W.no rfl rfl rfl rfl h4 ?_
  (repeat (first | refine W.ctl rfl ?_ | refine W.op rfl rfl rfl rfl ?_ | refine W.skip rfl rfl ?_))
  by_cases h5 : (4294967296 : Int) ≤ b
  · refine W.yes rfl rfl rfl rfl h5 ?_
    (repeat (first | refine W.ctl rfl ?_ | refine W.op rfl rfl rfl rfl ?_ | refine W.skip rfl rfl ?_))
    refine W.ret2 (.inr rfl) rfl rfl rfl emp ⟨?_, rfl⟩ Imp.all
    rw [M.spaceKey, if_pos (by omega)]; rfl
  refine W.no rfl rfl rfl rfl h5 ?_
  (repeat (first | refine W.ctl rfl ?_ | refine W.op rfl rfl rfl rfl ?_ | refine W.skip rfl rfl ?_))
  obtain ⟨kind, rfl⟩ := Int.eq_ofNat_of_zero_le (a := kind) (by omega)
  obtain ⟨a, rfl⟩ := Int.eq_ofNat_of_zero_le (a := a) (by omega)
  obtain ⟨b, rfl⟩ := Int.eq_ofNat_of_zero_le (a := b) (by omega)
  refine W.cv rfl rfl rfl rfl rfl (wrap_u64 (by omega) (by omega)) ?_
  refine W.bin rfl rfl rfl rfl rfl rfl (fun w => M.bin_shl64 _ kind 60 w (by decide) (by omega)) ?_
  (repeat (first | refine W.ctl rfl ?_ | refine W.op rfl rfl rfl rfl ?_ | refine W.skip rfl rfl ?_))
  refine W.cv rfl rfl rfl rfl rfl (wrap_u64 (by omega) (by omega)) ?_
  refine W.bin rfl rfl rfl rfl rfl rfl (fun w => M.bin_shl64 _ a 32 w (by decide) (by omega)) ?_
  refine W.ar rfl rfl rfl rfl rfl rfl rfl (wrap_u64 (by omega) (by omega)) ?_
  (repeat (first | refine W.ctl rfl ?_ | refine W.op rfl rfl rfl rfl ?_ | refine W.skip rfl rfl ?_))
  refine W.cv rfl rfl rfl rfl rfl (wrap_u64 (by omega) (by omega)) ?_
  refine W.ar rfl rfl rfl rfl rfl rfl rfl (wrap_u64 (by omega) (by omega)) ?_
  (repeat (first | refine W.ctl rfl ?_ | refine W.op rfl rfl rfl rfl ?_ | refine W.skip rfl rfl ?_))
  refine W.ret2 (.inr rfl) rfl rfl rfl emp ⟨?_, rfl⟩ Imp.all
  rw [M.spaceKey, if_neg (by omega)]; rfl
theorem bits_Has (b : Str) (i : Int) (hb : b.length < 9223372036854775808) (hi0 : -9223372036854775808 ≤ i) (hi1 : i < 9223372036854775808) :
    CS 95 [str b, int i] emp fun v H' => v = .bool (M.has b i) ∧ H' = emp := by
  refine CS.walk Tryz.func95 rfl Tryz.ntmps95 rfl fun c R => ?_
  (repeat (first | refine W.ctl rfl ?_ | refine W.op rfl rfl rfl rfl ?_ | refine W.skip rfl rfl ?_))
  refine W.draw (by kernel_rfl) (by kernel_rfl) ?_
  (repeat (first | refine W.ctl rfl ?_ | refine W.op rfl rfl rfl rfl ?_ | refine W.skip rfl rfl ?_))
  by_cases h0 : 0 ≤ i
  · refine W.yes rfl rfl rfl rfl h0 ?_
    (repeat (first | refine W.ctl rfl ?_ | refine W.op rfl rfl rfl rfl ?_ | refine W.skip rfl rfl ?_))
    obtain ⟨i, rfl⟩ := Int.eq_ofNat_of_zero_le h0
    refine W.bin rfl rfl rfl rfl rfl rfl (fun w => M.bin_quo _ i 8 w (by decide) (by omega)) ?_
    (repeat (first | refine W.ctl rfl ?_ | refine W.op rfl rfl rfl rfl ?_ | refine W.skip rfl rfl ?_))
    refine W.slen rfl rfl rfl rfl rfl ?_
    (repeat (first | refine W.ctl rfl ?_ | refine W.op rfl rfl rfl rfl ?_ | refine W.skip rfl rfl ?_))
    by_cases h1 : i / 8 < b.length
    · refine W.yes rfl rfl rfl rfl (p := ((i / 8 : Nat) : Int) < b.length) (by omega) ?_
      (repeat (first | refine W.ctl rfl ?_ | refine W.op rfl rfl rfl rfl ?_ | refine W.skip rfl rfl ?_))
      refine W.bin rfl rfl rfl rfl rfl rfl (fun w => M.bin_quo _ i 8 w (by decide) (by omega)) ?_
      (repeat (first | refine W.ctl rfl ?_ | refine W.op rfl rfl rfl rfl ?_ | refine W.skip rfl rfl ?_))
      refine W.sidx rfl rfl rfl rfl rfl rfl (by omega) (M.getI b (i / 8) h1) ?_
      (repeat (first | refine W.ctl rfl ?_ | refine W.op rfl rfl rfl rfl ?_ | refine W.skip rfl rfl ?_))
      refine W.bin rfl rfl rfl rfl rfl rfl (fun w => M.bin_rem .i64 _ i 8 w (by decide)) ?_
      (repeat (first | refine W.ctl rfl ?_ | refine W.op rfl rfl rfl rfl ?_ | refine W.skip rfl rfl ?_))
      refine W.bin rfl rfl rfl rfl rfl rfl (fun w => M.bin_shl8 _ (i % 8) w (by omega)) ?_
      (repeat (first | refine W.ctl rfl ?_ | refine W.op rfl rfl rfl rfl ?_ | refine W.skip rfl rfl ?_))
      refine W.bin rfl rfl rfl rfl rfl rfl (fun w => M.bin_and_bit _ (b[i / 8]).toNat (i % 8) w (b[i / 8]).toNat_lt (by omega)) ?_
      (repeat (first | refine W.ctl rfl ?_ | refine W.op rfl rfl rfl rfl ?_ | refine W.skip rfl rfl ?_))
      refine W.cmp rfl rfl rfl rfl ?_
      (repeat (first | refine W.ctl rfl ?_ | refine W.op rfl rfl rfl rfl ?_ | refine W.skip rfl rfl ?_))
      refine W.ret1 (.inr rfl) rfl rfl emp ⟨?_, rfl⟩ Imp.all
      have e : b.getD (i / 8) 0 = b[i / 8] := by simp [List.getD_eq_getElem?_getD, h1]
      simp only [M.has, h0, Int.toNat_natCast, h1, e, decide_true, Bool.true_and]
      have hp : 0 < 2 ^ (i % 8) := Nat.pow_pos (by omega)
      by_cases ht : (b[i / 8]).toNat.testBit (i % 8) = true
      · rw [if_pos ht, ht, decide_eq_true (by omega)]
      · rw [if_neg ht]; simp at ht; rw [ht]; rfl
    · refine W.no rfl rfl rfl rfl (p := ((i / 8 : Nat) : Int) < b.length) (by omega) ?_
      (repeat (first | refine W.ctl rfl ?_ | refine W.op rfl rfl rfl rfl ?_ | refine W.skip rfl rfl ?_))
      refine W.ret1 (.inr rfl) rfl rfl emp ⟨?_, rfl⟩ Imp.all
      simp [M.has, h1]
  · refine W.no rfl rfl rfl rfl h0 ?_
    (repeat (first | refine W.ctl rfl ?_ | refine W.op rfl rfl rfl rfl ?_ | refine W.skip rfl rfl ?_))
    refine W.ret1 (.inr rfl) rfl rfl emp ⟨?_, rfl⟩ Imp.all
    simp [M.has, h0]
theorem page_Seal (kind : Int) (text : Str) (ht : text.length < 9223372036854775808) :
    CS 168 [int kind, str text] emp fun v H' => v = .tuple #[str (M.sealP kind text).1, int (M.sealP kind text).2] ∧ H' = emp := by
  refine CS.walk Tryz.func168 rfl Tryz.ntmps168 rfl fun c R => ?_
  (repeat (first | refine W.ctl rfl ?_ | refine W.op rfl rfl rfl rfl ?_ | refine W.skip rfl rfl ?_))
  by_cases h1 : kind < 1
  · refine W.yes rfl rfl rfl rfl h1 ?_
    (repeat (first | refine W.ctl rfl ?_ | refine W.op rfl rfl rfl rfl ?_ | refine W.skip rfl rfl ?_))
    refine W.ret2 (.inr rfl) rfl rfl rfl emp ⟨?_, rfl⟩ Imp.all
    rw [M.sealP, if_pos (by omega)]; rfl
  refine W.no rfl rfl rfl rfl h1 ?_
  (repeat (first | refine W.ctl rfl ?_ | refine W.op rfl rfl rfl rfl ?_ | refine W.skip rfl rfl ?_))
  by_cases h2 : 15 < kind
  · refine W.yes rfl rfl rfl rfl h2 ?_
    (repeat (first | refine W.ctl rfl ?_ | refine W.op rfl rfl rfl rfl ?_ | refine W.skip rfl rfl ?_))
    refine W.ret2 (.inr rfl) rfl rfl rfl emp ⟨?_, rfl⟩ Imp.all
    rw [M.sealP, if_pos (by omega)]; rfl
  refine W.no rfl rfl rfl rfl h2 ?_
  (repeat (first | refine W.ctl rfl ?_ | refine W.op rfl rfl rfl rfl ?_ | refine W.skip rfl rfl ?_))
  refine W.slen rfl rfl rfl rfl rfl ?_
  (repeat (first | refine W.ctl rfl ?_ | refine W.op rfl rfl rfl rfl ?_ | refine W.skip rfl rfl ?_))
  by_cases h3 : 240 < text.length
  · refine W.yes rfl rfl rfl rfl (p := (240 : Int) < text.length) (by omega) ?_
    (repeat (first | refine W.ctl rfl ?_ | refine W.op rfl rfl rfl rfl ?_ | refine W.skip rfl rfl ?_))
    refine W.ret2 (.inr rfl) rfl rfl rfl emp ⟨?_, rfl⟩ Imp.all
    rw [M.sealP, if_pos (by omega)]; rfl
  refine W.no rfl rfl rfl rfl (p := (240 : Int) < text.length) (by omega) ?_
  (repeat (first | refine W.ctl rfl ?_ | refine W.op rfl rfl rfl rfl ?_ | refine W.skip rfl rfl ?_))
  refine W.mks (m := 256) rfl rfl rfl rfl rfl rfl (by omega) (by omega) fun b => ?_
  (repeat (first | refine W.ctl rfl ?_ | refine W.op rfl rfl rfl rfl ?_ | refine W.skip rfl rfl ?_))
  refine W.conv rfl rfl rfl rfl rfl ?_
  (repeat (first | refine W.ctl rfl ?_ | refine W.op rfl rfl rfl rfl ?_ | refine W.skip rfl rfl ?_))
  refine W.slen rfl rfl rfl rfl rfl ?_
  refine W.conv rfl rfl rfl rfl rfl ?_
  refine W.idx rfl rfl rfl rfl rfl rfl (by omega) (by omega) ?_
  refine W.sti rfl rfl rfl rfl rfl (by simp only [List.length_set, List.length_replicate]; omega) ?_
  refine W.idx rfl rfl rfl rfl rfl rfl (by omega) (by omega) ?_
  refine W.sti rfl rfl rfl rfl rfl (by simp only [List.length_set, List.length_replicate]; omega) ?_
  (repeat (first | refine W.ctl rfl ?_ | refine W.op rfl rfl rfl rfl ?_ | refine W.skip rfl rfl ?_))
  refine W.slf rfl rfl rfl rfl rfl rfl (by omega) (by omega) (by omega) ?_
  (repeat (first | refine W.ctl rfl ?_ | refine W.op rfl rfl rfl rfl ?_ | refine W.skip rfl rfl ?_))
  refine W.cpys rfl rfl rfl rfl rfl rfl (by omega) (by simp only [List.length_set, List.length_replicate]; omega) ?_
  have hl := M.sealBody_length kind text (by omega)
  have hn := M.sum_u32 (M.sealBody kind text)
  refine W.eq (congrArg (· • _) (congrArg (row b _) (M.seal_cells kind text _ (by omega) (by omega) (by omega) rfl))) ?_
  (repeat (first | refine W.ctl rfl ?_ | refine W.op rfl rfl rfl rfl ?_ | refine W.skip rfl rfl ?_))
  refine W.slt rfl rfl rfl rfl rfl rfl (by omega) (by omega) ?_
  refine W.b2s (u := M.sealBody kind text) rfl rfl rfl rfl (by rw [hl]; rfl) ?_
  refine W.fcall (page_Sum _ (by omega)) rfl rfl rfl rfl Tryz.call188 ⟨rfl, trivial⟩ ?_
  (repeat (first | refine W.ctl rfl ?_ | refine W.op rfl rfl rfl rfl ?_ | refine W.skip rfl rfl ?_))
  generalize hN : M.sum (M.sealBody kind text) = N at *
  refine W.loop (σ := Nat) (fun i => i ≤ 4) (fun i => [(7, .int .u32 N), (6, .slice (some ⟨b, 0, none⟩) 256 256), (38, int i)])
    (fun i => row b 5 ((M.sealBody kind text).map u8 ++ (List.replicate (4 - i) (.int .u8 0) ++ (M.be i N).map u8)) • emp • R) (fun i => 4 - i) 0 (by omega) ⟨rfl, rfl, rfl, trivial⟩ (Imp.refl _) ?_
  intro i hi
  (repeat (first | refine W.ctl rfl ?_ | refine W.op rfl rfl rfl rfl ?_ | refine W.skip rfl rfl ?_))
  have hb := M.be_length i N
  by_cases hlt : i < 4
  · refine W.yes rfl rfl rfl rfl (p := (i : Int) < 4) (by omega) ?_
    (repeat (first | refine W.ctl rfl ?_ | refine W.op rfl rfl rfl rfl ?_ | refine W.skip rfl rfl ?_))
    refine W.ar rfl rfl rfl rfl rfl rfl rfl (wrap_i64 (by omega) (by omega)) ?_
    (repeat (first | refine W.ctl rfl ?_ | refine W.op rfl rfl rfl rfl ?_ | refine W.skip rfl rfl ?_))
    refine W.ar rfl rfl rfl rfl rfl rfl rfl (wrap_i64 (by omega) (by omega)) ?_
    refine W.bin rfl rfl rfl rfl rfl rfl (fun w => M.bin_shr .u32 _ _ (8 * i) w (by simp [IntKind.bits]; omega)) ?_
    refine W.conv rfl rfl rfl rfl rfl ?_
    refine W.idx rfl rfl rfl rfl rfl rfl (by omega) (by omega) ?_
    refine W.sti rfl rfl rfl rfl rfl (by simp [hb, hl]; omega) ?_
    (repeat (first | refine W.ctl rfl ?_ | refine W.op rfl rfl rfl rfl ?_ | refine W.skip rfl rfl ?_))
    refine W.ar rfl rfl rfl rfl rfl rfl rfl (wrap_i64 (by omega) (by omega)) ?_
    (repeat (first | refine W.ctl rfl ?_ | refine W.op rfl rfl rfl rfl ?_ | refine W.skip rfl rfl ?_))
    refine W.again (i + 1) (by omega) (by omega) ⟨rfl, rfl, rfl, trivial⟩ (Imp.of_eq (congrArg (· • _) (congrArg (row b _) ?_)))
    rw [List.set_append_right _ _ (by simp [hl]; omega), M.u8_wrap, Nat.pow_mul, ← M.be_byte 4 i N hlt u8,
      show 0 + ((255 : Int) - i).toNat * 1 - ((M.sealBody kind text).map u8).length = 4 - 1 - i from by rw [List.length_map, hl]; omega]
  · refine W.no rfl rfl rfl rfl (p := (i : Int) < 4) (by omega) ?_
    obtain rfl : i = 4 := by omega
    (repeat (first | refine W.ctl rfl ?_ | refine W.op rfl rfl rfl rfl ?_ | refine W.skip rfl rfl ?_))
    refine W.eq (H' := row b 5 ((M.sealBody kind text ++ M.be 4 N).map u8 ++ []) • emp • R) (by simp) ?_
    refine W.b2s (u := M.sealBody kind text ++ M.be 4 N) rfl rfl rfl rfl (by rw [List.length_append, hl, hb]; rfl) ?_
    (repeat (first | refine W.ctl rfl ?_ | refine W.op rfl rfl rfl rfl ?_ | refine W.skip rfl rfl ?_))
    refine W.ret2 (.inr rfl) rfl rfl rfl emp ⟨?_, rfl⟩ Imp.all
    rw [M.sealP, if_neg (by omega), hN]
theorem page_Open (b : Str) (hb : b.length < 9223372036854775808) :
    CS 164 [str b] emp fun v H' => v = .tuple #[int (M.opens b).1, str (M.opens b).2.1, int (M.opens b).2.2] ∧ H' = emp := by
  refine CS.walk Tryz.func164 rfl Tryz.ntmps164 rfl fun c R => ?_
  (repeat (first | refine W.ctl rfl ?_ | refine W.op rfl rfl rfl rfl ?_ | refine W.skip rfl rfl ?_))
  refine W.slen rfl rfl rfl rfl rfl ?_
  by_cases h1 : b.length ≠ 256
  · refine W.yes rfl rfl rfl rfl (p := (b.length : Int) ≠ 256) (by omega) ?_
    (repeat (first | refine W.ctl rfl ?_ | refine W.op rfl rfl rfl rfl ?_ | refine W.skip rfl rfl ?_))
    refine W.ret3 (.inr rfl) rfl rfl rfl rfl emp ⟨?_, rfl⟩ Imp.all
    rw [M.opens, if_pos h1]; rfl
  refine W.no rfl rfl rfl rfl (p := (b.length : Int) ≠ 256) (by omega) ?_
  have h1 : b.length = 256 := by omega
  (repeat (first | refine W.ctl rfl ?_ | refine W.op rfl rfl rfl rfl ?_ | refine W.skip rfl rfl ?_))
  refine W.loop (σ := Nat) (fun i => i ≤ 4) (fun i => [(0, str b), (5, .int .u32 (M.fromBe ((b.drop 252).take i))), (13, int i)])
    (fun _ => emp • R) (fun i => 4 - i) 0 (by omega) ⟨rfl, rfl, rfl, trivial⟩ (Imp.refl _) ?_
  intro i hi
  (repeat (first | refine W.ctl rfl ?_ | refine W.op rfl rfl rfl rfl ?_ | refine W.skip rfl rfl ?_))
  by_cases hlt : i < 4
  · refine W.yes rfl rfl rfl rfl (p := (i : Int) < 4) (by omega) ?_
    (repeat (first | refine W.ctl rfl ?_ | refine W.op rfl rfl rfl rfl ?_ | refine W.skip rfl rfl ?_))
    have hd : (b.drop 252).length = 4 := by simp [h1]
    have hl := M.fromBe_lt ((b.drop 252).take i)
    have hlen : ((b.drop 252).take i).length = i := by simp [h1]; omega
    have hp : 256 ^ i ≤ 256 ^ 3 := Nat.pow_le_pow_right (by omega) (by omega)
    rw [hlen] at hl
    have hx := ((b.drop 252)[i]'(by omega)).toNat_lt
    have hsucc := M.fromBe_succ (b.drop 252) i (by omega)
    have hsome : b[((252 : Int) + i).toNat]? = some ((b.drop 252)[i]'(by omega)) := by
      rw [show ((252 : Int) + i).toNat = 252 + i from by omega, List.getElem_drop]
      exact List.getElem?_eq_getElem (by omega)
    refine W.bin rfl rfl rfl rfl rfl rfl (fun w => M.bin_shl32 _ _ 8 w (by decide) (by omega)) ?_
    (repeat (first | refine W.ctl rfl ?_ | refine W.op rfl rfl rfl rfl ?_ | refine W.skip rfl rfl ?_))
    refine W.ar rfl rfl rfl rfl rfl rfl rfl (wrap_i64 (by omega) (by omega)) ?_
    refine W.sidx rfl rfl rfl rfl rfl rfl (by omega) hsome ?_
    refine W.cv rfl rfl rfl rfl rfl (wrap_u32 (by omega) (by omega)) ?_
    refine W.bin rfl rfl rfl rfl rfl rfl (fun w => M.bin_or8 _ _ _ w hx (by omega)) ?_
    (repeat (first | refine W.ctl rfl ?_ | refine W.op rfl rfl rfl rfl ?_ | refine W.skip rfl rfl ?_))
    refine W.ar rfl rfl rfl rfl rfl rfl rfl (wrap_i64 (by omega) (by omega)) ?_
    (repeat (first | refine W.ctl rfl ?_ | refine W.op rfl rfl rfl rfl ?_ | refine W.skip rfl rfl ?_))
    refine W.again (i + 1) (by omega) (by omega) ⟨rfl, by rw [hsucc]; rfl, rfl, trivial⟩ (Imp.refl _)
  refine W.no rfl rfl rfl rfl (p := (i : Int) < 4) (by omega) ?_
  obtain rfl : i = 4 := by omega
  have ht : (b.drop 252).take 4 = b.drop 252 := List.take_of_length_le (by simp [h1])
  (repeat (first | refine W.ctl rfl ?_ | refine W.op rfl rfl rfl rfl ?_ | refine W.skip rfl rfl ?_))
  refine W.sto rfl rfl rfl rfl rfl rfl (by omega) (by omega) ?_
  refine W.fcall (page_Sum _ (by simp; omega)) rfl rfl rfl rfl Tryz.call188 ⟨rfl, trivial⟩ ?_
  (repeat (first | refine W.ctl rfl ?_ | refine W.op rfl rfl rfl rfl ?_ | refine W.skip rfl rfl ?_))
  by_cases h2 : M.sum (b.take 252) ≠ M.fromBe (b.drop 252)
  · refine W.yes rfl rfl rfl rfl (p := (M.sum (b.take (252 : Int).toNat) : Int) ≠ (M.fromBe ((b.drop 252).take 4) : Int)) (fun h => h2 (by rw [ht] at h; exact Int.ofNat.inj h)) ?_
    (repeat (first | refine W.ctl rfl ?_ | refine W.op rfl rfl rfl rfl ?_ | refine W.skip rfl rfl ?_))
    refine W.ret3 (.inr rfl) rfl rfl rfl rfl emp ⟨?_, rfl⟩ Imp.all
    rw [M.opens, if_neg (by omega), if_pos h2]; rfl
  refine W.no rfl rfl rfl rfl (p := (M.sum (b.take (252 : Int).toNat) : Int) ≠ (M.fromBe ((b.drop 252).take 4) : Int)) (fun h => h2 (fun h' => h (by rw [ht]; exact congrArg Int.ofNat h'))) ?_
  (repeat (first | refine W.ctl rfl ?_ | refine W.op rfl rfl rfl rfl ?_ | refine W.skip rfl rfl ?_))
  have h0 : b[(0 : Int).toNat]? = some (b.getD 0 0) := by
    show b[0]? = _
    rw [List.getD_eq_getElem?_getD, List.getElem?_eq_getElem (by omega)]; rfl
  have h11 : b[(1 : Int).toNat]? = some (b.getD 1 0) := by
    show b[1]? = _
    rw [List.getD_eq_getElem?_getD, List.getElem?_eq_getElem (by omega)]; rfl
  have hx0 := (b.getD 0 0).toNat_lt
  have hx1 := (b.getD 1 0).toNat_lt
  refine W.sidx rfl rfl rfl rfl rfl rfl (by omega) h11 ?_
  refine W.cv rfl rfl rfl rfl rfl (wrap_i64 (by omega) (by omega)) ?_
  refine W.mn rfl rfl rfl rfl rfl rfl ?_
  (repeat (first | refine W.ctl rfl ?_ | refine W.op rfl rfl rfl rfl ?_ | refine W.skip rfl rfl ?_))
  obtain ⟨sz, hsz, hmin⟩ : ∃ sz : Nat, (if (250 : Int) < ((b.getD 1 0).toNat : Int) then 250 else ((b.getD 1 0).toNat : Int)) = sz ∧ sz = min (b.getD 1 0).toNat 250 := by
    refine ⟨_, ?_, rfl⟩
    split <;> omega
  rw [hsz]
  refine W.ar rfl rfl rfl rfl rfl rfl rfl (wrap_i64 (by omega) (by omega)) ?_
  refine W.ssub rfl rfl rfl rfl rfl rfl rfl (by omega) (by omega) (by omega) ?_
  (repeat (first | refine W.ctl rfl ?_ | refine W.op rfl rfl rfl rfl ?_ | refine W.skip rfl rfl ?_))
  refine W.sidx rfl rfl rfl rfl rfl rfl (by omega) h0 ?_
  refine W.cv rfl rfl rfl rfl rfl (wrap_i64 (by omega) (by omega)) ?_
  (repeat (first | refine W.ctl rfl ?_ | refine W.op rfl rfl rfl rfl ?_ | refine W.skip rfl rfl ?_))
  have e2 : ((2 : Int) + sz).toNat - (2 : Int).toNat = sz := by omega
  rw [e2, show (2 : Int).toNat = 2 from rfl]
  refine W.fcall (page_Seal _ _ (by simp; omega)) rfl rfl rfl rfl Tryz.call168 ⟨rfl, rfl, trivial⟩ ?_
  (repeat (first | refine W.ctl rfl ?_ | refine W.op rfl rfl rfl rfl ?_ | refine W.skip rfl rfl ?_))
  have hop : M.opens b = if (M.sealP (b.getD 0 0).toNat ((b.drop 2).take sz)).2 = 0 ∧ (M.sealP (b.getD 0 0).toNat ((b.drop 2).take sz)).1 = b then (((b.getD 0 0).toNat : Int), (b.drop 2).take sz, 0) else (0, [], 2) := by
    rw [M.opens, if_neg (by omega), if_neg h2, ← hmin]
  generalize hS : M.sealP (b.getD 0 0).toNat ((b.drop 2).take sz) = S at *
  by_cases h3 : S.2 = 0
  · refine W.no rfl rfl rfl rfl (p := S.2 ≠ 0) (by simpa using h3) ?_
    (repeat (first | refine W.ctl rfl ?_ | refine W.op rfl rfl rfl rfl ?_ | refine W.skip rfl rfl ?_))
    refine W.sne rfl rfl rfl rfl rfl rfl ?_
    by_cases h4 : S.1 = b
    · refine W.case 51 rfl (fun h => by simp [h4] at h) (fun _ => ?_)
      (repeat (first | refine W.ctl rfl ?_ | refine W.op rfl rfl rfl rfl ?_ | refine W.skip rfl rfl ?_))
      refine W.sidx rfl rfl rfl rfl rfl rfl (by omega) h0 ?_
      refine W.cv rfl rfl rfl rfl rfl (wrap_i64 (by omega) (by omega)) ?_
      (repeat (first | refine W.ctl rfl ?_ | refine W.op rfl rfl rfl rfl ?_ | refine W.skip rfl rfl ?_))
      refine W.ret3 (.inr rfl) rfl rfl rfl rfl emp ⟨?_, rfl⟩ Imp.all
      rw [hop, if_pos ⟨h3, h4⟩]
    · refine W.case 51 rfl (fun _ => ?_) (fun h => by simp [h4] at h)
      (repeat (first | refine W.ctl rfl ?_ | refine W.op rfl rfl rfl rfl ?_ | refine W.skip rfl rfl ?_))
      refine W.ret3 (.inr rfl) rfl rfl rfl rfl emp ⟨?_, rfl⟩ Imp.all
      rw [hop, if_neg (by simp [h4])]; rfl
  · refine W.yes rfl rfl rfl rfl (p := S.2 ≠ 0) h3 ?_
    (repeat (first | refine W.ctl rfl ?_ | refine W.op rfl rfl rfl rfl ?_ | refine W.skip rfl rfl ?_))
    refine W.ret3 (.inr rfl) rfl rfl rfl rfl emp ⟨?_, rfl⟩ Imp.all
    rw [hop, if_neg (by simp [h3])]; rfl
end Go.Proofs.YtbdhhedfplkidaaGreat
