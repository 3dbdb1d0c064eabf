/- Beginnings: a new disk, a store that is formatted. -/
import Derived.Test.YtbdhhedfplkidaaGreatC21
namespace Go.Proofs.YtbdhhedfplkidaaGreat
open Go
open M (Str Store Disk DiskOk)
set_option maxHeartbeats 1000000
set_option maxRecDepth 2000
theorem SL.below {c w w' : World} {R : HProp} (h : SL c R w) (hb : RowKit.Below w.heap.size w w') : SL c R w' := by
  obtain ⟨hp, q, s⟩ := h.heap
  refine ⟨hb.os.trans h.os, hb.tape.trans h.tape, hb.output.trans h.output, hp, q, fun k x hx => ?_⟩
  have h0 := s k x hx
  rw [hb.block k (Array.getElem?_eq_some_iff.1 h0).1]; exact h0
theorem repeatL_one (x : UInt8) : ∀ n, Lib.repeatL [x] n = List.replicate n x
  | 0 => rfl
  | n + 1 => by
    simp only [Lib.repeatL, List.replicate_succ, repeatL_one x n]; rfl
theorem strings_Repeat1 (n : Nat) (hn : n ≤ 1000000) : CS 100 [str [0], int n] emp fun v H' => v = str (List.replicate n 0) ∧ H' = emp := by
  intro c R w hs
  refine (Tryz.strings_Repeat ⟨#[0]⟩ n w (by omega) (by simp [ByteArray.size]; omega)).mono ?_
  rintro e w' ⟨rfl, hb⟩
  refine ⟨_, _, ⟨rfl, rfl⟩, ?_, hs.below hb⟩
  rw [show (⟨#[0]⟩ : ByteArray).data.toList = [0] from rfl, repeatL_one]; rfl
theorem bits_Mul1 (x y : Nat) (hx : x < 18446744073709551616) (hy : y < 18446744073709551616) : CS 139 [u64 x, u64 y] emp fun v H' => v = .tuple #[u64 (x * y / 18446744073709551616), u64 (x * y % 18446744073709551616)] ∧ H' = emp := by
  intro c R w hs
  refine (Tryz.bits_Mul x y hx hy w).mono ?_
  rintro e w' ⟨rfl, rfl⟩
  exact ⟨_, _, ⟨rfl, rfl⟩, rfl, hs⟩
theorem bits_New : CS 102 [int 640] emp fun v H' => v = str M.noneUsed ∧ H' = emp := by
  refine CS.walk Tryz.func102 rfl Tryz.ntmps102 rfl fun c R => ?_
  (repeat (first | refine W.ctl rfl ?_ | refine W.op rfl rfl rfl rfl ?_ | refine W.skip rfl rfl ?_ | refine W.fld rfl rfl rfl rfl rfl ?_ | refine W.ld rfl rfl rfl rfl rfl ?_))
  refine W.mx rfl rfl rfl rfl rfl rfl ?_
  refine W.mn rfl rfl rfl rfl rfl rfl ?_
  refine W.ar (r := 648) rfl rfl rfl rfl rfl rfl rfl (wrap_i64 (by omega) (by omega)) ?_
  refine W.ar (r := 647) rfl rfl rfl rfl rfl rfl rfl (wrap_i64 (by omega) (by omega)) ?_
  refine W.bin (i := 647) rfl rfl rfl rfl rfl rfl (fun w => M.bin_quo _ 647 8 w (by decide) (by omega)) ?_
  refine W.call (strings_Repeat1 80 (by omega)) rfl rfl rfl rfl Tryz.call100 ⟨rfl, rfl, trivial⟩ ?_
  rintro _ _ ⟨rfl, rfl⟩
  (repeat (first | refine W.ctl rfl ?_ | refine W.op rfl rfl rfl rfl ?_ | refine W.skip rfl rfl ?_ | refine W.fld rfl rfl rfl rfl rfl ?_ | refine W.ld rfl rfl rfl rfl rfl ?_))
  exact W.ret1 (.inr rfl) rfl rfl _ ⟨rfl, rfl⟩ Imp.all
theorem repeat_step (z v : Value) (n k j : Nat) (hk : k + j ≤ n) : setAll (List.replicate k v ++ List.replicate (n - k) z) k (List.replicate j v) = List.replicate (k + j) v ++ List.replicate (n - (k + j)) z := by
  rw [setAll_eq _ _ _ (by simp; omega)]
  simp only [List.length_replicate]
  rw [List.take_left' (by simp), List.drop_append, List.drop_replicate, List.drop_replicate, List.replicate_append_replicate]
  simp only [List.length_replicate]
  rw [show k - (k + j) = 0 by omega, List.replicate_zero, List.nil_append]
  congr 2; omega
theorem slices_Repeat (g n : Nat) (s : Str) (hn : n ≤ 640) (h0 : 1 ≤ n) : CS 101 [.slice (some ⟨g, 0, none⟩) 1 1, int n] (row g 9 [str s])
    fun v H' => ∃ b, v = .slice (some ⟨b, 0, none⟩) n n ∧ H' = row b 9 (List.replicate n (str s)) := by
  refine CS.walk Tryz.func101 rfl Tryz.ntmps101 rfl fun c R => ?_
  (repeat (first | refine W.ctl rfl ?_ | refine W.op rfl rfl rfl rfl ?_ | refine W.skip rfl rfl ?_ | refine W.fld rfl rfl rfl rfl rfl ?_ | refine W.ld rfl rfl rfl rfl rfl ?_))
  refine W.no rfl rfl rfl rfl (by omega : ¬ (n : Int) < 0) ?_
  (repeat (first | refine W.ctl rfl ?_ | refine W.op rfl rfl rfl rfl ?_ | refine W.skip rfl rfl ?_ | refine W.fld rfl rfl rfl rfl rfl ?_ | refine W.ld rfl rfl rfl rfl rfl ?_))
  refine W.len rfl rfl rfl rfl rfl ?_
  refine W.cv rfl rfl rfl rfl rfl (wrap_u64 (by omega) (by omega)) ?_
  (repeat (first | refine W.ctl rfl ?_ | refine W.op rfl rfl rfl rfl ?_ | refine W.skip rfl rfl ?_ | refine W.fld rfl rfl rfl rfl rfl ?_ | refine W.ld rfl rfl rfl rfl rfl ?_))
  refine W.cv rfl rfl rfl rfl rfl (wrap_u64 (by omega) (by omega)) ?_
  refine W.call (bits_Mul1 1 n (by omega) (by omega)) rfl rfl rfl rfl Tryz.call139 ⟨rfl, rfl, trivial⟩ ?_
  rintro _ _ ⟨rfl, rfl⟩
  rw [emp_sep, show 1 * n / 18446744073709551616 = 0 by omega, show 1 * n % 18446744073709551616 = n by omega]
  (repeat (first | refine W.ctl rfl ?_ | refine W.op rfl rfl rfl rfl ?_ | refine W.skip rfl rfl ?_ | refine W.fld rfl rfl rfl rfl rfl ?_ | refine W.ld rfl rfl rfl rfl rfl ?_))
  refine W.no rfl rfl rfl rfl (by simp) ?_
  (repeat (first | refine W.ctl rfl ?_ | refine W.op rfl rfl rfl rfl ?_ | refine W.skip rfl rfl ?_ | refine W.fld rfl rfl rfl rfl rfl ?_ | refine W.ld rfl rfl rfl rfl rfl ?_))
  refine W.no rfl rfl rfl rfl (by omega) ?_
  (repeat (first | refine W.ctl rfl ?_ | refine W.op rfl rfl rfl rfl ?_ | refine W.skip rfl rfl ?_ | refine W.fld rfl rfl rfl rfl rfl ?_ | refine W.ld rfl rfl rfl rfl rfl ?_))
  refine W.cv rfl rfl rfl rfl rfl (wrap_i64 (by omega) (by omega)) ?_
  refine W.mks (m := n) rfl rfl rfl rfl rfl rfl (by omega) (by omega) fun b => ?_
  (repeat (first | refine W.ctl rfl ?_ | refine W.op rfl rfl rfl rfl ?_ | refine W.skip rfl rfl ?_ | refine W.fld rfl rfl rfl rfl rfl ?_ | refine W.ld rfl rfl rfl rfl rfl ?_))
  refine W.cpy (news := [str s]) (fun c w hs j u hj => ?_) rfl rfl rfl rfl rfl rfl (by simp; omega) (by simp; rfl) (by simp; omega) ?_
  · have hs2 := hs
    rw [sep_left_comm'] at hs2
    rw [hs2.rcell]; simpa using hj
  have e0 := repeat_step (.string { data := #[] }) (str s) n 0 1 (by omega)
  simp only [List.replicate_zero, List.nil_append, Nat.sub_zero, Nat.zero_add, List.replicate_one] at e0
  rw [e0]
  (repeat (first | refine W.ctl rfl ?_ | refine W.op rfl rfl rfl rfl ?_ | refine W.skip rfl rfl ?_ | refine W.fld rfl rfl rfl rfl rfl ?_ | refine W.ld rfl rfl rfl rfl rfl ?_))
  refine W.loop (σ := Nat) (fun k => 1 ≤ k ∧ k ≤ n) (fun k => [(7, .slice (some ⟨b, 0, none⟩) n n), (8, int k)]) (fun k => row b 9 (List.replicate k (str s) ++ List.replicate (n - k) (.string { data := #[] })) • R) (fun k => n - k) 1 ⟨by omega, h0⟩ ⟨rfl, rfl, trivial⟩ (by rw [List.replicate_one]; exact Imp.all) ?_
  rintro k ⟨k1, k2⟩
  (repeat (first | refine W.ctl rfl ?_ | refine W.op rfl rfl rfl rfl ?_ | refine W.skip rfl rfl ?_ | refine W.fld rfl rfl rfl rfl rfl ?_ | refine W.ld rfl rfl rfl rfl rfl ?_))
  refine W.len rfl rfl rfl rfl rfl ?_
  by_cases h : (k : Int) < n
  · refine W.yes rfl rfl rfl rfl h ?_
    (repeat (first | refine W.ctl rfl ?_ | refine W.op rfl rfl rfl rfl ?_ | refine W.skip rfl rfl ?_ | refine W.fld rfl rfl rfl rfl rfl ?_ | refine W.ld rfl rfl rfl rfl rfl ?_))
    refine W.anyh (f := 3) (fun _ => true) [0, 1, 2, 3, 4, 5, 6] (by kernel_rfl) (by kernel_rfl) (by kernel_rfl) (by kernel_rfl) rfl emp (Imp.drop _) ?_
    (repeat (first | refine W.ctl rfl ?_ | refine W.op rfl rfl rfl rfl ?_ | refine W.skip rfl rfl ?_ | refine W.fld rfl rfl rfl rfl rfl ?_ | refine W.ld rfl rfl rfl rfl rfl ?_))
    refine W.slf rfl rfl rfl rfl rfl rfl (by omega) (by omega) (by omega) ?_
    (repeat (first | refine W.ctl rfl ?_ | refine W.op rfl rfl rfl rfl ?_ | refine W.skip rfl rfl ?_ | refine W.fld rfl rfl rfl rfl rfl ?_ | refine W.ld rfl rfl rfl rfl rfl ?_))
    refine W.slt rfl rfl rfl rfl rfl rfl (by omega) (by omega) ?_
    refine W.tdn ?_
    refine W.ald1 7 (by kernel_rfl) rfl ?_
    refine W.cpy (news := List.replicate (min k (n - k)) (str s)) (fun c w hs j u hj => ?_) rfl rfl rfl rfl rfl rfl (by simp) (fun u hu => by rw [List.eq_of_mem_replicate hu]; rfl) (by simp; omega) ?_
    · have hlt := (List.getElem?_eq_some_iff.1 hj).1
      rw [hs.rcell, Nat.zero_add, List.getElem?_append_left (by simp at hlt ⊢; omega)]
      simp only [List.length_replicate] at hlt
      rw [List.getElem?_replicate] at hj ⊢
      rw [if_pos (by omega)] at hj ⊢
      exact hj
    simp only [List.length_replicate, Int.toNat_natCast, Nat.mul_one, Nat.zero_add]
    rw [repeat_step _ _ _ _ _ (by omega)]
    refine W.aft (Imp.drop _) ?_
    refine W.ald1 8 (by kernel_rfl) rfl ?_
    refine W.ar (r := ((k + min k (n - k) : Nat) : Int)) rfl rfl rfl rfl rfl rfl (congrArg some (by omega)) (wrap_i64 (by omega) (by omega)) ?_
    refine W.aft (Imp.drop _) ?_
    refine W.ald1 9 (by kernel_rfl) rfl ?_
    (repeat (first | refine W.ctl rfl ?_ | refine W.op rfl rfl rfl rfl ?_ | refine W.skip rfl rfl ?_))
    refine W.aft (Imp.drop _) (W.adn (by kernel_rfl) ?_)
    (repeat (first | refine W.ctl rfl ?_ | refine W.op rfl rfl rfl rfl ?_ | refine W.skip rfl rfl ?_ | refine W.fld rfl rfl rfl rfl rfl ?_ | refine W.ld rfl rfl rfl rfl rfl ?_))
    exact W.again (k + min k (n - k)) ⟨by omega, by omega⟩ (by omega) ⟨rfl, rfl, trivial⟩ Imp.all
  · refine W.no rfl rfl rfl rfl h ?_
    obtain rfl : k = n := by omega
    rw [Nat.sub_self, List.replicate_zero, List.append_nil]
    (repeat (first | refine W.ctl rfl ?_ | refine W.op rfl rfl rfl rfl ?_ | refine W.skip rfl rfl ?_ | refine W.fld rfl rfl rfl rfl rfl ?_ | refine W.ld rfl rfl rfl rfl rfl ?_))
    exact W.ret1 (.inr rfl) rfl rfl _ ⟨b, rfl, rfl⟩ Imp.all
theorem new_ok (n : Nat) (h0 : 8 ≤ n) (h1 : n ≤ 640) : DiskOk (M.Disk.new n) := ⟨by simpa [M.Disk.new] using h0, by simpa [M.Disk.new] using h1, fun s hs => by rw [List.eq_of_mem_replicate hs]; simp, by simp [M.Disk.new], by simp [M.Disk.new], rfl, by simp [M.Disk.new], fun x hx => by simp [M.Disk.new] at hx⟩
theorem disk_New (n : Nat) (h0 : 8 ≤ n) (h1 : n ≤ 640) : CS 52 [int n] emp fun v H' => ∃ dp, v = .tuple #[ptr dp, int 0] ∧ H' = DiskP dp (M.Disk.new n) := by
  refine CS.walk Tryz.func52 rfl Tryz.ntmps52 rfl fun c R => ?_
  rw [emp_sep]
  (repeat (first | refine W.ctl rfl ?_ | refine W.op rfl rfl rfl rfl ?_ | refine W.skip rfl rfl ?_ | refine W.fld rfl rfl rfl rfl rfl ?_ | refine W.ld rfl rfl rfl rfl rfl ?_))
  refine W.no rfl rfl rfl rfl (by omega : ¬ (n : Int) < 8) ?_
  (repeat (first | refine W.ctl rfl ?_ | refine W.op rfl rfl rfl rfl ?_ | refine W.skip rfl rfl ?_ | refine W.fld rfl rfl rfl rfl rfl ?_ | refine W.ld rfl rfl rfl rfl rfl ?_))
  refine W.no rfl rfl rfl rfl (by omega : ¬ (640 : Int) < n) ?_
  (repeat (first | refine W.ctl rfl ?_ | refine W.op rfl rfl rfl rfl ?_ | refine W.skip rfl rfl ?_ | refine W.fld rfl rfl rfl rfl rfl ?_ | refine W.ld rfl rfl rfl rfl rfl ?_))
  refine W.call (strings_Repeat1 256 (by omega)) rfl rfl rfl rfl Tryz.call100 ⟨rfl, rfl, trivial⟩ ?_
  rintro _ _ ⟨rfl, rfl⟩
  rw [emp_sep]
  (repeat (first | refine W.ctl rfl ?_ | refine W.op rfl rfl rfl rfl ?_ | refine W.skip rfl rfl ?_ | refine W.fld rfl rfl rfl rfl rfl ?_ | refine W.ld rfl rfl rfl rfl rfl ?_))
  refine W.bsl (vs := [_]) rfl rfl rfl rfl ⟨rfl, rfl, trivial⟩ rfl rfl rfl fun g => ?_
  (repeat (first | refine W.ctl rfl ?_ | refine W.op rfl rfl rfl rfl ?_ | refine W.skip rfl rfl ?_ | refine W.fld rfl rfl rfl rfl rfl ?_ | refine W.ld rfl rfl rfl rfl rfl ?_))
  refine W.call (slices_Repeat g n (List.replicate 256 0) h1 (by omega)) rfl rfl rfl rfl Tryz.call101 ⟨rfl, rfl, trivial⟩ ?_
  rintro _ _ ⟨nb, rfl, rfl⟩
  refine W.mmk .i64 rfl rfl rfl rfl fun wb => ?_
  refine W.bld rfl rfl rfl rfl rfl ?_
  refine W.box rfl rfl rfl rfl rfl fun dp => ?_
  (repeat (first | refine W.ctl rfl ?_ | refine W.op rfl rfl rfl rfl ?_ | refine W.skip rfl rfl ?_ | refine W.fld rfl rfl rfl rfl rfl ?_ | refine W.ld rfl rfl rfl rfl rfl ?_))
  refine W.ret2 (.inr rfl) rfl rfl rfl _ ⟨dp, rfl, rfl⟩ ?_
  have e : Imp (row dp 183 [.slice (some ⟨nb, 0, none⟩) n n, .map (some wb), .slice none 0 0, int (-1), .bool false] • row nb 9 (List.replicate n (str (List.replicate 256 0))) • mapI .i64 wb []) (DiskP dp (M.Disk.new n)) := by
    have e := DiskP.mk0 (p := dp) nb wb (new_ok n h0 h1) rfl
    simp only [M.Disk.new, List.length_replicate, List.map_replicate, sep_emp'] at e
    exact e
  exact Imp.pack e Imp.all
/-- shadow.Format, when the head is laid. -/
theorem shadow_Format (dp : Nat) (D : Disk) (h : (M.format D).2 = 0) : CS 53 [ptr dp] (DiskP dp D) fun v H' => ∃ sp, v = .tuple #[ptr sp, int 0] ∧ H' = StoreP sp dp (M.over (M.format D).1 1 0 M.noneUsed) := by
  refine CS.walk Tryz.func53 rfl Tryz.ntmps53 rfl fun c R => ?_
  (repeat (first | refine W.ctl rfl ?_ | refine W.op rfl rfl rfl rfl ?_ | refine W.skip rfl rfl ?_ | refine W.fld rfl rfl rfl rfl rfl ?_ | refine W.ld rfl rfl rfl rfl rfl ?_))
  refine W.call bits_New rfl rfl rfl rfl Tryz.call102 ⟨rfl, trivial⟩ ?_
  rintro _ _ ⟨rfl, rfl⟩
  rw [emp_sep]
  refine W.bld rfl rfl rfl rfl rfl ?_
  refine W.alc rfl rfl rfl rfl fun hb => ?_
  refine W.sts rfl rfl rfl rfl rfl rfl ?_
  (repeat (first | refine W.ctl rfl ?_ | refine W.op rfl rfl rfl rfl ?_ | refine W.skip rfl rfl ?_ | refine W.fld rfl rfl rfl rfl rfl ?_ | refine W.ld rfl rfl rfl rfl rfl ?_))
  refine W.lds rfl rfl rfl rfl rfl ?_
  (repeat (first | refine W.ctl rfl ?_ | refine W.op rfl rfl rfl rfl ?_ | refine W.skip rfl rfl ?_))
  have hu : M.noneUsed.length = 80 := by simp [M.noneUsed]
  refine W.call (head_lay dp D 1 0 M.noneUsed (by omega) (by omega) (by omega) (by omega) (by omega)) rfl rfl rfl rfl Tryz.call98 ⟨rfl, rfl, trivial⟩ ?_
  rintro _ _ ⟨rfl, rfl⟩
  (repeat (first | refine W.ctl rfl ?_ | refine W.op rfl rfl rfl rfl ?_ | refine W.skip rfl rfl ?_ | refine W.fld rfl rfl rfl rfl rfl ?_ | refine W.ld rfl rfl rfl rfl rfl ?_))
  refine W.no rfl rfl rfl rfl (by simpa [M.format] using h) ?_
  (repeat (first | refine W.ctl rfl ?_ | refine W.op rfl rfl rfl rfl ?_ | refine W.skip rfl rfl ?_ | refine W.fld rfl rfl rfl rfl rfl ?_ | refine W.ld rfl rfl rfl rfl rfl ?_))
  refine W.lds rfl rfl rfl rfl rfl ?_
  refine W.call (shadow_over dp (M.headLay D 1 0 M.noneUsed).1 1 0 M.noneUsed (by omega) (by omega) (by omega) (by omega) hu) rfl rfl rfl rfl Tryz.call91 ⟨rfl, rfl, trivial⟩ ?_
  rintro _ _ ⟨sp, rfl, rfl⟩
  (repeat (first | refine W.ctl rfl ?_ | refine W.op rfl rfl rfl rfl ?_ | refine W.skip rfl rfl ?_ | refine W.fld rfl rfl rfl rfl rfl ?_ | refine W.ld rfl rfl rfl rfl rfl ?_))
  refine W.ret2 (.inr rfl) rfl rfl rfl _ ⟨sp, rfl, rfl⟩ ?_
  rw [M.format]
  exact Imp.all
end Go.Proofs.YtbdhhedfplkidaaGreat
