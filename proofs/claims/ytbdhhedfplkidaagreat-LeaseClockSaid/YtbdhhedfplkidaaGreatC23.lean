/- Law 16: the clock: the walk. -/
import Derived.Test.YtbdhhedfplkidaaGreatL16p
import Derived.Test.YtbdhhedfplkidaaGreatE13
namespace Go.Proofs.YtbdhhedfplkidaaGreat
open Go
open M (Str Store Work Spot Txn)
set_option maxHeartbeats 2000000
set_option maxRecDepth 2000
theorem law16_made : CS 15 [] emp fun v H' => ∃ tp sp dp T, (v = ptr tp ∧ Cs T none) ∧ H' = TxnH tp sp dp T := by
  refine CS.walk Tryz.func15 rfl Tryz.ntmps15 rfl fun c R => ?_
  rw [emp_sep]
  obtain ⟨f1, f2, f3⟩ := format_fm 640 (by omega) (by omega)
  (repeat (first | refine W.ctl rfl ?_ | refine W.op rfl rfl rfl rfl ?_ | refine W.skip rfl rfl ?_ | refine W.fld rfl rfl rfl rfl rfl ?_ | refine W.ld rfl rfl rfl rfl rfl ?_))
  refine W.call (disk_New 640 (by omega) (by omega)) rfl rfl rfl rfl Tryz.call52 ⟨rfl, trivial⟩ ?_
  rintro _ _ ⟨dp, rfl, rfl⟩
  (repeat (first | refine W.ctl rfl ?_ | refine W.op rfl rfl rfl rfl ?_ | refine W.skip rfl rfl ?_ | refine W.fld rfl rfl rfl rfl rfl ?_ | refine W.ld rfl rfl rfl rfl rfl ?_))
  refine W.peq rfl rfl rfl rfl rfl rfl ?_
  (repeat (first | refine W.ctl rfl ?_ | refine W.op rfl rfl rfl rfl ?_ | refine W.skip rfl rfl ?_ | refine W.fld rfl rfl rfl rfl rfl ?_ | refine W.ld rfl rfl rfl rfl rfl ?_))
  refine W.no rfl rfl rfl rfl (by simp) ?_
  (repeat (first | refine W.ctl rfl ?_ | refine W.op rfl rfl rfl rfl ?_ | refine W.skip rfl rfl ?_ | refine W.fld rfl rfl rfl rfl rfl ?_ | refine W.ld rfl rfl rfl rfl rfl ?_))
  refine W.call (shadow_Format dp (M.Disk.new 640) f1) rfl rfl rfl rfl Tryz.call53 ⟨rfl, trivial⟩ ?_
  rintro _ _ ⟨sp, rfl, rfl⟩
  (repeat (first | refine W.ctl rfl ?_ | refine W.op rfl rfl rfl rfl ?_ | refine W.skip rfl rfl ?_ | refine W.fld rfl rfl rfl rfl rfl ?_ | refine W.ld rfl rfl rfl rfl rfl ?_))
  refine W.peq rfl rfl rfl rfl rfl rfl ?_
  (repeat (first | refine W.ctl rfl ?_ | refine W.op rfl rfl rfl rfl ?_ | refine W.skip rfl rfl ?_ | refine W.fld rfl rfl rfl rfl rfl ?_ | refine W.ld rfl rfl rfl rfl rfl ?_))
  refine W.no rfl rfl rfl rfl (by simp) ?_
  (repeat (first | refine W.ctl rfl ?_ | refine W.op rfl rfl rfl rfl ?_ | refine W.skip rfl rfl ?_ | refine W.fld rfl rfl rfl rfl rfl ?_ | refine W.ld rfl rfl rfl rfl rfl ?_))
  refine W.call (txn_Begin sp dp (M.over (M.format (M.Disk.new 640)).1 1 0 M.noneUsed)) rfl rfl rfl rfl Tryz.call36 ⟨rfl, trivial⟩ ?_
  rintro _ _ ⟨tp, rfl, rfl⟩
  (repeat (first | refine W.ctl rfl ?_ | refine W.op rfl rfl rfl rfl ?_ | refine W.skip rfl rfl ?_ | refine W.fld rfl rfl rfl rfl rfl ?_ | refine W.ld rfl rfl rfl rfl rfl ?_))
  exact W.ret1 (.inr rfl) rfl rfl _ ⟨tp, sp, dp, _, ⟨rfl, cs_begin _ f3⟩, rfl⟩ Imp.all
theorem law16_examples : CS 14 [] emp fun v H' => v = .bool true ∧ H' = emp := by
  refine CS.walk Tryz.func14 rfl Tryz.ntmps14 rfl fun c R => ?_
  rw [emp_sep]
  (repeat (first | refine W.ctl rfl ?_ | refine W.op rfl rfl rfl rfl ?_ | refine W.skip rfl rfl ?_ | refine W.fld rfl rfl rfl rfl rfl ?_ | refine W.ld rfl rfl rfl rfl rfl ?_))
  refine W.call law16_made rfl rfl rfl rfl Tryz.call15 trivial ?_
  rintro _ _ ⟨tp, sp, dp, T, ⟨rfl, hT⟩, rfl⟩
  (repeat (first | refine W.ctl rfl ?_ | refine W.op rfl rfl rfl rfl ?_ | refine W.skip rfl rfl ?_ | refine W.fld rfl rfl rfl rfl rfl ?_ | refine W.ld rfl rfl rfl rfl rfl ?_))
  refine W.peq rfl rfl rfl rfl rfl rfl ?_
  have b0 := hT.root
  have c0 := clock_law hT (by simp [val])
  have hcl := lease_Clock tp sp dp T (by omega) (by omega)
  rw [c0] at hcl
  (repeat (first | refine W.ctl rfl ?_ | refine W.op rfl rfl rfl rfl ?_ | refine W.skip rfl rfl ?_ | refine W.fld rfl rfl rfl rfl rfl ?_ | refine W.ld rfl rfl rfl rfl rfl ?_))
  refine W.call hcl rfl rfl rfl rfl Tryz.call17 ⟨rfl, trivial⟩ ?_
  rintro _ _ ⟨rfl, rfl⟩
  dsimp only
  (repeat (first | refine W.ctl rfl ?_ | refine W.op rfl rfl rfl rfl ?_ | refine W.skip rfl rfl ?_ | refine W.fld rfl rfl rfl rfl rfl ?_ | refine W.ld rfl rfl rfl rfl rfl ?_))
  have ht := lease_Tick tp sp dp T 5 (by omega) (by omega) (by rw [c0]; dsimp only; omega) (by rw [c0]; dsimp only; omega) (by omega) (by omega)
  obtain ⟨v, hv, hv2, hT2⟩ := tick_ok hT (by simp [val]) (n := 5) (by omega) (by simp [val])
  obtain rfl : v = 5 := by simp [val] at hv; omega
  rw [hv2] at ht
  refine W.call ht rfl rfl rfl rfl Tryz.call16 ⟨rfl, rfl, trivial⟩ ?_
  rintro _ _ ⟨rfl, rfl⟩
  obtain ⟨T2, hT2e⟩ : ∃ T2, (M.tick T 5).1 = T2 := ⟨_, rfl⟩
  rw [hT2e] at hT2 ⊢
  have b2 := hT2.root
  have c2 := clock_law hT2 (by simp [val])
  have hf := tick_full hT2 (by simp [val]) (n := 268435455) (by omega) (by simp [val])
  have ht2 := lease_Tick tp sp dp T2 268435455 (by omega) (by omega) (by rw [c2]; dsimp only; omega) (by rw [c2]; dsimp only; omega) (by omega) (by omega)
  rw [hf] at ht2
  dsimp only
  (repeat (first | refine W.ctl rfl ?_ | refine W.op rfl rfl rfl rfl ?_ | refine W.skip rfl rfl ?_ | refine W.fld rfl rfl rfl rfl rfl ?_ | refine W.ld rfl rfl rfl rfl rfl ?_))
  refine W.call ht2 rfl rfl rfl rfl Tryz.call16 ⟨rfl, rfl, trivial⟩ ?_
  rintro _ _ ⟨rfl, rfl⟩
  dsimp only
  (repeat (first | refine W.ctl rfl ?_ | refine W.op rfl rfl rfl rfl ?_ | refine W.skip rfl rfl ?_ | refine W.fld rfl rfl rfl rfl rfl ?_ | refine W.ld rfl rfl rfl rfl rfl ?_))
  refine W.yes rfl rfl rfl rfl rfl ?_
  (repeat (first | refine W.ctl rfl ?_ | refine W.op rfl rfl rfl rfl ?_ | refine W.skip rfl rfl ?_ | refine W.fld rfl rfl rfl rfl rfl ?_ | refine W.ld rfl rfl rfl rfl rfl ?_))
  refine W.yes rfl rfl rfl rfl rfl ?_
  (repeat (first | refine W.ctl rfl ?_ | refine W.op rfl rfl rfl rfl ?_ | refine W.skip rfl rfl ?_ | refine W.fld rfl rfl rfl rfl rfl ?_ | refine W.ld rfl rfl rfl rfl rfl ?_))
  refine W.yes rfl rfl rfl rfl rfl ?_
  (repeat (first | refine W.ctl rfl ?_ | refine W.op rfl rfl rfl rfl ?_ | refine W.skip rfl rfl ?_ | refine W.fld rfl rfl rfl rfl rfl ?_ | refine W.ld rfl rfl rfl rfl rfl ?_))
  refine W.yes rfl rfl rfl rfl rfl ?_
  (repeat (first | refine W.ctl rfl ?_ | refine W.op rfl rfl rfl rfl ?_ | refine W.skip rfl rfl ?_ | refine W.fld rfl rfl rfl rfl rfl ?_ | refine W.ld rfl rfl rfl rfl rfl ?_))
  refine W.yes rfl rfl rfl rfl rfl ?_
  (repeat (first | refine W.ctl rfl ?_ | refine W.op rfl rfl rfl rfl ?_ | refine W.skip rfl rfl ?_ | refine W.fld rfl rfl rfl rfl rfl ?_ | refine W.ld rfl rfl rfl rfl rfl ?_))
  exact W.ret1 (.inr rfl) rfl rfl _ ⟨rfl, rfl⟩ Imp.all
/-- A list of numbers that was handed in. -/
structure ArgI (W : World) (a : Option Addr) (len cap : Nat) (zs : List Int) : Prop where
  lc : len ≤ cap
  cm : cap ≤ maxLen
  cell : ∀ i, i < len → ∃ p z, a = some p ∧ zs[i]? = some z ∧ W.cell? (p.add i) = some (int z) ∧ -9223372036854775808 ≤ z ∧ z < 9223372036854775808
theorem law_LeaseClock (W0 : World) (a : Option Addr) (len cap : Nat) (zs : List Int) (ha : ArgI W0 a len cap zs) : CS 3 [.slice a len cap] (oldH W0) fun v H' => v = .bool true ∧ H' = oldH W0 := by
  have hlen : len ≤ 9223372036854775807 := by have := ha.lc; have := ha.cm; simp only [maxLen] at this; omega
  refine CS.walk Tryz.func3 rfl Tryz.ntmps3 rfl fun c R => ?_
  (repeat (first | refine W.ctl rfl ?_ | refine W.op rfl rfl rfl rfl ?_ | refine W.skip rfl rfl ?_ | refine W.fld rfl rfl rfl rfl rfl ?_ | refine W.ld rfl rfl rfl rfl rfl ?_))
  refine W.call law16_examples rfl rfl rfl rfl Tryz.call14 trivial ?_
  rintro _ _ ⟨rfl, rfl⟩
  rw [emp_sep]
  (repeat (first | refine W.ctl rfl ?_ | refine W.op rfl rfl rfl rfl ?_ | refine W.skip rfl rfl ?_ | refine W.fld rfl rfl rfl rfl rfl ?_ | refine W.ld rfl rfl rfl rfl rfl ?_))
  refine W.call law16_made rfl rfl rfl rfl Tryz.call15 trivial ?_
  rintro _ _ ⟨tp, sp, dp, T, ⟨rfl, hT⟩, rfl⟩
  (repeat (first | refine W.ctl rfl ?_ | refine W.op rfl rfl rfl rfl ?_ | refine W.skip rfl rfl ?_ | refine W.fld rfl rfl rfl rfl rfl ?_ | refine W.ld rfl rfl rfl rfl rfl ?_))
  refine W.peq rfl rfl rfl rfl rfl rfl ?_
  (repeat (first | refine W.ctl rfl ?_ | refine W.op rfl rfl rfl rfl ?_ | refine W.skip rfl rfl ?_ | refine W.fld rfl rfl rfl rfl rfl ?_ | refine W.ld rfl rfl rfl rfl rfl ?_))
  refine W.loop (σ := Nat × Txn × Option Nat) (fun p => p.1 ≤ len ∧ Cs p.2.1 p.2.2 ∧ val p.2.2 ≤ 268435455) (fun p => [(0, .slice a len cap), (3, .bool true), (4, ptr tp), (5, int (val p.2.2)), (6, int p.1)])
    (fun p => TxnH tp sp dp p.2.1 • oldH W0 • R) (fun p => len - p.1) (0, T, none) ⟨by dsimp only; omega, hT, by simp [val]⟩ ⟨rfl, rfl, rfl, rfl, rfl, trivial⟩ Imp.all ?_
  clear hT
  clear T
  rintro ⟨i, T, o⟩ ⟨i1, hT, i3⟩
  dsimp only at i1 hT i3 ⊢
  (repeat (first | refine W.ctl rfl ?_ | refine W.op rfl rfl rfl rfl ?_ | refine W.skip rfl rfl ?_ | refine W.fld rfl rfl rfl rfl rfl ?_ | refine W.ld rfl rfl rfl rfl rfl ?_))
  refine W.len rfl rfl rfl rfl rfl ?_
  by_cases h1 : (i : Int) < len
  · refine W.yes rfl rfl rfl rfl h1 ?_
    (repeat (first | refine W.ctl rfl ?_ | refine W.op rfl rfl rfl rfl ?_ | refine W.skip rfl rfl ?_ | refine W.fld rfl rfl rfl rfl rfl ?_ | refine W.ld rfl rfl rfl rfl rfl ?_))
    by_cases h2 : (i : Int) < 20
    · refine W.yes rfl rfl rfl rfl h2 ?_
      (repeat (first | refine W.ctl rfl ?_ | refine W.op rfl rfl rfl rfl ?_ | refine W.skip rfl rfl ?_ | refine W.fld rfl rfl rfl rfl rfl ?_ | refine W.ld rfl rfl rfl rfl rfl ?_))
      obtain ⟨p, z, rfl, hz, hcell, z0, z1⟩ := ha.cell i (by omega)
      have hcell' : W0.cell? (p.add ((i : Int).toNat * 1)) = some (int z) := by rw [Int.toNat_natCast, Nat.mul_one]; exact hcell
      have b0 := hT.root
      have c0 := clock_law hT i3
      refine W.idxg rfl rfl rfl rfl rfl rfl (by omega) (by omega) ?_
      (repeat (first | refine W.ctl rfl ?_ | refine W.op rfl rfl rfl rfl ?_ | refine W.skip rfl rfl ?_))
      refine W.ldo W0 rfl rfl rfl rfl rfl hcell' ?_
      (repeat (first | refine W.ctl rfl ?_ | refine W.op rfl rfl rfl rfl ?_ | refine W.skip rfl rfl ?_))
      have ht := lease_Tick tp sp dp T z (by omega) (by omega) (by rw [c0]; dsimp only; omega) (by rw [c0]; dsimp only; omega) z0 z1
      by_cases hn : z < 0
      · rw [tick_neg hT hn] at ht
        refine W.call ht rfl rfl rfl rfl Tryz.call16 ⟨rfl, rfl, trivial⟩ ?_
        rintro _ _ ⟨rfl, rfl⟩
        dsimp only
        (repeat (first | refine W.ctl rfl ?_ | refine W.op rfl rfl rfl rfl ?_ | refine W.skip rfl rfl ?_ | refine W.fld rfl rfl rfl rfl rfl ?_ | refine W.ld rfl rfl rfl rfl rfl ?_))
        refine W.idxg rfl rfl rfl rfl rfl rfl (by omega) (by omega) ?_
        (repeat (first | refine W.ctl rfl ?_ | refine W.op rfl rfl rfl rfl ?_ | refine W.skip rfl rfl ?_))
        refine W.ldo W0 rfl rfl rfl rfl rfl hcell' ?_
        (repeat (first | refine W.ctl rfl ?_ | refine W.op rfl rfl rfl rfl ?_ | refine W.skip rfl rfl ?_))
        refine W.no rfl rfl rfl rfl (by omega) ?_
        (repeat (first | refine W.ctl rfl ?_ | refine W.op rfl rfl rfl rfl ?_ | refine W.skip rfl rfl ?_ | refine W.fld rfl rfl rfl rfl rfl ?_ | refine W.ld rfl rfl rfl rfl rfl ?_))
        have hcl := lease_Clock tp sp dp T (by omega) (by omega)
        rw [c0] at hcl
        refine W.call hcl rfl rfl rfl rfl Tryz.call17 ⟨rfl, trivial⟩ ?_
        rintro _ _ ⟨rfl, rfl⟩
        dsimp only
        (repeat (first | refine W.ctl rfl ?_ | refine W.op rfl rfl rfl rfl ?_ | refine W.skip rfl rfl ?_ | refine W.fld rfl rfl rfl rfl rfl ?_ | refine W.ld rfl rfl rfl rfl rfl ?_))
        refine W.idxg rfl rfl rfl rfl rfl rfl (by omega) (by omega) ?_
        (repeat (first | refine W.ctl rfl ?_ | refine W.op rfl rfl rfl rfl ?_ | refine W.skip rfl rfl ?_))
        refine W.ldo W0 rfl rfl rfl rfl rfl hcell' ?_
        (repeat (first | refine W.ctl rfl ?_ | refine W.op rfl rfl rfl rfl ?_ | refine W.skip rfl rfl ?_))
        refine W.yes rfl rfl rfl rfl hn ?_
        (repeat (first | refine W.ctl rfl ?_ | refine W.op rfl rfl rfl rfl ?_ | refine W.skip rfl rfl ?_ | refine W.fld rfl rfl rfl rfl rfl ?_ | refine W.ld rfl rfl rfl rfl rfl ?_))
        refine W.no rfl rfl rfl rfl (by simp) ?_
        (repeat (first | refine W.ctl rfl ?_ | refine W.op rfl rfl rfl rfl ?_ | refine W.skip rfl rfl ?_ | refine W.fld rfl rfl rfl rfl rfl ?_ | refine W.ld rfl rfl rfl rfl rfl ?_))
        refine W.idxg rfl rfl rfl rfl rfl rfl (by omega) (by omega) ?_
        (repeat (first | refine W.ctl rfl ?_ | refine W.op rfl rfl rfl rfl ?_ | refine W.skip rfl rfl ?_))
        refine W.ldo W0 rfl rfl rfl rfl rfl hcell' ?_
        (repeat (first | refine W.ctl rfl ?_ | refine W.op rfl rfl rfl rfl ?_ | refine W.skip rfl rfl ?_))
        refine W.no rfl rfl rfl rfl (by omega) ?_
        (repeat (first | refine W.ctl rfl ?_ | refine W.op rfl rfl rfl rfl ?_ | refine W.skip rfl rfl ?_ | refine W.fld rfl rfl rfl rfl rfl ?_ | refine W.ld rfl rfl rfl rfl rfl ?_))
        refine W.no rfl rfl rfl rfl (by simp) ?_
        (repeat (first | refine W.ctl rfl ?_ | refine W.op rfl rfl rfl rfl ?_ | refine W.skip rfl rfl ?_ | refine W.fld rfl rfl rfl rfl rfl ?_ | refine W.ld rfl rfl rfl rfl rfl ?_))
        refine W.no rfl rfl rfl rfl (by simp) ?_
        (repeat (first | refine W.ctl rfl ?_ | refine W.op rfl rfl rfl rfl ?_ | refine W.skip rfl rfl ?_ | refine W.fld rfl rfl rfl rfl rfl ?_ | refine W.ld rfl rfl rfl rfl rfl ?_))
        refine W.ar (r := ((i + 1 : Nat) : Int)) rfl rfl rfl rfl rfl rfl rfl (wrap_i64 (by omega) (by omega)) ?_
        (repeat (first | refine W.ctl rfl ?_ | refine W.op rfl rfl rfl rfl ?_ | refine W.skip rfl rfl ?_ | refine W.fld rfl rfl rfl rfl rfl ?_ | refine W.ld rfl rfl rfl rfl rfl ?_))
        exact W.again (i + 1, T, o) ⟨by dsimp only; omega, hT, i3⟩ (by dsimp only; omega) ⟨rfl, rfl, rfl, rfl, rfl, trivial⟩ Imp.all
      by_cases hf : 268435455 - (val o : Int) < z
      · rw [tick_full hT i3 (by omega) hf] at ht
        refine W.call ht rfl rfl rfl rfl Tryz.call16 ⟨rfl, rfl, trivial⟩ ?_
        rintro _ _ ⟨rfl, rfl⟩
        dsimp only
        (repeat (first | refine W.ctl rfl ?_ | refine W.op rfl rfl rfl rfl ?_ | refine W.skip rfl rfl ?_ | refine W.fld rfl rfl rfl rfl rfl ?_ | refine W.ld rfl rfl rfl rfl rfl ?_))
        refine W.idxg rfl rfl rfl rfl rfl rfl (by omega) (by omega) ?_
        (repeat (first | refine W.ctl rfl ?_ | refine W.op rfl rfl rfl rfl ?_ | refine W.skip rfl rfl ?_))
        refine W.ldo W0 rfl rfl rfl rfl rfl hcell' ?_
        (repeat (first | refine W.ctl rfl ?_ | refine W.op rfl rfl rfl rfl ?_ | refine W.skip rfl rfl ?_))
        refine W.yes rfl rfl rfl rfl (by omega) ?_
        (repeat (first | refine W.ctl rfl ?_ | refine W.op rfl rfl rfl rfl ?_ | refine W.skip rfl rfl ?_ | refine W.fld rfl rfl rfl rfl rfl ?_ | refine W.ld rfl rfl rfl rfl rfl ?_))
        refine W.idxg rfl rfl rfl rfl rfl rfl (by omega) (by omega) ?_
        (repeat (first | refine W.ctl rfl ?_ | refine W.op rfl rfl rfl rfl ?_ | refine W.skip rfl rfl ?_))
        refine W.ldo W0 rfl rfl rfl rfl rfl hcell' ?_
        (repeat (first | refine W.ctl rfl ?_ | refine W.op rfl rfl rfl rfl ?_ | refine W.skip rfl rfl ?_))
        (repeat (first | refine W.ctl rfl ?_ | refine W.op rfl rfl rfl rfl ?_ | refine W.skip rfl rfl ?_ | refine W.fld rfl rfl rfl rfl rfl ?_ | refine W.ld rfl rfl rfl rfl rfl ?_))
        refine W.ar (r := 268435455 - (val o : Int)) rfl rfl rfl rfl rfl rfl rfl (wrap_i64 (by omega) (by omega)) ?_
        (repeat (first | refine W.ctl rfl ?_ | refine W.op rfl rfl rfl rfl ?_ | refine W.skip rfl rfl ?_))
        refine W.no rfl rfl rfl rfl (by omega) ?_
        (repeat (first | refine W.ctl rfl ?_ | refine W.op rfl rfl rfl rfl ?_ | refine W.skip rfl rfl ?_ | refine W.fld rfl rfl rfl rfl rfl ?_ | refine W.ld rfl rfl rfl rfl rfl ?_))
        have hcl := lease_Clock tp sp dp T (by omega) (by omega)
        rw [c0] at hcl
        refine W.call hcl rfl rfl rfl rfl Tryz.call17 ⟨rfl, trivial⟩ ?_
        rintro _ _ ⟨rfl, rfl⟩
        dsimp only
        (repeat (first | refine W.ctl rfl ?_ | refine W.op rfl rfl rfl rfl ?_ | refine W.skip rfl rfl ?_ | refine W.fld rfl rfl rfl rfl rfl ?_ | refine W.ld rfl rfl rfl rfl rfl ?_))
        refine W.idxg rfl rfl rfl rfl rfl rfl (by omega) (by omega) ?_
        (repeat (first | refine W.ctl rfl ?_ | refine W.op rfl rfl rfl rfl ?_ | refine W.skip rfl rfl ?_))
        refine W.ldo W0 rfl rfl rfl rfl rfl hcell' ?_
        (repeat (first | refine W.ctl rfl ?_ | refine W.op rfl rfl rfl rfl ?_ | refine W.skip rfl rfl ?_))
        refine W.no rfl rfl rfl rfl hn ?_
        (repeat (first | refine W.ctl rfl ?_ | refine W.op rfl rfl rfl rfl ?_ | refine W.skip rfl rfl ?_ | refine W.fld rfl rfl rfl rfl rfl ?_ | refine W.ld rfl rfl rfl rfl rfl ?_))
        refine W.idxg rfl rfl rfl rfl rfl rfl (by omega) (by omega) ?_
        (repeat (first | refine W.ctl rfl ?_ | refine W.op rfl rfl rfl rfl ?_ | refine W.skip rfl rfl ?_))
        refine W.ldo W0 rfl rfl rfl rfl rfl hcell' ?_
        (repeat (first | refine W.ctl rfl ?_ | refine W.op rfl rfl rfl rfl ?_ | refine W.skip rfl rfl ?_))
        refine W.yes rfl rfl rfl rfl (by omega) ?_
        (repeat (first | refine W.ctl rfl ?_ | refine W.op rfl rfl rfl rfl ?_ | refine W.skip rfl rfl ?_ | refine W.fld rfl rfl rfl rfl rfl ?_ | refine W.ld rfl rfl rfl rfl rfl ?_))
        refine W.no rfl rfl rfl rfl (by simp) ?_
        (repeat (first | refine W.ctl rfl ?_ | refine W.op rfl rfl rfl rfl ?_ | refine W.skip rfl rfl ?_ | refine W.fld rfl rfl rfl rfl rfl ?_ | refine W.ld rfl rfl rfl rfl rfl ?_))
        refine W.no rfl rfl rfl rfl (by simp) ?_
        (repeat (first | refine W.ctl rfl ?_ | refine W.op rfl rfl rfl rfl ?_ | refine W.skip rfl rfl ?_ | refine W.fld rfl rfl rfl rfl rfl ?_ | refine W.ld rfl rfl rfl rfl rfl ?_))
        refine W.no rfl rfl rfl rfl (by simp) ?_
        (repeat (first | refine W.ctl rfl ?_ | refine W.op rfl rfl rfl rfl ?_ | refine W.skip rfl rfl ?_ | refine W.fld rfl rfl rfl rfl rfl ?_ | refine W.ld rfl rfl rfl rfl rfl ?_))
        refine W.ar (r := ((i + 1 : Nat) : Int)) rfl rfl rfl rfl rfl rfl rfl (wrap_i64 (by omega) (by omega)) ?_
        (repeat (first | refine W.ctl rfl ?_ | refine W.op rfl rfl rfl rfl ?_ | refine W.skip rfl rfl ?_ | refine W.fld rfl rfl rfl rfl rfl ?_ | refine W.ld rfl rfl rfl rfl rfl ?_))
        exact W.again (i + 1, T, o) ⟨by dsimp only; omega, hT, i3⟩ (by dsimp only; omega) ⟨rfl, rfl, rfl, rfl, rfl, trivial⟩ Imp.all
      obtain ⟨v, hv, hv2, hT2⟩ := tick_ok hT i3 (n := z) (by omega) (by omega)
      rw [hv2] at ht
      refine W.call ht rfl rfl rfl rfl Tryz.call16 ⟨rfl, rfl, trivial⟩ ?_
      rintro _ _ ⟨rfl, rfl⟩
      obtain ⟨T2, hT2e⟩ : ∃ T2, (M.tick T z).1 = T2 := ⟨_, rfl⟩
      rw [hT2e] at hT2 ⊢
      have b2 := hT2.root
      have hvm : v ≤ 268435455 := by omega
      have c2 := clock_law hT2 hvm
      dsimp only
      (repeat (first | refine W.ctl rfl ?_ | refine W.op rfl rfl rfl rfl ?_ | refine W.skip rfl rfl ?_ | refine W.fld rfl rfl rfl rfl rfl ?_ | refine W.ld rfl rfl rfl rfl rfl ?_))
      refine W.idxg rfl rfl rfl rfl rfl rfl (by omega) (by omega) ?_
      (repeat (first | refine W.ctl rfl ?_ | refine W.op rfl rfl rfl rfl ?_ | refine W.skip rfl rfl ?_))
      refine W.ldo W0 rfl rfl rfl rfl rfl hcell' ?_
      (repeat (first | refine W.ctl rfl ?_ | refine W.op rfl rfl rfl rfl ?_ | refine W.skip rfl rfl ?_))
      refine W.yes rfl rfl rfl rfl (by omega) ?_
      (repeat (first | refine W.ctl rfl ?_ | refine W.op rfl rfl rfl rfl ?_ | refine W.skip rfl rfl ?_ | refine W.fld rfl rfl rfl rfl rfl ?_ | refine W.ld rfl rfl rfl rfl rfl ?_))
      refine W.idxg rfl rfl rfl rfl rfl rfl (by omega) (by omega) ?_
      (repeat (first | refine W.ctl rfl ?_ | refine W.op rfl rfl rfl rfl ?_ | refine W.skip rfl rfl ?_))
      refine W.ldo W0 rfl rfl rfl rfl rfl hcell' ?_
      (repeat (first | refine W.ctl rfl ?_ | refine W.op rfl rfl rfl rfl ?_ | refine W.skip rfl rfl ?_))
      (repeat (first | refine W.ctl rfl ?_ | refine W.op rfl rfl rfl rfl ?_ | refine W.skip rfl rfl ?_ | refine W.fld rfl rfl rfl rfl rfl ?_ | refine W.ld rfl rfl rfl rfl rfl ?_))
      refine W.ar (r := 268435455 - (val o : Int)) rfl rfl rfl rfl rfl rfl rfl (wrap_i64 (by omega) (by omega)) ?_
      (repeat (first | refine W.ctl rfl ?_ | refine W.op rfl rfl rfl rfl ?_ | refine W.skip rfl rfl ?_))
      refine W.yes rfl rfl rfl rfl (by omega) ?_
      (repeat (first | refine W.ctl rfl ?_ | refine W.op rfl rfl rfl rfl ?_ | refine W.skip rfl rfl ?_ | refine W.fld rfl rfl rfl rfl rfl ?_ | refine W.ld rfl rfl rfl rfl rfl ?_))
      refine W.idxg rfl rfl rfl rfl rfl rfl (by omega) (by omega) ?_
      (repeat (first | refine W.ctl rfl ?_ | refine W.op rfl rfl rfl rfl ?_ | refine W.skip rfl rfl ?_))
      refine W.ldo W0 rfl rfl rfl rfl rfl hcell' ?_
      (repeat (first | refine W.ctl rfl ?_ | refine W.op rfl rfl rfl rfl ?_ | refine W.skip rfl rfl ?_))
      refine W.ar (r := (v : Int)) rfl rfl rfl rfl rfl rfl (congrArg some hv.symm) (wrap_i64 (by omega) (by omega)) ?_
      (repeat (first | refine W.ctl rfl ?_ | refine W.op rfl rfl rfl rfl ?_ | refine W.skip rfl rfl ?_ | refine W.fld rfl rfl rfl rfl rfl ?_ | refine W.ld rfl rfl rfl rfl rfl ?_))
      have hcl := lease_Clock tp sp dp T2 (by omega) (by omega)
      rw [c2] at hcl
      refine W.call hcl rfl rfl rfl rfl Tryz.call17 ⟨rfl, trivial⟩ ?_
      rintro _ _ ⟨rfl, rfl⟩
      dsimp only [val]
      (repeat (first | refine W.ctl rfl ?_ | refine W.op rfl rfl rfl rfl ?_ | refine W.skip rfl rfl ?_ | refine W.fld rfl rfl rfl rfl rfl ?_ | refine W.ld rfl rfl rfl rfl rfl ?_))
      refine W.no rfl rfl rfl rfl (by simp) ?_
      (repeat (first | refine W.ctl rfl ?_ | refine W.op rfl rfl rfl rfl ?_ | refine W.skip rfl rfl ?_ | refine W.fld rfl rfl rfl rfl rfl ?_ | refine W.ld rfl rfl rfl rfl rfl ?_))
      refine W.no rfl rfl rfl rfl (by simp) ?_
      (repeat (first | refine W.ctl rfl ?_ | refine W.op rfl rfl rfl rfl ?_ | refine W.skip rfl rfl ?_ | refine W.fld rfl rfl rfl rfl rfl ?_ | refine W.ld rfl rfl rfl rfl rfl ?_))
      refine W.idxg rfl rfl rfl rfl rfl rfl (by omega) (by omega) ?_
      (repeat (first | refine W.ctl rfl ?_ | refine W.op rfl rfl rfl rfl ?_ | refine W.skip rfl rfl ?_))
      refine W.ldo W0 rfl rfl rfl rfl rfl hcell' ?_
      (repeat (first | refine W.ctl rfl ?_ | refine W.op rfl rfl rfl rfl ?_ | refine W.skip rfl rfl ?_))
      refine W.no rfl rfl rfl rfl hn ?_
      (repeat (first | refine W.ctl rfl ?_ | refine W.op rfl rfl rfl rfl ?_ | refine W.skip rfl rfl ?_ | refine W.fld rfl rfl rfl rfl rfl ?_ | refine W.ld rfl rfl rfl rfl rfl ?_))
      refine W.idxg rfl rfl rfl rfl rfl rfl (by omega) (by omega) ?_
      (repeat (first | refine W.ctl rfl ?_ | refine W.op rfl rfl rfl rfl ?_ | refine W.skip rfl rfl ?_))
      refine W.ldo W0 rfl rfl rfl rfl rfl hcell' ?_
      (repeat (first | refine W.ctl rfl ?_ | refine W.op rfl rfl rfl rfl ?_ | refine W.skip rfl rfl ?_))
      refine W.yes rfl rfl rfl rfl (by omega) ?_
      (repeat (first | refine W.ctl rfl ?_ | refine W.op rfl rfl rfl rfl ?_ | refine W.skip rfl rfl ?_ | refine W.fld rfl rfl rfl rfl rfl ?_ | refine W.ld rfl rfl rfl rfl rfl ?_))
      refine W.no rfl rfl rfl rfl (by simp) ?_
      (repeat (first | refine W.ctl rfl ?_ | refine W.op rfl rfl rfl rfl ?_ | refine W.skip rfl rfl ?_ | refine W.fld rfl rfl rfl rfl rfl ?_ | refine W.ld rfl rfl rfl rfl rfl ?_))
      refine W.no rfl rfl rfl rfl (by simp) ?_
      (repeat (first | refine W.ctl rfl ?_ | refine W.op rfl rfl rfl rfl ?_ | refine W.skip rfl rfl ?_ | refine W.fld rfl rfl rfl rfl rfl ?_ | refine W.ld rfl rfl rfl rfl rfl ?_))
      refine W.ar (r := ((i + 1 : Nat) : Int)) rfl rfl rfl rfl rfl rfl rfl (wrap_i64 (by omega) (by omega)) ?_
      (repeat (first | refine W.ctl rfl ?_ | refine W.op rfl rfl rfl rfl ?_ | refine W.skip rfl rfl ?_ | refine W.fld rfl rfl rfl rfl rfl ?_ | refine W.ld rfl rfl rfl rfl rfl ?_))
      exact W.again (i + 1, T2, some v) ⟨by dsimp only; omega, hT2, hvm⟩ (by dsimp only; omega) ⟨rfl, rfl, rfl, rfl, rfl, trivial⟩ Imp.all
    · refine W.no rfl rfl rfl rfl h2 ?_
      (repeat (first | refine W.ctl rfl ?_ | refine W.op rfl rfl rfl rfl ?_ | refine W.skip rfl rfl ?_ | refine W.fld rfl rfl rfl rfl rfl ?_ | refine W.ld rfl rfl rfl rfl rfl ?_))
      exact W.ret1 (.inr rfl) rfl rfl _ ⟨rfl, rfl⟩ Imp.all
  · refine W.no rfl rfl rfl rfl h1 ?_
    (repeat (first | refine W.ctl rfl ?_ | refine W.op rfl rfl rfl rfl ?_ | refine W.skip rfl rfl ?_ | refine W.fld rfl rfl rfl rfl rfl ?_ | refine W.ld rfl rfl rfl rfl rfl ?_))
    exact W.ret1 (.inr rfl) rfl rfl _ ⟨rfl, rfl⟩ Imp.all
end Go.Proofs.YtbdhhedfplkidaaGreat
