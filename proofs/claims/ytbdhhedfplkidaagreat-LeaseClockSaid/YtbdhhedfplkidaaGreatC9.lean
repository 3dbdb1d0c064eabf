/- Where a key stands in a node. -/
import Derived.Test.YtbdhhedfplkidaaGreatC6
import Derived.Test.YtbdhhedfplkidaaGreatMod2
namespace Go.Proofs.YtbdhhedfplkidaaGreat
open Go
open M (Str)
set_option maxHeartbeats 400000
set_option maxRecDepth 2000
theorem node_place (a : Option Nat) (cap : Nat) (keys : List Nat) (key : Nat) (hn : keys.length ≤ 4096) : CS 112 [sv a keys.length cap, u64 key] (slck 1 35 (sv a keys.length cap) keys.length (keys.map u64))
    fun v H' => v = .tuple #[int (M.place keys key).1, .bool (M.place keys key).2] ∧ H' = slck 1 35 (sv a keys.length cap) keys.length (keys.map u64) := by
  refine CS.walk Tryz.func112 rfl Tryz.ntmps112 rfl fun c R => ?_
  (repeat (first | refine W.ctl rfl ?_ | refine W.op rfl rfl rfl rfl ?_ | refine W.skip rfl rfl ?_ | refine W.fld rfl rfl rfl rfl rfl ?_ | refine W.ld rfl rfl rfl rfl rfl ?_))
  refine W.len rfl rfl rfl rfl rfl ?_
  refine W.op rfl rfl rfl rfl ?_
  refine W.op rfl rfl rfl rfl ?_
  refine W.ctl rfl ?_
  refine W.ctl rfl ?_
  refine W.ctl rfl ?_
  refine W.ctl rfl ?_
  refine W.ctl rfl ?_
  refine W.ctl rfl ?_
  obtain ⟨r, hr⟩ : ∃ r, M.ploop keys key keys.length 0 keys.length = r := ⟨_, rfl⟩
  have hrn : r ≤ keys.length := by rw [← hr]; exact M.ploop_le keys key _ _ _ (by omega)
  have hpl : M.place keys key = (r, decide (keys[r]? = some key)) := by rw [M.place, hr]
  refine W.join (σ := Unit) (fun _ => True) (fun _ => [(0, sv a keys.length cap), (1, u64 key), (6, int r)]) (fun _ => slck 1 35 (sv a keys.length cap) keys.length (keys.map u64) • R) ?_ fun _ _ => ?_
  · (repeat (first | refine W.ctl rfl ?_ | refine W.op rfl rfl rfl rfl ?_ | refine W.skip rfl rfl ?_ | refine W.fld rfl rfl rfl rfl rfl ?_ | refine W.ld rfl rfl rfl rfl rfl ?_))
    refine W.loop (σ := Nat × Nat × Nat) (fun p => p.1 ≤ p.2.1 ∧ p.2.1 ≤ keys.length ∧ p.2.1 - p.1 ≤ p.2.2 ∧ M.ploop keys key p.2.2 p.1 p.2.1 = r) (fun p => [(0, sv a keys.length cap), (1, u64 key), (6, int p.1), (7, int p.2.1)])
      (fun _ => slck 1 35 (sv a keys.length cap) keys.length (keys.map u64) • R) (fun p => p.2.1 - p.1) (0, keys.length, keys.length) ⟨by dsimp only; omega, Nat.le_refl _, by dsimp only; omega, hr⟩ ⟨rfl, rfl, rfl, rfl, trivial⟩ Imp.all ?_
    rintro ⟨lo, hi, f⟩ ⟨h1, h2, h3, h4⟩
    dsimp only at h1 h2 h3 h4 ⊢
    (repeat (first | refine W.ctl rfl ?_ | refine W.op rfl rfl rfl rfl ?_ | refine W.skip rfl rfl ?_ | refine W.fld rfl rfl rfl rfl rfl ?_ | refine W.ld rfl rfl rfl rfl rfl ?_))
    by_cases h5 : (lo : Int) < hi
    · refine W.yes rfl rfl rfl rfl h5 ?_
      (repeat (first | refine W.ctl rfl ?_ | refine W.op rfl rfl rfl rfl ?_ | refine W.skip rfl rfl ?_ | refine W.fld rfl rfl rfl rfl rfl ?_ | refine W.ld rfl rfl rfl rfl rfl ?_))
      refine W.ar (r := ((lo + hi : Nat) : Int)) rfl rfl rfl rfl rfl rfl rfl (wrap_i64 (by omega) (by omega)) ?_
      refine W.bin rfl rfl rfl rfl rfl rfl (fun w => M.bin_quo _ (lo + hi) 2 w (by decide) (by omega)) ?_
      have hm : (lo + hi) / 2 < keys.length := by omega
      (repeat (first | refine W.ctl rfl ?_ | refine W.op rfl rfl rfl rfl ?_ | refine W.skip rfl rfl ?_ | refine W.fld rfl rfl rfl rfl rfl ?_ | refine W.ld rfl rfl rfl rfl rfl ?_))
      refine W.idxk rfl rfl rfl rfl rfl rfl (by omega) (by omega) ?_
      refine W.ldk (v := u64 (keys[(lo + hi) / 2])) rfl rfl rfl rfl rfl (by simp only [Int.toNat_natCast, Nat.mul_one, List.getElem?_map, List.getElem?_eq_getElem hm]; rfl) ?_
      (repeat (first | refine W.ctl rfl ?_ | refine W.op rfl rfl rfl rfl ?_ | refine W.skip rfl rfl ?_ | refine W.fld rfl rfl rfl rfl rfl ?_ | refine W.ld rfl rfl rfl rfl rfl ?_))
      obtain ⟨f, rfl⟩ : ∃ g, f = g + 1 := ⟨f - 1, by omega⟩
      have hg : keys.getD ((lo + hi) / 2) 0 = keys[(lo + hi) / 2] := by simp [List.getD_eq_getElem?_getD, hm]
      rw [M.ploop, if_pos (by omega), hg] at h4
      by_cases h6 : ((keys[(lo + hi) / 2] : Nat) : Int) = (key : Nat)
      · refine W.yes rfl rfl rfl rfl h6 ?_
        (repeat (first | refine W.ctl rfl ?_ | refine W.op rfl rfl rfl rfl ?_ | refine W.skip rfl rfl ?_ | refine W.fld rfl rfl rfl rfl rfl ?_ | refine W.ld rfl rfl rfl rfl rfl ?_))
        rw [if_pos (by omega)] at h4
        exact W.meet () trivial ⟨rfl, rfl, by rw [← h4]; rfl, trivial⟩ Imp.all
      refine W.no rfl rfl rfl rfl h6 ?_
      rw [if_neg (by omega)] at h4
      (repeat (first | refine W.ctl rfl ?_ | refine W.op rfl rfl rfl rfl ?_ | refine W.skip rfl rfl ?_ | refine W.fld rfl rfl rfl rfl rfl ?_ | refine W.ld rfl rfl rfl rfl rfl ?_))
      by_cases h7 : ((keys[(lo + hi) / 2] : Nat) : Int) < (key : Nat)
      · refine W.yes rfl rfl rfl rfl h7 ?_
        rw [if_pos (by omega)] at h4
        (repeat (first | refine W.ctl rfl ?_ | refine W.op rfl rfl rfl rfl ?_ | refine W.skip rfl rfl ?_ | refine W.fld rfl rfl rfl rfl rfl ?_ | refine W.ld rfl rfl rfl rfl rfl ?_))
        refine W.ar (r := (((lo + hi) / 2 + 1 : Nat) : Int)) rfl rfl rfl rfl rfl rfl rfl (wrap_i64 (by omega) (by omega)) ?_
        (repeat (first | refine W.ctl rfl ?_ | refine W.op rfl rfl rfl rfl ?_ | refine W.skip rfl rfl ?_ | refine W.fld rfl rfl rfl rfl rfl ?_ | refine W.ld rfl rfl rfl rfl rfl ?_))
        exact W.again ((lo + hi) / 2 + 1, hi, f) ⟨by dsimp only; omega, by dsimp only; omega, by dsimp only; omega, h4⟩ (by dsimp only; omega) ⟨rfl, rfl, rfl, rfl, trivial⟩ Imp.all
      · refine W.no rfl rfl rfl rfl h7 ?_
        rw [if_neg (by omega)] at h4
        (repeat (first | refine W.ctl rfl ?_ | refine W.op rfl rfl rfl rfl ?_ | refine W.skip rfl rfl ?_ | refine W.fld rfl rfl rfl rfl rfl ?_ | refine W.ld rfl rfl rfl rfl rfl ?_))
        exact W.again (lo, (lo + hi) / 2, f) ⟨by dsimp only; omega, by dsimp only; omega, by dsimp only; omega, h4⟩ (by dsimp only; omega) ⟨rfl, rfl, rfl, rfl, trivial⟩ Imp.all
    · refine W.no rfl rfl rfl rfl h5 ?_
      (repeat (first | refine W.ctl rfl ?_ | refine W.op rfl rfl rfl rfl ?_ | refine W.skip rfl rfl ?_ | refine W.fld rfl rfl rfl rfl rfl ?_ | refine W.ld rfl rfl rfl rfl rfl ?_))
      have e : lo = r := by
        rw [← h4]
        cases f with
        | zero => rfl
        | succ f => rw [M.ploop, if_neg (by omega)]
      subst e
      exact W.meet () trivial ⟨rfl, rfl, rfl, trivial⟩ Imp.all
  (repeat (first | refine W.ctl rfl ?_ | refine W.op rfl rfl rfl rfl ?_ | refine W.skip rfl rfl ?_ | refine W.fld rfl rfl rfl rfl rfl ?_ | refine W.ld rfl rfl rfl rfl rfl ?_))
  refine W.draw (by kernel_rfl) (by kernel_rfl) ?_
  (repeat (first | refine W.ctl rfl ?_ | refine W.op rfl rfl rfl rfl ?_ | refine W.skip rfl rfl ?_ | refine W.fld rfl rfl rfl rfl rfl ?_ | refine W.ld rfl rfl rfl rfl rfl ?_))
  refine W.len rfl rfl rfl rfl rfl ?_
  by_cases h1 : (r : Int) < keys.length
  · refine W.yes rfl rfl rfl rfl h1 ?_
    have h1' : r < keys.length := by omega
    (repeat (first | refine W.ctl rfl ?_ | refine W.op rfl rfl rfl rfl ?_ | refine W.skip rfl rfl ?_ | refine W.fld rfl rfl rfl rfl rfl ?_ | refine W.ld rfl rfl rfl rfl rfl ?_))
    refine W.idxk rfl rfl rfl rfl rfl rfl (by omega) (by omega) ?_
    (repeat (first | refine W.ctl rfl ?_ | refine W.op rfl rfl rfl rfl ?_ | refine W.skip rfl rfl ?_))
    refine W.ldk (v := u64 (keys[r])) rfl rfl rfl rfl rfl (by simp [h1']) ?_
    (repeat (first | refine W.ctl rfl ?_ | refine W.op rfl rfl rfl rfl ?_ | refine W.skip rfl rfl ?_))
    refine W.cmp rfl rfl rfl rfl ?_
    (repeat (first | refine W.ctl rfl ?_ | refine W.op rfl rfl rfl rfl ?_ | refine W.skip rfl rfl ?_ | refine W.fld rfl rfl rfl rfl rfl ?_ | refine W.ld rfl rfl rfl rfl rfl ?_))
    refine W.ret2 (.inr rfl) rfl rfl rfl _ ⟨?_, rfl⟩ Imp.all
    rw [hpl, List.getElem?_eq_getElem h1']
    simp; omega
  · refine W.no rfl rfl rfl rfl h1 ?_
    (repeat (first | refine W.ctl rfl ?_ | refine W.op rfl rfl rfl rfl ?_ | refine W.skip rfl rfl ?_ | refine W.fld rfl rfl rfl rfl rfl ?_ | refine W.ld rfl rfl rfl rfl rfl ?_))
    refine W.ret2 (.inr rfl) rfl rfl rfl _ ⟨?_, rfl⟩ Imp.all
    rw [hpl, List.getElem?_eq_none (by omega)]
    simp
theorem place_le (keys : List Nat) (key : Nat) : (M.place keys key).1 ≤ keys.length := M.ploop_le keys key _ _ _ (by omega)
theorem node_Find (N : M.Node) (x : NP) (key : Nat) (hN : NB N) : CS 79 [nodeV N x, u64 key] (NodeH N x) fun v H' => v = .tuple #[int (M.find N key).1, .bool (M.find N key).2] ∧ H' = NodeH N x := by
  have hk := hN.keys
  have hp := place_le N.keys key
  refine CS.walk Tryz.func79 rfl Tryz.ntmps79 rfl fun c R => ?_
  simp only [NodeH, NodeB, sep_assoc', emp_sep]
  (repeat (first | refine W.ctl rfl ?_ | refine W.op rfl rfl rfl rfl ?_ | refine W.skip rfl rfl ?_ | refine W.fld rfl rfl rfl rfl rfl ?_ | refine W.ld rfl rfl rfl rfl rfl ?_))
  refine W.box rfl rfl rfl rfl rfl fun b => ?_
  (repeat (first | refine W.ctl rfl ?_ | refine W.op rfl rfl rfl rfl ?_ | refine W.skip rfl rfl ?_ | refine W.fld rfl rfl rfl rfl rfl ?_ | refine W.ld rfl rfl rfl rfl rfl ?_))
  refine W.call (node_place x.ka x.kc N.keys key hk) rfl rfl rfl rfl Tryz.call112 ⟨rfl, rfl, trivial⟩ ?_
  rintro _ _ ⟨rfl, rfl⟩
  cases hl : N.leaf with
  | true =>
    (repeat (first | refine W.ctl rfl ?_ | refine W.op rfl rfl rfl rfl ?_ | refine W.skip rfl rfl ?_ | refine W.fld rfl rfl rfl rfl rfl ?_ | refine W.ld rfl rfl rfl rfl rfl ?_))
    refine W.ret2 (.inr rfl) rfl rfl rfl _ ⟨?_, rfl⟩ Imp.all
    rw [M.find, if_pos hl]
    rfl
  | false =>
    (repeat (first | refine W.ctl rfl ?_ | refine W.op rfl rfl rfl rfl ?_ | refine W.skip rfl rfl ?_ | refine W.fld rfl rfl rfl rfl rfl ?_ | refine W.ld rfl rfl rfl rfl rfl ?_))
    cases ht : (M.place N.keys key).2 with
    | true =>
      (repeat (first | refine W.ctl rfl ?_ | refine W.op rfl rfl rfl rfl ?_ | refine W.skip rfl rfl ?_ | refine W.fld rfl rfl rfl rfl rfl ?_ | refine W.ld rfl rfl rfl rfl rfl ?_))
      refine W.ar (i := ((M.place N.keys key).1 : Int)) (r := (((M.place N.keys key).1 + 1 : Nat) : Int)) rfl rfl rfl rfl rfl rfl rfl (wrap_i64 (by omega) (by omega)) ?_
      (repeat (first | refine W.ctl rfl ?_ | refine W.op rfl rfl rfl rfl ?_ | refine W.skip rfl rfl ?_ | refine W.fld rfl rfl rfl rfl rfl ?_ | refine W.ld rfl rfl rfl rfl rfl ?_))
      refine W.ret2 (.inr rfl) rfl rfl rfl _ ⟨?_, rfl⟩ Imp.all
      rw [M.find, if_neg (by simp [hl]), if_pos ht]
    | false =>
      (repeat (first | refine W.ctl rfl ?_ | refine W.op rfl rfl rfl rfl ?_ | refine W.skip rfl rfl ?_ | refine W.fld rfl rfl rfl rfl rfl ?_ | refine W.ld rfl rfl rfl rfl rfl ?_))
      refine W.ret2 (.inr rfl) rfl rfl rfl _ ⟨?_, rfl⟩ Imp.all
      rw [M.find, if_neg (by simp [hl]), if_neg (by simp [ht])]
      rfl
end Go.Proofs.YtbdhhedfplkidaaGreat
