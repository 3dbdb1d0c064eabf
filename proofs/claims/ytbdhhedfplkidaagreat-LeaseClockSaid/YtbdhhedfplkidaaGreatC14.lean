/- A node split in two; two nodes as one. -/
import Derived.Test.YtbdhhedfplkidaaGreatC13
namespace Go.Proofs.YtbdhhedfplkidaaGreat
open Go
open M (Str)
set_option maxHeartbeats 400000
set_option maxRecDepth 2000
theorem laid_take {α : Type} (xs : List α) (k g : Nat) (h : xs.length ≤ k + g) : M.laid xs k g [] = xs.take k := by
  simp only [M.laid, List.append_nil]
  rw [show (min (k : Int) xs.length).toNat = min k xs.length by omega, show (min (min (k : Int) xs.length + g) xs.length).toNat = xs.length by omega]
  simp
theorem laid_drop {α : Type} (xs : List α) (g : Nat) : M.laid xs (0 : Nat) g [] = xs.drop g := by
  simp only [M.laid, List.append_nil]
  rw [show (min ((0 : Nat) : Int) xs.length).toNat = 0 by omega, show (min (min ((0 : Nat) : Int) xs.length + g) xs.length).toNat = min g xs.length by omega]
  simp only [List.take_zero, List.nil_append]
  by_cases h : g ≤ xs.length
  · rw [Nat.min_eq_left h]
  · rw [Nat.min_eq_right (by omega), List.drop_eq_nil_of_le (by omega), List.drop_eq_nil_of_le (by omega)]
/-- As many values, or kids, as there should be. -/
structure Fit (N : M.Node) : Prop where
  vals : N.vals.length = if N.leaf then N.keys.length else 0
  kids : N.kids.length = if N.leaf then 0 else N.keys.length + 1
abbrev boxN (nb : Nat) (N : M.Node) (x : NP) : HProp := row nb 114 [Value.bool N.leaf, sv x.ka N.keys.length x.kc, sv x.va N.vals.length x.vc, sv x.da N.kids.length x.dc]
theorem split_front (N : M.Node) (x : NP) (nb k : Nat) (hN : NB N) (hf : Fit N) (hk : k ≤ N.keys.length) : CS 115 [int k, ptr nb] (boxN nb N x • NodeH N x)
    fun v H' => ∃ y, v = nodeV (M.nfront N k) y ∧ H' = (NodeH (M.nfront N k) y • boxN nb N x • NodeH N x) := by
  have h1 := hN.keys
  have h2 := hN.vals
  have h3 := hN.kids
  have f1 := hf.vals
  have f2 := hf.kids
  obtain ⟨N', hN'⟩ : ∃ N', M.nfront N k = N' := ⟨_, rfl⟩
  rw [hN']
  refine CS.walk Tryz.func115 rfl Tryz.ntmps115 rfl fun c R => ?_
  simp only [boxN, NodeH, NodeB, sep_assoc', emp_sep]
  (repeat (first | refine W.ctl rfl ?_ | refine W.op rfl rfl rfl rfl ?_ | refine W.skip rfl rfl ?_ | refine W.fld rfl rfl rfl rfl rfl ?_ | refine W.ld rfl rfl rfl rfl rfl ?_))
  refine W.alc rfl rfl rfl rfl fun res => ?_
  (repeat (first | refine W.ctl rfl ?_ | refine W.op rfl rfl rfl rfl ?_ | refine W.skip rfl rfl ?_ | refine W.fld rfl rfl rfl rfl rfl ?_ | refine W.ld rfl rfl rfl rfl rfl ?_))
  cases hl : N.leaf with
  | true =>
    rw [hl, if_pos rfl] at f1 f2
    have hrw : N' = ⟨true, N.keys.take k, N.vals.take k, []⟩ := by rw [← hN', M.nfront, if_pos hl]
    (repeat (first | refine W.ctl rfl ?_ | refine W.op rfl rfl rfl rfl ?_ | refine W.skip rfl rfl ?_ | refine W.fld rfl rfl rfl rfl rfl ?_ | refine W.ld rfl rfl rfl rfl rfl ?_))
    refine W.anyh (f := 4) (fun _ => true) [0, 1, 2, 3, 4, 5, 7, 8, 9, 10, 11, 12] (by kernel_rfl) (by kernel_rfl) (by kernel_rfl) (by kernel_rfl) rfl (row nb 114 [Value.bool true, sv x.ka N.keys.length x.kc, sv x.va N.vals.length x.vc, sv x.da N.kids.length x.dc]) Imp.all ?_
    (repeat (first | refine W.ctl rfl ?_ | refine W.op rfl rfl rfl rfl ?_ | refine W.skip rfl rfl ?_ | refine W.fld rfl rfl rfl rfl rfl ?_ | refine W.ld rfl rfl rfl rfl rfl ?_))
    refine W.len rfl rfl rfl rfl rfl ?_
    (repeat (first | refine W.ctl rfl ?_ | refine W.op rfl rfl rfl rfl ?_ | refine W.skip rfl rfl ?_ | refine W.fld rfl rfl rfl rfl rfl ?_ | refine W.ld rfl rfl rfl rfl rfl ?_))
    refine W.len rfl rfl rfl rfl rfl ?_
    refine W.tdn ?_
    refine W.ald1 6 (by kernel_rfl) rfl ?_
    refine W.call (gone_u64 x.ka x.kc N.keys k N.keys.length N'.keys (by rw [hrw]; exact laid_take _ _ _ (by omega)) (by omega) (by omega) (by omega)) rfl rfl rfl rfl Tryz.call113 ⟨rfl, rfl, rfl, rfl, trivial⟩ ?_
    rintro _ _ ⟨a', c', rfl, rfl⟩
    simp only [sep_assoc']
    refine W.aft Imp.all ?_
    refine W.ald1 13 (by kernel_rfl) rfl ?_
    refine W.call (gone_str x.va x.vc N.vals k N.keys.length N'.vals (by rw [hrw]; exact laid_take _ _ _ (by omega)) (by omega) (by omega) (by omega)) rfl rfl rfl rfl Tryz.call114 ⟨rfl, rfl, rfl, rfl, trivial⟩ ?_
    rintro _ _ ⟨b', d', rfl, rfl⟩
    simp only [sep_assoc']
    refine W.aft Imp.all ?_
    refine W.ald1 14 (by kernel_rfl) rfl ?_
    refine W.bld rfl rfl rfl rfl rfl ?_
    refine W.aft Imp.all ?_
    refine W.ald1 15 (by kernel_rfl) rfl ?_
    refine W.sts rfl rfl rfl rfl rfl rfl ?_
    refine W.aft Imp.all (W.adn (by kernel_rfl) ?_)
    (repeat (first | refine W.ctl rfl ?_ | refine W.op rfl rfl rfl rfl ?_ | refine W.skip rfl rfl ?_ | refine W.fld rfl rfl rfl rfl rfl ?_ | refine W.ld rfl rfl rfl rfl rfl ?_))
    have e3 : nodeV N' ⟨a', c', b', d', none, 0⟩ = .agg #[.bool true, sv a' N'.keys.length c', sv b' N'.vals.length d', .slice none 0 0] := by rw [hrw]; rfl
    refine W.rets (.inr rfl) rfl (.cons (RV1.cells rfl) .nil) _ ⟨⟨a', c', b', d', none, 0⟩, e3.symm, rfl⟩ ?_
    have e4 : N'.kids = [] := by rw [hrw]
    simp only [e4, List.length_nil, List.map_nil, skv_nil, sep_emp', emp_sep, sep_assoc']
    exact Imp.all
  | false =>
    rw [hl, if_neg (by simp)] at f1 f2
    have hrw : N' = ⟨false, N.keys.take k, [], N.kids.take (k + 1)⟩ := by rw [← hN', M.nfront, if_neg (by simp [hl])]
    (repeat (first | refine W.ctl rfl ?_ | refine W.op rfl rfl rfl rfl ?_ | refine W.skip rfl rfl ?_ | refine W.fld rfl rfl rfl rfl rfl ?_ | refine W.ld rfl rfl rfl rfl rfl ?_))
    refine W.anyh (f := 4) (fun _ => true) [0, 1, 2, 3, 4, 5, 7, 8, 9, 10, 11, 12, 13] (by kernel_rfl) (by kernel_rfl) (by kernel_rfl) (by kernel_rfl) rfl (row nb 114 [Value.bool false, sv x.ka N.keys.length x.kc, sv x.va N.vals.length x.vc, sv x.da N.kids.length x.dc]) Imp.all ?_
    (repeat (first | refine W.ctl rfl ?_ | refine W.op rfl rfl rfl rfl ?_ | refine W.skip rfl rfl ?_ | refine W.fld rfl rfl rfl rfl rfl ?_ | refine W.ld rfl rfl rfl rfl rfl ?_))
    refine W.len rfl rfl rfl rfl rfl ?_
    (repeat (first | refine W.ctl rfl ?_ | refine W.op rfl rfl rfl rfl ?_ | refine W.skip rfl rfl ?_ | refine W.fld rfl rfl rfl rfl rfl ?_ | refine W.ld rfl rfl rfl rfl rfl ?_))
    refine W.ar (r := ((k + 1 : Nat) : Int)) rfl rfl rfl rfl rfl rfl rfl (wrap_i64 (by omega) (by omega)) ?_
    (repeat (first | refine W.ctl rfl ?_ | refine W.op rfl rfl rfl rfl ?_ | refine W.skip rfl rfl ?_ | refine W.fld rfl rfl rfl rfl rfl ?_ | refine W.ld rfl rfl rfl rfl rfl ?_))
    refine W.len rfl rfl rfl rfl rfl ?_
    refine W.tdn ?_
    refine W.ald1 6 (by kernel_rfl) rfl ?_
    refine W.call (gone_u64 x.ka x.kc N.keys k N.keys.length N'.keys (by rw [hrw]; exact laid_take _ _ _ (by omega)) (by omega) (by omega) (by omega)) rfl rfl rfl rfl Tryz.call113 ⟨rfl, rfl, rfl, rfl, trivial⟩ ?_
    rintro _ _ ⟨a', c', rfl, rfl⟩
    simp only [sep_assoc']
    refine W.aft Imp.all ?_
    refine W.ald1 14 (by kernel_rfl) rfl ?_
    refine W.call (gone_int x.da x.dc N.kids (k + 1) N.kids.length N'.kids (by rw [hrw]; exact laid_take _ _ _ (by omega)) (by omega) (by omega) (by omega)) rfl rfl rfl rfl Tryz.call116 ⟨rfl, rfl, rfl, rfl, trivial⟩ ?_
    rintro _ _ ⟨b', d', rfl, rfl⟩
    simp only [sep_assoc']
    refine W.aft Imp.all ?_
    refine W.ald1 15 (by kernel_rfl) rfl ?_
    refine W.bld rfl rfl rfl rfl rfl ?_
    refine W.aft Imp.all ?_
    refine W.ald1 16 (by kernel_rfl) rfl ?_
    refine W.sts rfl rfl rfl rfl rfl rfl ?_
    refine W.aft Imp.all (W.adn (by kernel_rfl) ?_)
    (repeat (first | refine W.ctl rfl ?_ | refine W.op rfl rfl rfl rfl ?_ | refine W.skip rfl rfl ?_ | refine W.fld rfl rfl rfl rfl rfl ?_ | refine W.ld rfl rfl rfl rfl rfl ?_))
    have e3 : nodeV N' ⟨a', c', none, 0, b', d'⟩ = .agg #[.bool false, sv a' N'.keys.length c', .slice none 0 0, sv b' N'.kids.length d'] := by rw [hrw]; rfl
    refine W.rets (.inr rfl) rfl (.cons (RV1.cells rfl) .nil) _ ⟨⟨a', c', none, 0, b', d'⟩, e3.symm, rfl⟩ ?_
    have e4 : N'.vals = [] := by rw [hrw]
    simp only [e4, List.length_nil, List.map_nil, skv_nil, sep_emp', emp_sep, sep_assoc']
    exact Imp.all
theorem nfront_nb {N : M.Node} (h : NB N) (k : Nat) : NB (M.nfront N k) := by
  have h1 := h.keys
  have h2 := h.vals
  have h3 := h.kids
  unfold M.nfront
  split
  · exact ⟨by simp; omega, by simp; omega, by simp, fun v hv => h.val v (List.mem_of_mem_take hv)⟩
  · exact ⟨by simp; omega, by simp, by simp; omega, fun v hv => by simp at hv⟩
theorem nsize_le {N : M.Node} (h : NB N) : M.nsize N ≤ 20000000000000 := by
  have h1 := h.keys
  have h2 := h.vals
  have h3 := h.kids
  have h4 := sum_le h.val
  have h5 : N.vals.length * 4294967296 ≤ 4096 * 4294967296 := Nat.mul_le_mul_right _ h2
  unfold M.nsize
  split <;> omega
theorem splitAt_le (N : M.Node) : ∀ f k, M.splitAt N f k ≤ k + f ∧ k ≤ M.splitAt N f k
  | 0, k => by simp [M.splitAt]
  | f + 1, k => by
    unfold M.splitAt
    split
    · have := splitAt_le N f (k + 1); omega
    · omega
theorem node_Split (N : M.Node) (x : NP) (hN : NB N) (hf : Fit N) : CS 65 [nodeV N x] (NodeH N x)
    fun v H' => ∃ y z, v = .tuple #[nodeV (M.nsplit N).1 y, u64 (M.nsplit N).2.1, nodeV (M.nsplit N).2.2.1 z, .bool (M.nsplit N).2.2.2] ∧ H' = (NodeH (M.nsplit N).1 y • NodeH (M.nsplit N).2.2.1 z) := by
  have h1 := hN.keys
  have h2 := hN.vals
  have h3 := hN.kids
  have f1 := hf.vals
  have f2 := hf.kids
  obtain ⟨up, hup⟩ : ∃ up : Nat, (if N.leaf then 0 else 1 : Nat) = up := ⟨_, rfl⟩
  have hup1 : up ≤ 1 := by rw [← hup]; split <;> omega
  have hsp : M.nsplit N = if (N.keys.length : Int) - 1 - up < 1 then (M.Node.zero, 0, M.Node.zero, false) else (M.nfront N (M.splitAt N ((N.keys.length : Int) - 1 - up - 1).toNat 1), N.keys.getD (M.splitAt N ((N.keys.length : Int) - 1 - up - 1).toNat 1) 0, M.nback N (M.splitAt N ((N.keys.length : Int) - 1 - up - 1).toNat 1), true) := by
    rw [M.nsplit, ← hup]; cases N.leaf <;> rfl
  refine CS.walk Tryz.func65 rfl Tryz.ntmps65 rfl fun c R => ?_
  simp only [NodeH, NodeB, sep_assoc', emp_sep]
  (repeat (first | refine W.ctl rfl ?_ | refine W.op rfl rfl rfl rfl ?_ | refine W.skip rfl rfl ?_ | refine W.fld rfl rfl rfl rfl rfl ?_ | refine W.ld rfl rfl rfl rfl rfl ?_))
  refine W.box rfl rfl rfl rfl rfl fun nb => ?_
  refine W.alc rfl rfl rfl rfl fun ra => ?_
  (repeat (first | refine W.ctl rfl ?_ | refine W.op rfl rfl rfl rfl ?_ | refine W.skip rfl rfl ?_ | refine W.fld rfl rfl rfl rfl rfl ?_ | refine W.ld rfl rfl rfl rfl rfl ?_))
  refine W.alc rfl rfl rfl rfl fun rb => ?_
  (repeat (first | refine W.ctl rfl ?_ | refine W.op rfl rfl rfl rfl ?_ | refine W.skip rfl rfl ?_ | refine W.fld rfl rfl rfl rfl rfl ?_ | refine W.ld rfl rfl rfl rfl rfl ?_))
  refine W.join (σ := Unit) (fun _ => True) (fun _ => [(1, ptr nb), (2, ptr ra), (3, u64 (0 : Nat)), (4, ptr rb), (5, .bool false), (6, int up)]) (fun _ => row rb 114 [.bool false, .slice none 0 0, .slice none 0 0, .slice none 0 0] • row ra 114 [.bool false, .slice none 0 0, .slice none 0 0, .slice none 0 0] • boxN nb N x • NodeB N x R) ?_ fun _ _ => ?_
  · cases hl : N.leaf with
    | true =>
      simp only [hl, if_true] at hup
      (repeat (first | refine W.ctl rfl ?_ | refine W.op rfl rfl rfl rfl ?_ | refine W.skip rfl rfl ?_ | refine W.fld rfl rfl rfl rfl rfl ?_ | refine W.ld rfl rfl rfl rfl rfl ?_))
      exact W.meet () trivial ⟨rfl, rfl, rfl, rfl, rfl, by rw [← hup]; rfl, trivial⟩ (by rw [boxN, hl]; exact Imp.all)
    | false =>
      simp only [hl, Bool.false_eq_true, if_false] at hup
      (repeat (first | refine W.ctl rfl ?_ | refine W.op rfl rfl rfl rfl ?_ | refine W.skip rfl rfl ?_ | refine W.fld rfl rfl rfl rfl rfl ?_ | refine W.ld rfl rfl rfl rfl rfl ?_))
      exact W.meet () trivial ⟨rfl, rfl, rfl, rfl, rfl, by rw [← hup]; rfl, trivial⟩ (by rw [boxN, hl]; exact Imp.all)
  (repeat (first | refine W.ctl rfl ?_ | refine W.op rfl rfl rfl rfl ?_ | refine W.skip rfl rfl ?_ | refine W.fld rfl rfl rfl rfl rfl ?_ | refine W.ld rfl rfl rfl rfl rfl ?_))
  refine W.len rfl rfl rfl rfl rfl ?_
  refine W.ar (r := (N.keys.length : Int) - 1) rfl rfl rfl rfl rfl rfl rfl (wrap_i64 (by omega) (by omega)) ?_
  (repeat (first | refine W.ctl rfl ?_ | refine W.op rfl rfl rfl rfl ?_ | refine W.skip rfl rfl ?_ | refine W.fld rfl rfl rfl rfl rfl ?_ | refine W.ld rfl rfl rfl rfl rfl ?_))
  refine W.ar (r := (N.keys.length : Int) - 1 - up) rfl rfl rfl rfl rfl rfl rfl (wrap_i64 (by omega) (by omega)) ?_
  (repeat (first | refine W.ctl rfl ?_ | refine W.op rfl rfl rfl rfl ?_ | refine W.skip rfl rfl ?_ | refine W.fld rfl rfl rfl rfl rfl ?_ | refine W.ld rfl rfl rfl rfl rfl ?_))
  by_cases hm : (N.keys.length : Int) - 1 - up < 1
  · refine W.yes rfl rfl rfl rfl hm ?_
    rw [if_pos hm] at hsp
    (repeat (first | refine W.ctl rfl ?_ | refine W.op rfl rfl rfl rfl ?_ | refine W.skip rfl rfl ?_ | refine W.fld rfl rfl rfl rfl rfl ?_ | refine W.ld rfl rfl rfl rfl rfl ?_))
    refine W.bld rfl rfl rfl rfl rfl ?_
    refine W.bld rfl rfl rfl rfl rfl ?_
    refine W.sts rfl rfl rfl rfl rfl rfl ?_
    (repeat (first | refine W.ctl rfl ?_ | refine W.op rfl rfl rfl rfl ?_ | refine W.skip rfl rfl ?_ | refine W.fld rfl rfl rfl rfl rfl ?_ | refine W.ld rfl rfl rfl rfl rfl ?_))
    refine W.sts rfl rfl rfl rfl rfl rfl ?_
    (repeat (first | refine W.ctl rfl ?_ | refine W.op rfl rfl rfl rfl ?_ | refine W.skip rfl rfl ?_ | refine W.fld rfl rfl rfl rfl rfl ?_ | refine W.ld rfl rfl rfl rfl rfl ?_))
    rw [hsp]
    refine W.rets (.inr rfl) rfl (.cons (RV1.cells rfl) (.cons (RV1.tmp rfl) (.cons (RV1.cells rfl) (.cons (RV1.tmp rfl) .nil)))) _ ⟨⟨none, 0, none, 0, none, 0⟩, ⟨none, 0, none, 0, none, 0⟩, rfl, rfl⟩ ?_
    simp only [NodeH, NodeB, M.Node.zero, sv, Option.map_none, List.length_nil, List.map_nil, slck_nil, emp_sep]
    exact Imp.all
  refine W.no rfl rfl rfl rfl hm ?_
  rw [if_neg hm] at hsp
  obtain ⟨most, hmost⟩ : ∃ m : Nat, (N.keys.length : Int) - 1 - up = m := ⟨((N.keys.length : Int) - 1 - up).toNat, by omega⟩
  rw [hmost] at hsp hm ⊢
  obtain ⟨kk, hkk⟩ : ∃ k, M.splitAt N ((most : Int) - 1).toNat 1 = k := ⟨_, rfl⟩
  rw [show ((most : Int) - 1).toNat = most - 1 by omega] at hkk hsp
  rw [hkk] at hsp
  (repeat (first | refine W.ctl rfl ?_ | refine W.op rfl rfl rfl rfl ?_ | refine W.skip rfl rfl ?_ | refine W.fld rfl rfl rfl rfl rfl ?_ | refine W.ld rfl rfl rfl rfl rfl ?_))
  refine W.mkf (vs := [ptr nb]) rfl rfl rfl rfl ⟨rfl, trivial⟩ ?_
  (repeat (first | refine W.ctlb rfl ?_ | refine W.op rfl rfl rfl rfl ?_ | refine W.skip rfl rfl ?_ | refine W.fld rfl rfl rfl rfl rfl ?_ | refine W.ld rfl rfl rfl rfl rfl ?_))
  have hkm : 1 ≤ kk ∧ kk ≤ most := by have := splitAt_le N (most - 1) 1; omega
  refine W.join (σ := Unit) (fun _ => True) (fun _ => [(1, ptr nb), (2, ptr ra), (3, u64 (0 : Nat)), (4, ptr rb), (5, .bool false), (6, int up), (7, int most), (8, .func (.func 115) #[] #[ptr nb]), (9, int kk)])
    (fun _ => row rb 114 [.bool false, .slice none 0 0, .slice none 0 0, .slice none 0 0] • row ra 114 [.bool false, .slice none 0 0, .slice none 0 0, .slice none 0 0] • boxN nb N x • NodeB N x R) ?_ fun _ _ => ?_
  · (repeat (first | refine W.ctl rfl ?_ | refine W.op rfl rfl rfl rfl ?_ | refine W.skip rfl rfl ?_ | refine W.fld rfl rfl rfl rfl rfl ?_ | refine W.ld rfl rfl rfl rfl rfl ?_))
    refine W.loop (σ := Nat) (fun k => 1 ≤ k ∧ k ≤ most ∧ M.splitAt N (most - k) k = kk) (fun k => [(1, ptr nb), (2, ptr ra), (3, u64 (0 : Nat)), (4, ptr rb), (5, .bool false), (6, int up), (7, int most), (8, .func (.func 115) #[] #[ptr nb]), (9, int k)])
      (fun _ => row rb 114 [.bool false, .slice none 0 0, .slice none 0 0, .slice none 0 0] • row ra 114 [.bool false, .slice none 0 0, .slice none 0 0, .slice none 0 0] • boxN nb N x • NodeB N x R) (fun k => most - k) 1 ⟨by omega, by omega, hkk⟩ ⟨rfl, rfl, rfl, rfl, rfl, rfl, rfl, rfl, rfl, trivial⟩ Imp.all ?_
    rintro k ⟨hk1, hk2, hk3⟩
    (repeat (first | refine W.ctl rfl ?_ | refine W.op rfl rfl rfl rfl ?_ | refine W.skip rfl rfl ?_ | refine W.fld rfl rfl rfl rfl rfl ?_ | refine W.ld rfl rfl rfl rfl rfl ?_))
    by_cases hk : (k : Int) < most
    · obtain ⟨f, hfm⟩ : ∃ f, most - k = f + 1 := ⟨most - k - 1, by omega⟩
      rw [hfm, M.splitAt] at hk3
      refine W.anyh (f := 6) (fun _ => true) [0, 1, 2, 3, 4, 5, 8] (by kernel_rfl) (by kernel_rfl) (by kernel_rfl) (by kernel_rfl) rfl (boxN nb N x) Imp.all ?_
      (repeat (first | refine W.ctl rfl ?_ | refine W.op rfl rfl rfl rfl ?_ | refine W.skip rfl rfl ?_ | refine W.fld rfl rfl rfl rfl rfl ?_ | refine W.ld rfl rfl rfl rfl rfl ?_))
      refine W.yes rfl rfl rfl rfl hk ?_
      (repeat (first | refine W.ctl rfl ?_ | refine W.op rfl rfl rfl rfl ?_ | refine W.skip rfl rfl ?_ | refine W.fld rfl rfl rfl rfl rfl ?_ | refine W.ld rfl rfl rfl rfl rfl ?_))
      refine W.lds rfl rfl rfl rfl rfl ?_
      refine W.tdn ?_
      refine W.ald1 6 (by kernel_rfl) rfl ?_
      (repeat (first | refine W.ctl rfl ?_ | refine W.op rfl rfl rfl rfl ?_ | refine W.skip rfl rfl ?_))
      refine W.callv (vs := [int k]) (caps := [ptr nb]) (split_front N x nb k hN hf (by omega)) rfl rfl rfl rfl rfl Tryz.call115 ⟨rfl, trivial⟩ ?_
      rintro _ _ ⟨y, rfl, rfl⟩
      simp only [NodeH, NodeB, sep_assoc', emp_sep]
      refine W.aft Imp.all ?_
      refine W.ald1 7 (by kernel_rfl) rfl ?_
      (repeat (first | refine W.ctl rfl ?_ | refine W.op rfl rfl rfl rfl ?_ | refine W.skip rfl rfl ?_))
      refine W.call (node_Size (M.nfront N k) y (nfront_nb hN k)) rfl rfl rfl rfl Tryz.call64 ⟨rfl, trivial⟩ ?_
      rintro _ _ ⟨rfl, rfl⟩
      simp only [NodeH, NodeB, sep_assoc', emp_sep]
      refine W.aft Imp.all ?_
      refine W.ald1 9 (by kernel_rfl) rfl ?_
      (repeat (first | refine W.ctl rfl ?_ | refine W.op rfl rfl rfl rfl ?_ | refine W.skip rfl rfl ?_))
      refine W.call (node_Size N x hN) rfl rfl rfl rfl Tryz.call64 ⟨rfl, trivial⟩ ?_
      rintro _ _ ⟨rfl, rfl⟩
      simp only [NodeH, NodeB, sep_assoc', emp_sep]
      refine W.aft Imp.all ?_
      refine W.ald1 10 (by kernel_rfl) rfl ?_
      (repeat (first | refine W.ctl rfl ?_ | refine W.op rfl rfl rfl rfl ?_ | refine W.skip rfl rfl ?_))
      refine W.bin rfl rfl rfl rfl rfl rfl (fun w => M.bin_quo _ (M.nsize N) 2 w (by decide) (by have := nsize_le hN; omega)) ?_
      refine W.aft Imp.all ?_
      refine W.ald1 11 (by kernel_rfl) rfl ?_
      (repeat (first | refine W.ctl rfl ?_ | refine W.op rfl rfl rfl rfl ?_ | refine W.skip rfl rfl ?_))
      by_cases hs : ((M.nsize (M.nfront N k) : Nat) : Int) < ((M.nsize N / 2 : Nat) : Int)
      · refine W.yes rfl rfl rfl rfl hs ?_
        refine W.aft Imp.all ?_
        refine W.ald1 12 (by kernel_rfl) rfl ?_
        (repeat (first | refine W.ctl rfl ?_ | refine W.op rfl rfl rfl rfl ?_ | refine W.skip rfl rfl ?_ | refine W.fld rfl rfl rfl rfl rfl ?_ | refine W.ld rfl rfl rfl rfl rfl ?_))
        refine W.aft Imp.all (W.adn (by kernel_rfl) ?_)
        (repeat (first | refine W.ctl rfl ?_ | refine W.op rfl rfl rfl rfl ?_ | refine W.skip rfl rfl ?_ | refine W.fld rfl rfl rfl rfl rfl ?_ | refine W.ld rfl rfl rfl rfl rfl ?_))
        refine W.ar (r := ((k + 1 : Nat) : Int)) rfl rfl rfl rfl rfl rfl rfl (wrap_i64 (by omega) (by omega)) ?_
        (repeat (first | refine W.ctl rfl ?_ | refine W.op rfl rfl rfl rfl ?_ | refine W.skip rfl rfl ?_ | refine W.fld rfl rfl rfl rfl rfl ?_ | refine W.ld rfl rfl rfl rfl rfl ?_))
        rw [if_pos (by omega)] at hk3
        exact W.again (k + 1) ⟨by omega, by omega, by rw [show most - (k + 1) = f by omega]; exact hk3⟩ (by omega) ⟨rfl, rfl, rfl, rfl, rfl, rfl, rfl, rfl, rfl, trivial⟩ Imp.all
      · refine W.no rfl rfl rfl rfl hs ?_
        refine W.aft Imp.all ?_
        refine W.ald1 12 (by kernel_rfl) rfl ?_
        (repeat (first | refine W.ctl rfl ?_ | refine W.op rfl rfl rfl rfl ?_ | refine W.skip rfl rfl ?_ | refine W.fld rfl rfl rfl rfl rfl ?_ | refine W.ld rfl rfl rfl rfl rfl ?_))
        refine W.aft Imp.all (W.adn (by kernel_rfl) ?_)
        rw [if_neg (by omega)] at hk3
        subst hk3
        (repeat (first | refine W.ctl rfl ?_ | refine W.op rfl rfl rfl rfl ?_ | refine W.skip rfl rfl ?_ | refine W.fld rfl rfl rfl rfl rfl ?_ | refine W.ld rfl rfl rfl rfl rfl ?_))
        exact W.meet () trivial ⟨rfl, rfl, rfl, rfl, rfl, rfl, rfl, rfl, rfl, trivial⟩ Imp.all
    · have hkm : k = most := by omega
      rw [show most - k = 0 by omega, M.splitAt] at hk3
      subst hk3
      refine W.draw (by kernel_rfl) (by kernel_rfl) ?_
      (repeat (first | refine W.ctl rfl ?_ | refine W.op rfl rfl rfl rfl ?_ | refine W.skip rfl rfl ?_ | refine W.fld rfl rfl rfl rfl rfl ?_ | refine W.ld rfl rfl rfl rfl rfl ?_))
      refine W.no rfl rfl rfl rfl hk ?_
      (repeat (first | refine W.ctl rfl ?_ | refine W.op rfl rfl rfl rfl ?_ | refine W.skip rfl rfl ?_ | refine W.fld rfl rfl rfl rfl rfl ?_ | refine W.ld rfl rfl rfl rfl rfl ?_))
      exact W.meet () trivial ⟨rfl, rfl, rfl, rfl, rfl, rfl, rfl, rfl, rfl, trivial⟩ Imp.all
  (repeat (first | refine W.ctl rfl ?_ | refine W.op rfl rfl rfl rfl ?_ | refine W.skip rfl rfl ?_ | refine W.fld rfl rfl rfl rfl rfl ?_ | refine W.ld rfl rfl rfl rfl rfl ?_))
  have hrw : M.nback N kk = if N.leaf then ⟨true, N.keys.drop (kk + up), N.vals.drop kk, []⟩ else ⟨false, N.keys.drop (kk + up), [], N.kids.drop (kk + 1)⟩ := by
    rw [M.nback, ← hup]; cases N.leaf <;> rfl
  obtain ⟨N', hN'⟩ : ∃ N', M.nback N kk = N' := ⟨_, rfl⟩
  have hkey : N'.keys = N.keys.drop (kk + up) := by rw [← hN', hrw]; split <;> rfl
  rw [hN'] at hrw hsp
  refine W.anyh (f := 3) (fun _ => true) [0, 1, 2, 3, 4, 5, 6] (by kernel_rfl) (by kernel_rfl) (by kernel_rfl) (by kernel_rfl) rfl (boxN nb N x) Imp.all ?_
  (repeat (first | refine W.ctl rfl ?_ | refine W.op rfl rfl rfl rfl ?_ | refine W.skip rfl rfl ?_ | refine W.fld rfl rfl rfl rfl rfl ?_ | refine W.ld rfl rfl rfl rfl rfl ?_))
  refine W.ar (r := ((kk + up : Nat) : Int)) rfl rfl rfl rfl rfl rfl rfl (wrap_i64 (by omega) (by omega)) ?_
  refine W.tdn ?_
  refine W.ald1 7 (by kernel_rfl) rfl ?_
  refine W.call (gone_u64 x.ka x.kc N.keys 0 (kk + up) N'.keys (by rw [hkey]; exact laid_drop _ _) (by omega) (by omega) (by omega)) rfl rfl rfl rfl Tryz.call113 ⟨rfl, rfl, rfl, rfl, trivial⟩ ?_
  rintro _ _ ⟨a', c', rfl, rfl⟩
  simp only [sep_assoc']
  refine W.aft Imp.all ?_
  refine W.ald1 8 (by kernel_rfl) rfl ?_
  refine W.bld rfl rfl rfl rfl rfl ?_
  refine W.aft Imp.all ?_
  refine W.ald1 9 (by kernel_rfl) rfl ?_
  refine W.sts rfl rfl rfl rfl rfl rfl ?_
  refine W.aft Imp.all (W.adn (by kernel_rfl) ?_)
  (repeat (first | refine W.ctl rfl ?_ | refine W.op rfl rfl rfl rfl ?_ | refine W.skip rfl rfl ?_ | refine W.fld rfl rfl rfl rfl rfl ?_ | refine W.ld rfl rfl rfl rfl rfl ?_))
  refine W.join (σ := NP) (fun _ => True) (fun _ => [(1, ptr nb), (2, ptr ra), (4, ptr rb), (8, .func (.func 115) #[] #[ptr nb]), (9, int kk)])
    (fun z => boxN rb N' z • NodeB N' z (row ra 114 [.bool false, .slice none 0 0, .slice none 0 0, .slice none 0 0] • boxN nb N x • NodeB N x R)) ?_ ?_
  · cases hl : N.leaf with
    | true =>
      rw [hl, if_pos rfl] at hrw
      have e5 : N'.leaf = true := by rw [hrw]
      have e4 : N'.kids = [] := by rw [hrw]
      simp only [boxN, hl]
      (repeat (first | refine W.ctl rfl ?_ | refine W.op rfl rfl rfl rfl ?_ | refine W.skip rfl rfl ?_ | refine W.fld rfl rfl rfl rfl rfl ?_ | refine W.ld rfl rfl rfl rfl rfl ?_))
      refine W.call (gone_str x.va x.vc N.vals 0 kk N'.vals (by rw [hrw]; exact laid_drop _ _) (by omega) (by omega) (by omega)) rfl rfl rfl rfl Tryz.call114 ⟨rfl, rfl, rfl, rfl, trivial⟩ ?_
      rintro _ _ ⟨b', d', rfl, rfl⟩
      simp only [sep_assoc']
      (repeat (first | refine W.ctl rfl ?_ | refine W.op rfl rfl rfl rfl ?_ | refine W.skip rfl rfl ?_ | refine W.fld rfl rfl rfl rfl rfl ?_ | refine W.ld rfl rfl rfl rfl rfl ?_))
      refine W.st rfl rfl rfl rfl rfl ?_
      (repeat (first | refine W.ctl rfl ?_ | refine W.op rfl rfl rfl rfl ?_ | refine W.skip rfl rfl ?_ | refine W.fld rfl rfl rfl rfl rfl ?_ | refine W.ld rfl rfl rfl rfl rfl ?_))
      refine W.meet ⟨a', c', b', d', none, 0⟩ trivial ⟨rfl, rfl, rfl, rfl, rfl, trivial⟩ ?_
      simp only [NodeB, e5, e4, sv, Option.map_none, List.length_nil, List.map_nil, slck_nil, emp_sep]
      exact Imp.all
    | false =>
      rw [hl, if_neg (by simp)] at hrw
      have e5 : N'.leaf = false := by rw [hrw]
      have e4 : N'.vals = [] := by rw [hrw]
      simp only [boxN, hl]
      (repeat (first | refine W.ctl rfl ?_ | refine W.op rfl rfl rfl rfl ?_ | refine W.skip rfl rfl ?_ | refine W.fld rfl rfl rfl rfl rfl ?_ | refine W.ld rfl rfl rfl rfl rfl ?_))
      refine W.ar (r := ((kk + 1 : Nat) : Int)) rfl rfl rfl rfl rfl rfl rfl (wrap_i64 (by omega) (by omega)) ?_
      refine W.call (gone_int x.da x.dc N.kids 0 (kk + 1) N'.kids (by rw [hrw]; exact laid_drop _ _) (by omega) (by omega) (by omega)) rfl rfl rfl rfl Tryz.call116 ⟨rfl, rfl, rfl, rfl, trivial⟩ ?_
      rintro _ _ ⟨b', d', rfl, rfl⟩
      simp only [sep_assoc']
      (repeat (first | refine W.ctl rfl ?_ | refine W.op rfl rfl rfl rfl ?_ | refine W.skip rfl rfl ?_ | refine W.fld rfl rfl rfl rfl rfl ?_ | refine W.ld rfl rfl rfl rfl rfl ?_))
      refine W.st rfl rfl rfl rfl rfl ?_
      (repeat (first | refine W.ctl rfl ?_ | refine W.op rfl rfl rfl rfl ?_ | refine W.skip rfl rfl ?_ | refine W.fld rfl rfl rfl rfl rfl ?_ | refine W.ld rfl rfl rfl rfl rfl ?_))
      refine W.meet ⟨a', c', none, 0, b', d'⟩ trivial ⟨rfl, rfl, rfl, rfl, rfl, trivial⟩ ?_
      simp only [NodeB, e5, e4, sv, Option.map_none, List.length_nil, List.map_nil, slck_nil, emp_sep]
      exact Imp.all
  rintro z -
  (repeat (first | refine W.ctl rfl ?_ | refine W.op rfl rfl rfl rfl ?_ | refine W.skip rfl rfl ?_ | refine W.fld rfl rfl rfl rfl rfl ?_ | refine W.ld rfl rfl rfl rfl rfl ?_))
  have hkl : kk < N.keys.length := by omega
  refine W.anyh (f := 5) (fun _ => true) [0, 1, 3, 4, 5, 6, 7, 8] (by kernel_rfl) (by kernel_rfl) (by kernel_rfl) (by kernel_rfl) rfl (boxN nb N x • boxN rb N' z • slck 1 35 (sv x.ka N.keys.length x.kc) N.keys.length (N.keys.map u64)) Imp.all ?_
  (repeat (first | refine W.ctl rfl ?_ | refine W.op rfl rfl rfl rfl ?_ | refine W.skip rfl rfl ?_ | refine W.fld rfl rfl rfl rfl rfl ?_ | refine W.ld rfl rfl rfl rfl rfl ?_))
  refine W.idxk rfl rfl rfl rfl rfl rfl (by omega) (by omega) ?_
  refine W.ldk (v := u64 (N.keys[kk])) rfl rfl rfl rfl rfl (by simp [hkl]) ?_
  refine W.lds rfl rfl rfl rfl rfl ?_
  refine W.tdn ?_
  refine W.ald1 2 (by kernel_rfl) rfl ?_
  refine W.callv (vs := [int kk]) (caps := [ptr nb]) (split_front N x nb kk hN hf (by omega)) rfl rfl rfl rfl rfl Tryz.call115 ⟨rfl, trivial⟩ ?_
  rintro _ _ ⟨y, rfl, rfl⟩
  simp only [NodeH, NodeB, sep_assoc', emp_sep]
  refine W.aft Imp.all ?_
  refine W.ald1 9 (by kernel_rfl) rfl ?_
  refine W.sts rfl rfl rfl rfl rfl rfl ?_
  refine W.aft Imp.all ?_
  refine W.ald1 10 (by kernel_rfl) rfl ?_
  (repeat (first | refine W.ctl rfl ?_ | refine W.op rfl rfl rfl rfl ?_ | refine W.skip rfl rfl ?_))
  refine W.aft Imp.all ?_
  refine W.ald1 11 (by kernel_rfl) rfl ?_
  refine W.sts rfl rfl rfl rfl rfl rfl ?_
  refine W.aft Imp.all ?_
  refine W.ald1 12 (by kernel_rfl) rfl ?_
  (repeat (first | refine W.ctl rfl ?_ | refine W.op rfl rfl rfl rfl ?_ | refine W.skip rfl rfl ?_))
  refine W.aft Imp.all (W.adn (by kernel_rfl) ?_)
  (repeat (first | refine W.ctl rfl ?_ | refine W.op rfl rfl rfl rfl ?_ | refine W.skip rfl rfl ?_ | refine W.fld rfl rfl rfl rfl rfl ?_ | refine W.ld rfl rfl rfl rfl rfl ?_))
  rw [hsp, show N.keys.getD kk 0 = N.keys[kk] by simp [List.getD_eq_getElem?_getD, hkl]]
  refine W.rets (.inr rfl) rfl (.cons (RV1.cells rfl) (.cons (RV1.tmp rfl) (.cons (RV1.cells rfl) (.cons (RV1.tmp rfl) .nil)))) _ ⟨y, z, rfl, rfl⟩ Imp.all
end Go.Proofs.YtbdhhedfplkidaaGreat
