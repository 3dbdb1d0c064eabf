/- Nodes changed. -/
import Derived.Test.YtbdhhedfplkidaaGreatC9
import Derived.Test.YtbdhhedfplkidaaGreatC12
import Derived.Test.YtbdhhedfplkidaaGreatE11
namespace Go.Proofs.YtbdhhedfplkidaaGreat
open Go
open M (Str)
set_option maxHeartbeats 400000
set_option maxRecDepth 2000
theorem map_ones {α : Type} (f : α → Value) (h : ∀ x, (f x).oneCell' = true) (xs : List α) : ∀ u ∈ xs.map f, u.oneCell' = true := fun u hu => by
  obtain ⟨x, _, rfl⟩ := List.mem_map.1 hu; exact h x
/-- One thing more, as a part. -/
theorem Part.one (g : Nat) (E : TypeId) (v : Value) : Part.ok (row g E [v]) ⟨some (g, 0), 1, [v]⟩ := by
  refine .inr ⟨g, 0, rfl, fun c w hs j u hj => ?_⟩
  rw [← sep_emp' (row g E [v])] at hs
  rw [hs.rcell]; simpa using hj
theorem Part.none (F : HProp) : Part.ok F ⟨none, 0, []⟩ := .inl rfl
theorem nput_leaf {N : M.Node} (hl : N.leaf = true) (key : Nat) (value : Str) : M.nput N key value = ⟨true, M.laid N.keys (M.place N.keys key).1 (if (M.place N.keys key).2 then 1 else 0 : Nat) [key], M.laid N.vals (M.place N.keys key).1 (if (M.place N.keys key).2 then 1 else 0 : Nat) [value], []⟩ := by
  rw [M.nput, if_neg (by simp [hl])]
  dsimp only
  split <;> rfl
theorem node_Put (N : M.Node) (x : NP) (key : Nat) (value : Str) (hN : NB N) (hl : N.leaf = true) : CS 63 [nodeV N x, u64 key, str value] (NodeH N x)
    fun v H' => ∃ y, v = nodeV (M.nput N key value) y ∧ H' = NodeH (M.nput N key value) y := by
  have hk := hN.keys
  have hv := hN.vals
  have hp := place_le N.keys key
  have hrw := nput_leaf hl key value
  obtain ⟨N', hN'⟩ : ∃ N', M.nput N key value = N' := ⟨_, rfl⟩
  rw [hN'] at hrw ⊢
  obtain ⟨gone, hgone⟩ : ∃ g : Nat, (if (M.place N.keys key).2 then 1 else 0 : Nat) = g := ⟨_, rfl⟩
  rw [hgone] at hrw
  have hg1 : gone ≤ 1 := by rw [← hgone]; split <;> omega
  obtain ⟨pl, hpl⟩ : ∃ p, (M.place N.keys key).1 = p := ⟨_, rfl⟩
  rw [hpl] at hrw hp
  have e1 : M.laid (N.keys.map u64) pl gone [u64 key] = N'.keys.map u64 := by rw [hrw]; exact laid_map u64 N.keys [key] pl gone
  have e2 : M.laid (N.vals.map str) pl gone [str value] = N'.vals.map str := by rw [hrw]; exact laid_map str N.vals [value] pl gone
  refine CS.walk Tryz.func63 rfl Tryz.ntmps63 rfl fun c R => ?_
  simp only [NodeH, NodeB, sep_assoc', emp_sep]
  (repeat (first | refine W.ctl rfl ?_ | refine W.op rfl rfl rfl rfl ?_ | refine W.skip rfl rfl ?_ | refine W.fld rfl rfl rfl rfl rfl ?_ | refine W.ld rfl rfl rfl rfl rfl ?_))
  refine W.box rfl rfl rfl rfl rfl fun nb => ?_
  refine W.alc rfl rfl rfl rfl fun res => ?_
  rw [hl]
  (repeat (first | refine W.ctl rfl ?_ | refine W.op rfl rfl rfl rfl ?_ | refine W.skip rfl rfl ?_ | refine W.fld rfl rfl rfl rfl rfl ?_ | refine W.ld rfl rfl rfl rfl rfl ?_))
  refine W.call (node_place x.ka x.kc N.keys key hk) rfl rfl rfl rfl Tryz.call112 ⟨rfl, rfl, trivial⟩ ?_
  rintro _ _ ⟨rfl, rfl⟩
  rw [hpl]
  (repeat (first | refine W.ctl rfl ?_ | refine W.op rfl rfl rfl rfl ?_ | refine W.skip rfl rfl ?_ | refine W.fld rfl rfl rfl rfl rfl ?_ | refine W.ld rfl rfl rfl rfl rfl ?_))
  refine W.join (σ := Unit) (fun _ => True) (fun _ => [(1, u64 key), (2, str value), (3, ptr nb), (6, ptr res), (7, int pl), (9, int gone)]) (fun _ => row nb 114 [Value.bool true, sv x.ka N.keys.length x.kc, sv x.va N.vals.length x.vc, sv x.da N.kids.length x.dc] • row res 114 [.bool false, .slice none 0 0, .slice none 0 0, .slice none 0 0] • NodeB N x R) ?_ fun _ _ => ?_
  · refine W.case 21 rfl (fun hb => ?_) (fun hb => ?_)
    · rw [hb] at hgone
      (repeat (first | refine W.ctl rfl ?_ | refine W.op rfl rfl rfl rfl ?_ | refine W.skip rfl rfl ?_ | refine W.fld rfl rfl rfl rfl rfl ?_ | refine W.ld rfl rfl rfl rfl rfl ?_))
      exact W.meet () trivial ⟨rfl, rfl, rfl, rfl, rfl, by rw [← hgone]; rfl, trivial⟩ Imp.all
    · rw [hb] at hgone
      (repeat (first | refine W.ctl rfl ?_ | refine W.op rfl rfl rfl rfl ?_ | refine W.skip rfl rfl ?_ | refine W.fld rfl rfl rfl rfl rfl ?_ | refine W.ld rfl rfl rfl rfl rfl ?_))
      exact W.meet () trivial ⟨rfl, rfl, rfl, rfl, rfl, by rw [← hgone]; rfl, trivial⟩ Imp.all
  (repeat (first | refine W.ctl rfl ?_ | refine W.op rfl rfl rfl rfl ?_ | refine W.skip rfl rfl ?_ | refine W.fld rfl rfl rfl rfl rfl ?_ | refine W.ld rfl rfl rfl rfl rfl ?_))
  refine W.anyh (f := 6) (fun _ => true) [0, 1, 2, 3, 4, 7, 8, 9, 10, 11] (by kernel_rfl) (by kernel_rfl) (by kernel_rfl) (by kernel_rfl) rfl (row nb 114 [Value.bool true, sv x.ka N.keys.length x.kc, sv x.va N.vals.length x.vc, sv x.da N.kids.length x.dc]) Imp.all ?_
  (repeat (first | refine W.ctl rfl ?_ | refine W.op rfl rfl rfl rfl ?_ | refine W.skip rfl rfl ?_ | refine W.fld rfl rfl rfl rfl rfl ?_ | refine W.ld rfl rfl rfl rfl rfl ?_))
  refine W.tdn ?_
  refine W.par (f := 2) [(3, ptr nb), (6, ptr res), (23, sv x.ka N.keys.length x.kc), (24, int pl), (25, int gone), (26, u64 key), (30, sv x.va N.vals.length x.vc), (31, int pl), (32, int gone), (33, str value)] ⟨rfl, rfl, rfl, rfl, rfl, rfl, rfl, rfl, rfl, rfl, trivial⟩ [5, 6] [12, 13] []
    (slck 1 35 (sv x.ka N.keys.length x.kc) N.keys.length (N.keys.map u64)) (slck 1 9 (sv x.va N.vals.length x.vc) N.vals.length (N.vals.map str)) emp
    (row nb 114 [Value.bool true, sv x.ka N.keys.length x.kc, sv x.va N.vals.length x.vc, sv x.da N.kids.length x.dc] • row res 114 [.bool false, .slice none 0 0, .slice none 0 0, .slice none 0 0] • R)
    (EA := fun l h => ∃ a' c' g, l = [(28, sv a' N'.keys.length c'), (27, g)] ∧ h = slck 1 35 (sv a' N'.keys.length c') N'.keys.length (N'.keys.map u64))
    (EB := fun l h => ∃ a' c' g, l = [(35, sv a' N'.vals.length c'), (34, g)] ∧ h = slck 1 9 (sv a' N'.vals.length c') N'.vals.length (N'.vals.map str))
    (by rfl) (by kernel_rfl) (by kernel_rfl) (by rw [emp_sep]; exact Imp.all) Imp.all ?_ ?_ Thr.nil ?_
  · refine ⟨_, _, rfl, rfl, fun b J S f li lx F k => ?_⟩
    refine W.bsl (vs := [_]) rfl rfl rfl rfl ⟨rfl, rfl, trivial⟩ rfl rfl rfl fun g => ?_
    refine W.eq (sep_assoc' _ _ _).symm (k _ _ ?_)
    refine ⟨_, _, rfl, rfl, fun b J S f li lx F k => ?_⟩
    have hc := laid_u64 x.ka N.keys.length x.kc (N.keys.map u64) pl gone ⟨some (g, 0), 1, [u64 key]⟩ (row g 35 [u64 key]) (Part.one _ _ _) (map_ones u64 (fun _ => rfl) [key]) (by simp) (map_ones u64 (fun _ => rfl) _) (by omega) (by omega) (by omega)
    dsimp only at hc
    rw [e1, List.length_map] at hc
    refine W.eq (sep_assoc' _ _ _) ?_
    refine W.call hc rfl rfl rfl rfl Tryz.call113 ⟨rfl, rfl, rfl, rfl, trivial⟩ ?_
    rintro _ _ ⟨a', c', rfl, rfl⟩
    exact W.imp rfl (by simp only [sep_assoc']; exact Imp.all) (k _ _ ⟨a', c', _, rfl, rfl⟩)
  · refine ⟨_, _, rfl, rfl, fun b J S f li lx F k => ?_⟩
    refine W.bsl (vs := [_]) rfl rfl rfl rfl ⟨rfl, rfl, trivial⟩ rfl rfl rfl fun g => ?_
    refine W.eq (sep_assoc' _ _ _).symm (k _ _ ?_)
    refine ⟨_, _, rfl, rfl, fun b J S f li lx F k => ?_⟩
    have hc := laid_str x.va N.vals.length x.vc (N.vals.map str) pl gone ⟨some (g, 0), 1, [str value]⟩ (row g 9 [str value]) (Part.one _ _ _) (map_ones str (fun _ => rfl) [value]) (by simp) (map_ones str (fun _ => rfl) _) (by omega) (by omega) (by omega)
    dsimp only at hc
    rw [e2, List.length_map] at hc
    refine W.eq (sep_assoc' _ _ _) ?_
    refine W.call hc rfl rfl rfl rfl Tryz.call114 ⟨rfl, rfl, rfl, rfl, trivial⟩ ?_
    rintro _ _ ⟨a', c', rfl, rfl⟩
    exact W.imp rfl (by simp only [sep_assoc']; exact Imp.all) (k _ _ ⟨a', c', _, rfl, rfl⟩)
  · rintro _ _ _ _ _ _ ⟨a', c', g, rfl, rfl⟩ ⟨b', d', g', rfl, rfl⟩ ⟨rfl, rfl⟩
    simp only [emp_sep]
    refine W.ald1 14 (by kernel_rfl) rfl ?_
    refine W.bld rfl rfl rfl rfl rfl ?_
    refine W.aft Imp.all ?_
    refine W.ald1 15 (by kernel_rfl) rfl ?_
    refine W.sts rfl rfl rfl rfl rfl rfl ?_
    refine W.aft Imp.all (W.adn (by kernel_rfl) ?_)
    (repeat (first | refine W.ctl rfl ?_ | refine W.op rfl rfl rfl rfl ?_ | refine W.skip rfl rfl ?_ | refine W.fld rfl rfl rfl rfl rfl ?_ | refine W.ld rfl rfl rfl rfl rfl ?_))
    have e3 : nodeV N' ⟨a', c', b', d', none, 0⟩ = .agg #[.bool true, sv a' N'.keys.length c', sv b' N'.vals.length d', .slice none 0 0] := by rw [hrw]; rfl
    refine W.rets (.inr rfl) rfl (.cons (RV1.cells rfl) .nil) _ ⟨⟨a', c', b', d', none, 0⟩, e3.symm, rfl⟩ ?_
    have e4 : N'.kids = [] := by rw [hrw]
    simp only [NodeH, NodeB, e4, List.length_nil, List.map_nil, skv_nil, emp_sep, sep_emp', sep_assoc']
    exact Imp.all
theorem node_Hang (N : M.Node) (x : NP) (i : Nat) (key : Nat) (kid : Int) (hN : NB N) (hl : N.leaf = false) (hi : i ≤ N.keys.length) : CS 67 [nodeV N x, int i, u64 key, int kid] (NodeH N x)
    fun v H' => ∃ y, v = nodeV (M.nhang N i key kid) y ∧ H' = NodeH (M.nhang N i key kid) y := by
  have hk := hN.keys
  have hd := hN.kids
  have hrw : M.nhang N i key kid = ⟨false, M.laid N.keys i (0 : Nat) [key], [], M.laid N.kids (i + 1 : Nat) (0 : Nat) [kid]⟩ := by
    rw [M.nhang, if_neg (by simp [hl]; omega)]; rfl
  obtain ⟨N', hN'⟩ : ∃ N', M.nhang N i key kid = N' := ⟨_, rfl⟩
  rw [hN'] at hrw ⊢
  have e1 : M.laid (N.keys.map u64) i (0 : Nat) [u64 key] = N'.keys.map u64 := by rw [hrw]; exact laid_map u64 N.keys [key] i 0
  have e2 : M.laid (N.kids.map int) (i + 1 : Nat) (0 : Nat) [int kid] = N'.kids.map int := by rw [hrw]; exact laid_map int N.kids [kid] _ _
  refine CS.walk Tryz.func67 rfl Tryz.ntmps67 rfl fun c R => ?_
  simp only [NodeH, NodeB, sep_assoc', emp_sep]
  (repeat (first | refine W.ctl rfl ?_ | refine W.op rfl rfl rfl rfl ?_ | refine W.skip rfl rfl ?_ | refine W.fld rfl rfl rfl rfl rfl ?_ | refine W.ld rfl rfl rfl rfl rfl ?_))
  refine W.box rfl rfl rfl rfl rfl fun nb => ?_
  refine W.alc rfl rfl rfl rfl fun res => ?_
  rw [hl]
  (repeat (first | refine W.ctl rfl ?_ | refine W.op rfl rfl rfl rfl ?_ | refine W.skip rfl rfl ?_ | refine W.fld rfl rfl rfl rfl rfl ?_ | refine W.ld rfl rfl rfl rfl rfl ?_))
  refine W.no rfl rfl rfl rfl (by omega : ¬ (i : Int) < 0) ?_
  (repeat (first | refine W.ctl rfl ?_ | refine W.op rfl rfl rfl rfl ?_ | refine W.skip rfl rfl ?_ | refine W.fld rfl rfl rfl rfl rfl ?_ | refine W.ld rfl rfl rfl rfl rfl ?_))
  refine W.len rfl rfl rfl rfl rfl ?_
  (repeat (first | refine W.ctl rfl ?_ | refine W.op rfl rfl rfl rfl ?_ | refine W.skip rfl rfl ?_ | refine W.fld rfl rfl rfl rfl rfl ?_ | refine W.ld rfl rfl rfl rfl rfl ?_))
  refine W.no rfl rfl rfl rfl (by omega : ¬ (N.keys.length : Int) < i) ?_
  (repeat (first | refine W.ctl rfl ?_ | refine W.op rfl rfl rfl rfl ?_ | refine W.skip rfl rfl ?_ | refine W.fld rfl rfl rfl rfl rfl ?_ | refine W.ld rfl rfl rfl rfl rfl ?_))
  refine W.anyh (f := 6) (fun _ => true) [0, 1, 2, 3, 6, 7, 8, 9, 10] (by kernel_rfl) (by kernel_rfl) (by kernel_rfl) (by kernel_rfl) rfl (row nb 114 [Value.bool false, sv x.ka N.keys.length x.kc, sv x.va N.vals.length x.vc, sv x.da N.kids.length x.dc]) Imp.all ?_
  (repeat (first | refine W.ctl rfl ?_ | refine W.op rfl rfl rfl rfl ?_ | refine W.skip rfl rfl ?_ | refine W.fld rfl rfl rfl rfl rfl ?_ | refine W.ld rfl rfl rfl rfl rfl ?_))
  refine W.ar (r := ((i + 1 : Nat) : Int)) rfl rfl rfl rfl rfl rfl rfl (wrap_i64 (by omega) (by omega)) ?_
  (repeat (first | refine W.ctl rfl ?_ | refine W.op rfl rfl rfl rfl ?_ | refine W.skip rfl rfl ?_ | refine W.fld rfl rfl rfl rfl rfl ?_ | refine W.ld rfl rfl rfl rfl rfl ?_))
  refine W.tdn ?_
  refine W.par (f := 2) [(4, ptr nb), (8, ptr res), (24, sv x.ka N.keys.length x.kc), (25, int i), (26, u64 key), (30, sv x.da N.kids.length x.dc), (32, int (i + 1 : Nat)), (33, int kid)] ⟨rfl, rfl, rfl, rfl, rfl, rfl, rfl, rfl, trivial⟩ [4, 5] [11, 12] []
    (slck 1 35 (sv x.ka N.keys.length x.kc) N.keys.length (N.keys.map u64)) (slck 1 3 (sv x.da N.kids.length x.dc) N.kids.length (N.kids.map int)) emp
    (row nb 114 [Value.bool false, sv x.ka N.keys.length x.kc, sv x.va N.vals.length x.vc, sv x.da N.kids.length x.dc] • row res 114 [.bool false, .slice none 0 0, .slice none 0 0, .slice none 0 0] • R)
    (EA := fun l h => ∃ a' c' g, l = [(28, sv a' N'.keys.length c'), (27, g)] ∧ h = slck 1 35 (sv a' N'.keys.length c') N'.keys.length (N'.keys.map u64))
    (EB := fun l h => ∃ a' c' g, l = [(35, sv a' N'.kids.length c'), (34, g)] ∧ h = slck 1 3 (sv a' N'.kids.length c') N'.kids.length (N'.kids.map int))
    (by rfl) (by kernel_rfl) (by kernel_rfl) (by rw [emp_sep]; exact Imp.all) Imp.all ?_ ?_ Thr.nil ?_
  · refine ⟨_, _, rfl, rfl, fun b J S f li lx F k => ?_⟩
    refine W.bsl (vs := [_]) rfl rfl rfl rfl ⟨rfl, rfl, trivial⟩ rfl rfl rfl fun g => ?_
    refine W.eq (sep_assoc' _ _ _).symm (k _ _ ?_)
    refine ⟨_, _, rfl, rfl, fun b J S f li lx F k => ?_⟩
    have hc := laid_u64 x.ka N.keys.length x.kc (N.keys.map u64) i 0 ⟨some (g, 0), 1, [u64 key]⟩ (row g 35 [u64 key]) (Part.one _ _ _) (map_ones u64 (fun _ => rfl) [key]) (by simp) (map_ones u64 (fun _ => rfl) _) (by omega) (by omega) (by omega)
    dsimp only at hc
    rw [e1, List.length_map] at hc
    refine W.eq (sep_assoc' _ _ _) ?_
    refine W.call hc rfl rfl rfl rfl Tryz.call113 ⟨rfl, rfl, rfl, rfl, trivial⟩ ?_
    rintro _ _ ⟨a', c', rfl, rfl⟩
    exact W.imp rfl (by simp only [sep_assoc']; exact Imp.all) (k _ _ ⟨a', c', _, rfl, rfl⟩)
  · refine ⟨_, _, rfl, rfl, fun b J S f li lx F k => ?_⟩
    refine W.bsl (vs := [_]) rfl rfl rfl rfl ⟨rfl, rfl, trivial⟩ rfl rfl rfl fun g => ?_
    refine W.eq (sep_assoc' _ _ _).symm (k _ _ ?_)
    refine ⟨_, _, rfl, rfl, fun b J S f li lx F k => ?_⟩
    have hc := laid_int x.da N.kids.length x.dc (N.kids.map int) (i + 1) 0 ⟨some (g, 0), 1, [int kid]⟩ (row g 3 [int kid]) (Part.one _ _ _) (map_ones int (fun _ => rfl) [kid]) (by simp) (map_ones int (fun _ => rfl) _) (by omega) (by omega) (by omega)
    dsimp only at hc
    rw [e2, List.length_map] at hc
    refine W.eq (sep_assoc' _ _ _) ?_
    refine W.call hc rfl rfl rfl rfl Tryz.call116 ⟨rfl, rfl, rfl, rfl, trivial⟩ ?_
    rintro _ _ ⟨a', c', rfl, rfl⟩
    exact W.imp rfl (by simp only [sep_assoc']; exact Imp.all) (k _ _ ⟨a', c', _, rfl, rfl⟩)
  · rintro _ _ _ _ _ _ ⟨a', c', g, rfl, rfl⟩ ⟨b', d', g', rfl, rfl⟩ ⟨rfl, rfl⟩
    simp only [emp_sep]
    refine W.ald1 13 (by kernel_rfl) rfl ?_
    refine W.bld rfl rfl rfl rfl rfl ?_
    refine W.aft Imp.all ?_
    refine W.ald1 14 (by kernel_rfl) rfl ?_
    refine W.sts rfl rfl rfl rfl rfl rfl ?_
    refine W.aft Imp.all (W.adn (by kernel_rfl) ?_)
    (repeat (first | refine W.ctl rfl ?_ | refine W.op rfl rfl rfl rfl ?_ | refine W.skip rfl rfl ?_ | refine W.fld rfl rfl rfl rfl rfl ?_ | refine W.ld rfl rfl rfl rfl rfl ?_))
    have e3 : nodeV N' ⟨a', c', none, 0, b', d'⟩ = .agg #[.bool false, sv a' N'.keys.length c', .slice none 0 0, sv b' N'.kids.length d'] := by rw [hrw]; rfl
    refine W.rets (.inr rfl) rfl (.cons (RV1.cells rfl) .nil) _ ⟨⟨a', c', none, 0, b', d'⟩, e3.symm, rfl⟩ ?_
    have e4 : N'.vals = [] := by rw [hrw]
    simp only [e4, List.length_nil, List.map_nil, skv_nil, emp_sep, sep_emp', sep_assoc']
    exact Imp.all
/-- laid, when nothing is laid: some things are gone. -/
theorem gone_u64 (a : Option Nat) (cap : Nat) (xs : List Nat) (at' gone : Nat) (ys : List Nat) (e : M.laid xs at' gone [] = ys) (hx : xs.length ≤ 8192) (ha : at' ≤ 100000) (hg : gone ≤ 100000) :
    CS 113 [sv a xs.length cap, int at', int gone, .slice none 0 0] (slck 1 35 (sv a xs.length cap) xs.length (xs.map u64))
      fun v H' => ∃ a' cap', v = sv a' ys.length cap' ∧ H' = (slck 1 35 (sv a' ys.length cap') ys.length (ys.map u64) • slck 1 35 (sv a xs.length cap) xs.length (xs.map u64)) := by
  have hc := laid_u64 a xs.length cap (xs.map u64) at' gone ⟨none, 0, []⟩ emp (Part.none _) (fun u hu => by cases hu) (by simp) (map_ones u64 (fun _ => rfl) _) hx ha hg
  dsimp only at hc
  rw [show M.laid (xs.map u64) at' gone [] = ys.map u64 by rw [← e]; exact laid_map u64 xs [] at' gone] at hc
  simp only [List.length_map, sep_emp'] at hc
  exact hc
theorem gone_str (a : Option Nat) (cap : Nat) (xs : List Str) (at' gone : Nat) (ys : List Str) (e : M.laid xs at' gone [] = ys) (hx : xs.length ≤ 8192) (ha : at' ≤ 100000) (hg : gone ≤ 100000) :
    CS 114 [sv a xs.length cap, int at', int gone, .slice none 0 0] (slck 1 9 (sv a xs.length cap) xs.length (xs.map str))
      fun v H' => ∃ a' cap', v = sv a' ys.length cap' ∧ H' = (slck 1 9 (sv a' ys.length cap') ys.length (ys.map str) • slck 1 9 (sv a xs.length cap) xs.length (xs.map str)) := by
  have hc := laid_str a xs.length cap (xs.map str) at' gone ⟨none, 0, []⟩ emp (Part.none _) (fun u hu => by cases hu) (by simp) (map_ones str (fun _ => rfl) _) hx ha hg
  dsimp only at hc
  rw [show M.laid (xs.map str) at' gone [] = ys.map str by rw [← e]; exact laid_map str xs [] at' gone] at hc
  simp only [List.length_map, sep_emp'] at hc
  exact hc
theorem gone_int (a : Option Nat) (cap : Nat) (xs : List Int) (at' gone : Nat) (ys : List Int) (e : M.laid xs at' gone [] = ys) (hx : xs.length ≤ 8192) (ha : at' ≤ 100000) (hg : gone ≤ 100000) :
    CS 116 [sv a xs.length cap, int at', int gone, .slice none 0 0] (slck 1 3 (sv a xs.length cap) xs.length (xs.map int))
      fun v H' => ∃ a' cap', v = sv a' ys.length cap' ∧ H' = (slck 1 3 (sv a' ys.length cap') ys.length (ys.map int) • slck 1 3 (sv a xs.length cap) xs.length (xs.map int)) := by
  have hc := laid_int a xs.length cap (xs.map int) at' gone ⟨none, 0, []⟩ emp (Part.none _) (fun u hu => by cases hu) (by simp) (map_ones int (fun _ => rfl) _) hx ha hg
  dsimp only at hc
  rw [show M.laid (xs.map int) at' gone [] = ys.map int by rw [← e]; exact laid_map int xs [] at' gone] at hc
  simp only [List.length_map, sep_emp'] at hc
  exact hc
theorem node_Without (N : M.Node) (x : NP) (i : Nat) (hN : NB N) (hl : N.leaf = true) (hi : i < N.keys.length) : CS 68 [nodeV N x, int i] (NodeH N x)
    fun v H' => ∃ y, v = nodeV (M.nwithout N i) y ∧ H' = NodeH (M.nwithout N i) y := by
  have hk := hN.keys
  have hv := hN.vals
  have hrw : M.nwithout N i = ⟨true, M.laid N.keys i (1 : Nat) [], M.laid N.vals i (1 : Nat) [], []⟩ := by
    rw [M.nwithout, if_neg (by simp [hl]; omega)]; rfl
  obtain ⟨N', hN'⟩ : ∃ N', M.nwithout N i = N' := ⟨_, rfl⟩
  rw [hN'] at hrw ⊢
  refine CS.walk Tryz.func68 rfl Tryz.ntmps68 rfl fun c R => ?_
  simp only [NodeH, NodeB, sep_assoc', emp_sep]
  (repeat (first | refine W.ctl rfl ?_ | refine W.op rfl rfl rfl rfl ?_ | refine W.skip rfl rfl ?_ | refine W.fld rfl rfl rfl rfl rfl ?_ | refine W.ld rfl rfl rfl rfl rfl ?_))
  refine W.box rfl rfl rfl rfl rfl fun nb => ?_
  refine W.alc rfl rfl rfl rfl fun res => ?_
  rw [hl]
  (repeat (first | refine W.ctl rfl ?_ | refine W.op rfl rfl rfl rfl ?_ | refine W.skip rfl rfl ?_ | refine W.fld rfl rfl rfl rfl rfl ?_ | refine W.ld rfl rfl rfl rfl rfl ?_))
  refine W.no rfl rfl rfl rfl (by omega : ¬ (i : Int) < 0) ?_
  (repeat (first | refine W.ctl rfl ?_ | refine W.op rfl rfl rfl rfl ?_ | refine W.skip rfl rfl ?_ | refine W.fld rfl rfl rfl rfl rfl ?_ | refine W.ld rfl rfl rfl rfl rfl ?_))
  refine W.len rfl rfl rfl rfl rfl ?_
  (repeat (first | refine W.ctl rfl ?_ | refine W.op rfl rfl rfl rfl ?_ | refine W.skip rfl rfl ?_ | refine W.fld rfl rfl rfl rfl rfl ?_ | refine W.ld rfl rfl rfl rfl rfl ?_))
  refine W.no rfl rfl rfl rfl (by omega : ¬ (N.keys.length : Int) ≤ i) ?_
  (repeat (first | refine W.ctl rfl ?_ | refine W.op rfl rfl rfl rfl ?_ | refine W.skip rfl rfl ?_ | refine W.fld rfl rfl rfl rfl rfl ?_ | refine W.ld rfl rfl rfl rfl rfl ?_))
  refine W.anyh (f := 4) (fun _ => true) [0, 1, 2, 4, 5, 6] (by kernel_rfl) (by kernel_rfl) (by kernel_rfl) (by kernel_rfl) rfl (row nb 114 [Value.bool true, sv x.ka N.keys.length x.kc, sv x.va N.vals.length x.vc, sv x.da N.kids.length x.dc]) Imp.all ?_
  (repeat (first | refine W.ctl rfl ?_ | refine W.op rfl rfl rfl rfl ?_ | refine W.skip rfl rfl ?_ | refine W.fld rfl rfl rfl rfl rfl ?_ | refine W.ld rfl rfl rfl rfl rfl ?_))
  refine W.tdn ?_
  refine W.ald1 3 (by kernel_rfl) rfl ?_
  refine W.call (gone_u64 x.ka x.kc N.keys i 1 N'.keys (by rw [hrw]) (by omega) (by omega) (by omega)) rfl rfl rfl rfl Tryz.call113 ⟨rfl, rfl, rfl, rfl, trivial⟩ ?_
  rintro _ _ ⟨a', c', rfl, rfl⟩
  simp only [sep_assoc']
  refine W.aft Imp.all ?_
  refine W.ald1 7 (by kernel_rfl) rfl ?_
  refine W.call (gone_str x.va x.vc N.vals i 1 N'.vals (by rw [hrw]) (by omega) (by omega) (by omega)) rfl rfl rfl rfl Tryz.call114 ⟨rfl, rfl, rfl, rfl, trivial⟩ ?_
  rintro _ _ ⟨b', d', rfl, rfl⟩
  simp only [sep_assoc']
  refine W.aft Imp.all ?_
  refine W.ald1 8 (by kernel_rfl) rfl ?_
  refine W.bld rfl rfl rfl rfl rfl ?_
  refine W.aft Imp.all ?_
  refine W.ald1 9 (by kernel_rfl) rfl ?_
  refine W.sts rfl rfl rfl rfl rfl rfl ?_
  refine W.aft Imp.all (W.adn (by kernel_rfl) ?_)
  (repeat (first | refine W.ctl rfl ?_ | refine W.op rfl rfl rfl rfl ?_ | refine W.skip rfl rfl ?_ | refine W.fld rfl rfl rfl rfl rfl ?_ | refine W.ld rfl rfl rfl rfl rfl ?_))
  have e3 : nodeV N' ⟨a', c', b', d', none, 0⟩ = .agg #[.bool true, sv a' N'.keys.length c', sv b' N'.vals.length d', .slice none 0 0] := by rw [hrw]; rfl
  refine W.rets (.inr rfl) rfl (.cons (RV1.cells rfl) .nil) _ ⟨⟨a', c', b', d', none, 0⟩, e3.symm, rfl⟩ ?_
  have e4 : N'.kids = [] := by rw [hrw]
  simp only [e4, List.length_nil, List.map_nil, skv_nil, emp_sep, sep_emp', sep_assoc']
  exact Imp.all
theorem node_Unhang (N : M.Node) (x : NP) (i : Nat) (hN : NB N) (hl : N.leaf = false) (hi : i < N.keys.length) : CS 119 [nodeV N x, int i] (NodeH N x)
    fun v H' => ∃ y, v = nodeV (M.nunhang N i) y ∧ H' = NodeH (M.nunhang N i) y := by
  have hk := hN.keys
  have hd := hN.kids
  have hrw : M.nunhang N i = ⟨false, M.laid N.keys i (1 : Nat) [], [], M.laid N.kids (i + 1 : Nat) (1 : Nat) []⟩ := by
    rw [M.nunhang, if_neg (by simp [hl]; omega)]; rfl
  obtain ⟨N', hN'⟩ : ∃ N', M.nunhang N i = N' := ⟨_, rfl⟩
  rw [hN'] at hrw ⊢
  refine CS.walk Tryz.func119 rfl Tryz.ntmps119 rfl fun c R => ?_
  simp only [NodeH, NodeB, sep_assoc', emp_sep]
  (repeat (first | refine W.ctl rfl ?_ | refine W.op rfl rfl rfl rfl ?_ | refine W.skip rfl rfl ?_ | refine W.fld rfl rfl rfl rfl rfl ?_ | refine W.ld rfl rfl rfl rfl rfl ?_))
  refine W.box rfl rfl rfl rfl rfl fun nb => ?_
  refine W.alc rfl rfl rfl rfl fun res => ?_
  rw [hl]
  (repeat (first | refine W.ctl rfl ?_ | refine W.op rfl rfl rfl rfl ?_ | refine W.skip rfl rfl ?_ | refine W.fld rfl rfl rfl rfl rfl ?_ | refine W.ld rfl rfl rfl rfl rfl ?_))
  refine W.no rfl rfl rfl rfl (by omega : ¬ (i : Int) < 0) ?_
  (repeat (first | refine W.ctl rfl ?_ | refine W.op rfl rfl rfl rfl ?_ | refine W.skip rfl rfl ?_ | refine W.fld rfl rfl rfl rfl rfl ?_ | refine W.ld rfl rfl rfl rfl rfl ?_))
  refine W.len rfl rfl rfl rfl rfl ?_
  (repeat (first | refine W.ctl rfl ?_ | refine W.op rfl rfl rfl rfl ?_ | refine W.skip rfl rfl ?_ | refine W.fld rfl rfl rfl rfl rfl ?_ | refine W.ld rfl rfl rfl rfl rfl ?_))
  refine W.no rfl rfl rfl rfl (by omega : ¬ (N.keys.length : Int) ≤ i) ?_
  (repeat (first | refine W.ctl rfl ?_ | refine W.op rfl rfl rfl rfl ?_ | refine W.skip rfl rfl ?_ | refine W.fld rfl rfl rfl rfl rfl ?_ | refine W.ld rfl rfl rfl rfl rfl ?_))
  refine W.anyh (f := 4) (fun _ => true) [0, 1, 2, 4, 5, 6, 7] (by kernel_rfl) (by kernel_rfl) (by kernel_rfl) (by kernel_rfl) rfl (row nb 114 [Value.bool false, sv x.ka N.keys.length x.kc, sv x.va N.vals.length x.vc, sv x.da N.kids.length x.dc]) Imp.all ?_
  (repeat (first | refine W.ctl rfl ?_ | refine W.op rfl rfl rfl rfl ?_ | refine W.skip rfl rfl ?_ | refine W.fld rfl rfl rfl rfl rfl ?_ | refine W.ld rfl rfl rfl rfl rfl ?_))
  refine W.ar (r := ((i + 1 : Nat) : Int)) rfl rfl rfl rfl rfl rfl rfl (wrap_i64 (by omega) (by omega)) ?_
  (repeat (first | refine W.ctl rfl ?_ | refine W.op rfl rfl rfl rfl ?_ | refine W.skip rfl rfl ?_ | refine W.fld rfl rfl rfl rfl rfl ?_ | refine W.ld rfl rfl rfl rfl rfl ?_))
  refine W.tdn ?_
  refine W.ald1 3 (by kernel_rfl) rfl ?_
  refine W.call (gone_u64 x.ka x.kc N.keys i 1 N'.keys (by rw [hrw]) (by omega) (by omega) (by omega)) rfl rfl rfl rfl Tryz.call113 ⟨rfl, rfl, rfl, rfl, trivial⟩ ?_
  rintro _ _ ⟨a', c', rfl, rfl⟩
  simp only [sep_assoc']
  refine W.aft Imp.all ?_
  refine W.ald1 8 (by kernel_rfl) rfl ?_
  refine W.call (gone_int x.da x.dc N.kids (i + 1) 1 N'.kids (by rw [hrw]) (by omega) (by omega) (by omega)) rfl rfl rfl rfl Tryz.call116 ⟨rfl, rfl, rfl, rfl, trivial⟩ ?_
  rintro _ _ ⟨b', d', rfl, rfl⟩
  simp only [sep_assoc']
  refine W.aft Imp.all ?_
  refine W.ald1 9 (by kernel_rfl) rfl ?_
  refine W.bld rfl rfl rfl rfl rfl ?_
  refine W.aft Imp.all ?_
  refine W.ald1 10 (by kernel_rfl) rfl ?_
  refine W.sts rfl rfl rfl rfl rfl rfl ?_
  refine W.aft Imp.all (W.adn (by kernel_rfl) ?_)
  (repeat (first | refine W.ctl rfl ?_ | refine W.op rfl rfl rfl rfl ?_ | refine W.skip rfl rfl ?_ | refine W.fld rfl rfl rfl rfl rfl ?_ | refine W.ld rfl rfl rfl rfl rfl ?_))
  have e3 : nodeV N' ⟨a', c', none, 0, b', d'⟩ = .agg #[.bool false, sv a' N'.keys.length c', .slice none 0 0, sv b' N'.kids.length d'] := by rw [hrw]; rfl
  refine W.rets (.inr rfl) rfl (.cons (RV1.cells rfl) .nil) _ ⟨⟨a', c', none, 0, b', d'⟩, e3.symm, rfl⟩ ?_
  have e4 : N'.vals = [] := by rw [hrw]
  simp only [e4, List.length_nil, List.map_nil, skv_nil, emp_sep, sep_emp', sep_assoc']
  exact Imp.all
end Go.Proofs.YtbdhhedfplkidaaGreat
