/- Two nodes as one. -/
import Derived.Test.YtbdhhedfplkidaaGreatC14
namespace Go.Proofs.YtbdhhedfplkidaaGreat
open Go
open M (Str)
set_option maxHeartbeats 400000
set_option maxRecDepth 2000
/-- An owned slice as a part. -/
theorem Part.own (a : Option Nat) (E : TypeId) (n cap : Nat) (xs : List Value) (hn : n = xs.length) (F R : HProp) [hk : Sk F a E 1 n cap xs R] (h : a = .none → xs = []) : Part.ok F ⟨a.map fun g => (g, 0), cap, xs⟩ := by
  cases a with
  | none => exact .inl (h rfl)
  | some g =>
    refine .inr ⟨g, 0, rfl, ?_⟩
    have := reads_sk (F := F) (E := E) (a := g) (n := n) (cap := cap) (xs := xs) 0 xs.length
    simpa using this
theorem Part.own_v (a : Option Nat) (cap : Nat) (xs : List Value) : Part.v ⟨a.map fun g => (g, 0), cap, xs⟩ = sv a xs.length cap := by
  cases a <;> rfl
theorem tree_both (A B : M.Node) (x y : NP) (mid : Nat) (hA : NB A) (hB : NB B) : CS 118 [nodeV A x, u64 mid, nodeV B y] (NodeH A x • NodeH B y)
    fun v H' => ∃ z, v = nodeV (M.nboth A mid B) z ∧ H' = NodeH (M.nboth A mid B) z := by
  have a1 := hA.keys
  have a2 := hA.vals
  have a3 := hA.kids
  have b1 := hB.keys
  have b2 := hB.vals
  have b3 := hB.kids
  obtain ⟨N', hN'⟩ : ∃ N', M.nboth A mid B = N' := ⟨_, rfl⟩
  rw [hN']
  have hvals : N'.vals = A.vals ++ B.vals := by rw [← hN']; rfl
  have hkids : N'.kids = A.kids ++ B.kids := by rw [← hN']; rfl
  have hleaf : N'.leaf = A.leaf := by rw [← hN']; rfl
  refine CS.walk Tryz.func118 rfl Tryz.ntmps118 rfl fun c R => ?_
  simp only [NodeH, NodeB, sep_assoc', emp_sep]
  (repeat (first | refine W.ctl rfl ?_ | refine W.op rfl rfl rfl rfl ?_ | refine W.skip rfl rfl ?_ | refine W.fld rfl rfl rfl rfl rfl ?_ | refine W.ld rfl rfl rfl rfl rfl ?_))
  refine W.box rfl rfl rfl rfl rfl fun na => ?_
  refine W.box rfl rfl rfl rfl rfl fun nb => ?_
  refine W.alc rfl rfl rfl rfl fun res => ?_
  refine W.skf x.va 9 (fun _ _ _ sa => ?_)
  refine W.skf y.va 9 (fun _ _ _ sb => ?_)
  refine W.skf x.da 3 (fun _ _ _ ia => ?_)
  refine W.skf y.da 3 (fun _ _ _ ib => ?_)
  refine W.skf x.ka 35 (fun _ _ _ ka => ?_)
  refine W.skf y.ka 35 (fun _ _ _ kb => ?_)
  (repeat (first | refine W.ctl rfl ?_ | refine W.op rfl rfl rfl rfl ?_ | refine W.skip rfl rfl ?_ | refine W.fld rfl rfl rfl rfl rfl ?_ | refine W.ld rfl rfl rfl rfl rfl ?_))
  refine W.join (σ := Nat × Option Nat × Nat × Option Nat × Nat) (fun _ => True) (fun p => [(1, u64 mid), (3, ptr na), (5, ptr nb), (6, ptr res), (7, ptr p.1)])
    (fun p => row p.1 114 [.bool A.leaf, .slice none 0 0, sv p.2.1 N'.vals.length p.2.2.1, sv p.2.2.2.1 N'.kids.length p.2.2.2.2] • slck 1 9 (sv p.2.1 N'.vals.length p.2.2.1) N'.vals.length (N'.vals.map str) • slck 1 3 (sv p.2.2.2.1 N'.kids.length p.2.2.2.2) N'.kids.length (N'.kids.map int) •
      boxN na A x • boxN nb B y • row res 114 [.bool false, .slice none 0 0, .slice none 0 0, .slice none 0 0] • slck 1 35 (sv x.ka A.keys.length x.kc) A.keys.length (A.keys.map u64) • slck 1 35 (sv y.ka B.keys.length y.kc) B.keys.length (B.keys.map u64) • R) ?_ ?_
  · refine W.anyh (f := 7) (fun _ => true) [0, 1, 2, 3, 4, 5, 8, 9, 10, 11] (by kernel_rfl) (by kernel_rfl) (by kernel_rfl) (by kernel_rfl) rfl (boxN na A x • boxN nb B y) Imp.all ?_
    (repeat (first | refine W.ctl rfl ?_ | refine W.op rfl rfl rfl rfl ?_ | refine W.skip rfl rfl ?_ | refine W.fld rfl rfl rfl rfl rfl ?_ | refine W.ld rfl rfl rfl rfl rfl ?_))
    refine W.tdn ?_
    refine W.parc (f := 2) [(1, u64 mid), (3, ptr na), (5, ptr nb), (6, ptr res), (9, .bool A.leaf), (11, sv x.va A.vals.length x.vc), (13, sv y.va B.vals.length y.vc), (17, sv x.da A.kids.length x.dc), (19, sv y.da B.kids.length y.dc)] ⟨rfl, rfl, rfl, rfl, rfl, rfl, rfl, rfl, rfl, trivial⟩ [6, 7] [12, 13] 15
      (slck 1 9 (sv x.va A.vals.length x.vc) A.vals.length (A.vals.map str) • slck 1 9 (sv y.va B.vals.length y.vc) B.vals.length (B.vals.map str))
      (slck 1 3 (sv x.da A.kids.length x.dc) A.kids.length (A.kids.map int) • slck 1 3 (sv y.da B.kids.length y.dc) B.kids.length (B.kids.map int)) emp
      ((boxN na A x • boxN nb B y) • row res 114 [.bool false, .slice none 0 0, .slice none 0 0, .slice none 0 0] • slck 1 35 (sv x.ka A.keys.length x.kc) A.keys.length (A.keys.map u64) • slck 1 35 (sv y.ka B.keys.length y.kc) B.keys.length (B.keys.map u64) • R)
      (EA := fun l h => ∃ a' c' g, l = [(15, sv a' N'.vals.length c'), (14, g)] ∧ h = slck 1 9 (sv a' N'.vals.length c') N'.vals.length (N'.vals.map str))
      (EB := fun l h => ∃ a' c' g, l = [(21, sv a' N'.kids.length c'), (20, g)] ∧ h = slck 1 3 (sv a' N'.kids.length c') N'.kids.length (N'.kids.map int))
      (EC := fun l h => ∃ g, l = [(7, ptr g)] ∧ h = row g 114 [.bool false, .slice none 0 0, .slice none 0 0, .slice none 0 0])
      (by rfl) (by kernel_rfl) (by kernel_rfl) (by simp only [emp_sep, sep_assoc']; exact Imp.all) Imp.all ?_ ?_ ?_ ?_ ?_
    · refine ⟨_, _, rfl, rfl, fun b J S f li lx F k => ?_⟩
      refine W.bsl (vs := [_, _]) rfl rfl rfl rfl ⟨rfl, rfl, rfl, rfl, trivial⟩ rfl rfl rfl fun g => ?_
      refine W.eq (sep_assoc' _ _ _).symm (k _ _ ?_)
      refine ⟨_, _, rfl, rfl, fun b J S f li lx F k => ?_⟩
      have hc := concat_str (slck 1 9 (sv x.va A.vals.length x.vc) A.vals.length (A.vals.map str) • slck 1 9 (sv y.va B.vals.length y.vc) B.vals.length (B.vals.map str)) g
        [⟨x.va.map fun g => (g, 0), x.vc, A.vals.map str⟩, ⟨y.va.map fun g => (g, 0), y.vc, B.vals.map str⟩]
        (fun p hp => by
          simp only [List.mem_cons, List.not_mem_nil, or_false] at hp
          rcases hp with rfl | rfl
          · exact ⟨Part.own x.va 9 A.vals.length _ _ (by simp) _ _ (fun h => by have := (sa h).1; simpa using List.eq_nil_of_length_eq_zero this), map_ones str (fun _ => rfl) _, by simp; omega⟩
          · exact ⟨Part.own y.va 9 B.vals.length _ _ (by simp) _ _ (fun h => by have := (sb h).1; simpa using List.eq_nil_of_length_eq_zero this), map_ones str (fun _ => rfl) _, by simp; omega⟩) (by simp)
      have hv : ([⟨x.va.map fun g => (g, 0), x.vc, A.vals.map str⟩, ⟨y.va.map fun g => (g, 0), y.vc, B.vals.map str⟩] : List Part).map Part.v = [sv x.va A.vals.length x.vc, sv y.va B.vals.length y.vc] := by
        simp only [List.map_cons, List.map_nil, Part.own_v, List.length_map]
      rw [hv] at hc
      simp only [List.map_cons, List.map_nil, List.flatten_cons, List.flatten_nil, List.append_nil] at hc
      rw [← List.map_append, ← hvals, List.length_map] at hc
      refine W.eq (sep_assoc' _ _ _) ?_
      simp only [sep_assoc']
      refine W.call hc rfl rfl rfl rfl Tryz.call152 ⟨rfl, trivial⟩ ?_
      rintro _ _ ⟨a', c', rfl, rfl⟩
      exact W.imp rfl (by simp only [sep_assoc']; exact Imp.all) (k _ _ ⟨a', c', _, rfl, rfl⟩)
    · refine ⟨_, _, rfl, rfl, fun b J S f li lx F k => ?_⟩
      refine W.bsl (vs := [_, _]) rfl rfl rfl rfl ⟨rfl, rfl, rfl, rfl, trivial⟩ rfl rfl rfl fun g => ?_
      refine W.eq (sep_assoc' _ _ _).symm (k _ _ ?_)
      refine ⟨_, _, rfl, rfl, fun b J S f li lx F k => ?_⟩
      have hc := concat_int (slck 1 3 (sv x.da A.kids.length x.dc) A.kids.length (A.kids.map int) • slck 1 3 (sv y.da B.kids.length y.dc) B.kids.length (B.kids.map int)) g
        [⟨x.da.map fun g => (g, 0), x.dc, A.kids.map int⟩, ⟨y.da.map fun g => (g, 0), y.dc, B.kids.map int⟩]
        (fun p hp => by
          simp only [List.mem_cons, List.not_mem_nil, or_false] at hp
          rcases hp with rfl | rfl
          · exact ⟨Part.own x.da 3 A.kids.length _ _ (by simp) _ _ (fun h => by have := (ia h).1; simpa using List.eq_nil_of_length_eq_zero this), map_ones int (fun _ => rfl) _, by simp; omega⟩
          · exact ⟨Part.own y.da 3 B.kids.length _ _ (by simp) _ _ (fun h => by have := (ib h).1; simpa using List.eq_nil_of_length_eq_zero this), map_ones int (fun _ => rfl) _, by simp; omega⟩) (by simp)
      have hv : ([⟨x.da.map fun g => (g, 0), x.dc, A.kids.map int⟩, ⟨y.da.map fun g => (g, 0), y.dc, B.kids.map int⟩] : List Part).map Part.v = [sv x.da A.kids.length x.dc, sv y.da B.kids.length y.dc] := by
        simp only [List.map_cons, List.map_nil, Part.own_v, List.length_map]
      rw [hv] at hc
      simp only [List.map_cons, List.map_nil, List.flatten_cons, List.flatten_nil, List.append_nil] at hc
      rw [← List.map_append, ← hkids, List.length_map] at hc
      refine W.eq (sep_assoc' _ _ _) ?_
      simp only [sep_assoc']
      refine W.call hc rfl rfl rfl rfl Tryz.call153 ⟨rfl, trivial⟩ ?_
      rintro _ _ ⟨a', c', rfl, rfl⟩
      exact W.imp rfl (by simp only [sep_assoc']; exact Imp.all) (k _ _ ⟨a', c', _, rfl, rfl⟩)
    · refine ⟨_, _, rfl, rfl, fun b J S f li lx F k => ?_⟩
      refine W.alc rfl rfl rfl rfl fun g => ?_
      rw [emp_sep]
      exact k _ _ ⟨g, rfl, rfl⟩
    · rintro _ _ _ _ _ _ ⟨a', c', g1, rfl, rfl⟩ ⟨b', d', g2, rfl, rfl⟩ ⟨g, rfl, rfl⟩
      simp only [sep_assoc']
      refine W.ald1 14 (by kernel_rfl) rfl ?_
      refine W.bld rfl rfl rfl rfl rfl ?_
      refine W.aft Imp.all ?_
      refine W.ald1 16 (by kernel_rfl) rfl ?_
      refine W.sts rfl rfl rfl rfl rfl rfl ?_
      refine W.aft Imp.all (W.adn (by kernel_rfl) ?_)
      exact W.meet (g, a', c', b', d') trivial ⟨rfl, rfl, rfl, rfl, rfl, trivial⟩ Imp.all
    · rintro _ _ _ _ ⟨a', c', g1, rfl, rfl⟩ ⟨b', d', g2, rfl, rfl⟩
      simp only [sep_assoc', emp_sep]
      refine W.ald2 14 15 (by kernel_rfl) rfl rfl ?_ ?_
      · refine W.bld rfl rfl rfl rfl rfl ?_
        refine W.aft Imp.all ?_
        refine W.ald1 15 (by kernel_rfl) rfl ?_
        refine W.alc rfl rfl rfl rfl fun g => ?_
        refine W.aft Imp.all ?_
        refine W.ald1 16 (by kernel_rfl) rfl ?_
        refine W.sts rfl rfl rfl rfl rfl rfl ?_
        refine W.aft Imp.all (W.adn (by kernel_rfl) ?_)
        exact W.meet (g, a', c', b', d') trivial ⟨rfl, rfl, rfl, rfl, rfl, trivial⟩ Imp.all
      · refine W.alc rfl rfl rfl rfl fun g => ?_
        refine W.aft Imp.all ?_
        refine W.ald1 14 (by kernel_rfl) rfl ?_
        refine W.bld rfl rfl rfl rfl rfl ?_
        refine W.aft Imp.all ?_
        refine W.ald1 16 (by kernel_rfl) rfl ?_
        refine W.sts rfl rfl rfl rfl rfl rfl ?_
        refine W.aft Imp.all (W.adn (by kernel_rfl) ?_)
        exact W.meet (g, a', c', b', d') trivial ⟨rfl, rfl, rfl, rfl, rfl, trivial⟩ Imp.all
  rintro ⟨g, a', c', b', d'⟩ -
  dsimp only
  (repeat (first | refine W.ctl rfl ?_ | refine W.op rfl rfl rfl rfl ?_ | refine W.skip rfl rfl ?_ | refine W.fld rfl rfl rfl rfl rfl ?_ | refine W.ld rfl rfl rfl rfl rfl ?_))
  refine W.join (σ := Option Nat × Nat) (fun _ => True) (fun _ => [(6, ptr res), (7, ptr g)])
    (fun p => boxN g N' ⟨p.1, p.2, a', c', b', d'⟩ • NodeB N' ⟨p.1, p.2, a', c', b', d'⟩ (row res 114 [.bool false, .slice none 0 0, .slice none 0 0, .slice none 0 0] • R)) ?_ ?_
  · cases hl : A.leaf with
    | true =>
      have hkeys : N'.keys = A.keys ++ B.keys := by rw [← hN', M.nboth, if_pos hl]
      rw [hl] at hleaf
      simp only [boxN, hl, hleaf]
      (repeat (first | refine W.ctl rfl ?_ | refine W.op rfl rfl rfl rfl ?_ | refine W.skip rfl rfl ?_ | refine W.fld rfl rfl rfl rfl rfl ?_ | refine W.ld rfl rfl rfl rfl rfl ?_))
      refine W.bsl (vs := [_, _]) rfl rfl rfl rfl ⟨rfl, rfl, rfl, rfl, trivial⟩ rfl rfl rfl fun g3 => ?_
      have hc := concat_u64 (slck 1 35 (sv x.ka A.keys.length x.kc) A.keys.length (A.keys.map u64) • slck 1 35 (sv y.ka B.keys.length y.kc) B.keys.length (B.keys.map u64)) g3
        [⟨x.ka.map fun g => (g, 0), x.kc, A.keys.map u64⟩, ⟨y.ka.map fun g => (g, 0), y.kc, B.keys.map u64⟩]
        (fun p hp => by
          simp only [List.mem_cons, List.not_mem_nil, or_false] at hp
          rcases hp with rfl | rfl
          · exact ⟨Part.own x.ka 35 A.keys.length _ _ (by simp) _ _ (fun h => by have := (ka h).1; simpa using List.eq_nil_of_length_eq_zero this), map_ones u64 (fun _ => rfl) _, by simp; omega⟩
          · exact ⟨Part.own y.ka 35 B.keys.length _ _ (by simp) _ _ (fun h => by have := (kb h).1; simpa using List.eq_nil_of_length_eq_zero this), map_ones u64 (fun _ => rfl) _, by simp; omega⟩) (by simp)
      have hv : ([⟨x.ka.map fun g => (g, 0), x.kc, A.keys.map u64⟩, ⟨y.ka.map fun g => (g, 0), y.kc, B.keys.map u64⟩] : List Part).map Part.v = [sv x.ka A.keys.length x.kc, sv y.ka B.keys.length y.kc] := by
        simp only [List.map_cons, List.map_nil, Part.own_v, List.length_map]
      rw [hv] at hc
      simp only [List.map_cons, List.map_nil, List.flatten_cons, List.flatten_nil, List.append_nil] at hc
      rw [← List.map_append, ← hkeys, List.length_map] at hc
      refine W.call hc rfl rfl rfl rfl Tryz.call151 ⟨rfl, trivial⟩ ?_
      rintro _ _ ⟨k', kc', rfl, rfl⟩
      simp only [sep_assoc']
      (repeat (first | refine W.ctl rfl ?_ | refine W.op rfl rfl rfl rfl ?_ | refine W.skip rfl rfl ?_ | refine W.fld rfl rfl rfl rfl rfl ?_ | refine W.ld rfl rfl rfl rfl rfl ?_))
      refine W.st rfl rfl rfl rfl rfl ?_
      (repeat (first | refine W.ctl rfl ?_ | refine W.op rfl rfl rfl rfl ?_ | refine W.skip rfl rfl ?_ | refine W.fld rfl rfl rfl rfl rfl ?_ | refine W.ld rfl rfl rfl rfl rfl ?_))
      refine W.meet (k', kc') trivial ⟨rfl, rfl, trivial⟩ ?_
      exact Imp.all
    | false =>
      have hkeys : N'.keys = A.keys ++ ([mid] ++ B.keys) := by rw [← hN', M.nboth, if_neg (by simp [hl])]; simp
      rw [hl] at hleaf
      simp only [boxN, hl, hleaf]
      (repeat (first | refine W.ctl rfl ?_ | refine W.op rfl rfl rfl rfl ?_ | refine W.skip rfl rfl ?_ | refine W.fld rfl rfl rfl rfl rfl ?_ | refine W.ld rfl rfl rfl rfl rfl ?_))
      refine W.bsl (vs := [_]) rfl rfl rfl rfl ⟨rfl, rfl, trivial⟩ rfl rfl rfl fun g4 => ?_
      (repeat (first | refine W.ctl rfl ?_ | refine W.op rfl rfl rfl rfl ?_ | refine W.skip rfl rfl ?_ | refine W.fld rfl rfl rfl rfl rfl ?_ | refine W.ld rfl rfl rfl rfl rfl ?_))
      refine W.bsl (vs := [_, _, _]) rfl rfl rfl rfl ⟨rfl, rfl, rfl, rfl, rfl, rfl, trivial⟩ rfl rfl rfl fun g3 => ?_
      have hc := concat_u64 (slck 1 35 (sv x.ka A.keys.length x.kc) A.keys.length (A.keys.map u64) • slck 1 35 (sv y.ka B.keys.length y.kc) B.keys.length (B.keys.map u64) • row g4 35 [u64 mid]) g3
        [⟨x.ka.map fun g => (g, 0), x.kc, A.keys.map u64⟩, ⟨some (g4, 0), 1, [mid].map u64⟩, ⟨y.ka.map fun g => (g, 0), y.kc, B.keys.map u64⟩]
        (fun p hp => by
          simp only [List.mem_cons, List.not_mem_nil, or_false] at hp
          rcases hp with rfl | rfl | rfl
          · exact ⟨Part.own x.ka 35 A.keys.length _ _ (by simp) _ _ (fun h => by have := (ka h).1; simpa using List.eq_nil_of_length_eq_zero this), map_ones u64 (fun _ => rfl) _, by simp; omega⟩
          · refine ⟨?_, map_ones u64 (fun _ => rfl) _, by simp⟩
            rcases Part.one g4 35 (u64 mid) with h | ⟨b, o, h1, h2⟩
            · cases h
            · exact .inr ⟨b, o, h1, fun c w hs => h2 c w (hs.imp Imp.all)⟩
          · exact ⟨Part.own y.ka 35 B.keys.length _ _ (by simp) _ _ (fun h => by have := (kb h).1; simpa using List.eq_nil_of_length_eq_zero this), map_ones u64 (fun _ => rfl) _, by simp; omega⟩) (by simp)
      have hv : ([⟨x.ka.map fun g => (g, 0), x.kc, A.keys.map u64⟩, ⟨some (g4, 0), 1, [mid].map u64⟩, ⟨y.ka.map fun g => (g, 0), y.kc, B.keys.map u64⟩] : List Part).map Part.v = [sv x.ka A.keys.length x.kc, .slice (some ⟨g4, 0, none⟩) 1 1, sv y.ka B.keys.length y.kc] := by
        simp only [List.map_cons, List.map_nil, Part.own_v, List.length_map]; rfl
      rw [hv] at hc
      have hkm : N'.keys.map u64 = A.keys.map u64 ++ ([mid].map u64 ++ B.keys.map u64) := by rw [hkeys, List.map_append, List.map_append]
      simp only [List.map_cons, List.map_nil, List.flatten_cons, List.flatten_nil, List.append_nil] at hc hkm
      rw [← hkm, List.length_map] at hc
      refine W.call hc rfl rfl rfl rfl Tryz.call151 ⟨rfl, trivial⟩ ?_
      rintro _ _ ⟨k', kc', rfl, rfl⟩
      simp only [sep_assoc']
      (repeat (first | refine W.ctl rfl ?_ | refine W.op rfl rfl rfl rfl ?_ | refine W.skip rfl rfl ?_ | refine W.fld rfl rfl rfl rfl rfl ?_ | refine W.ld rfl rfl rfl rfl rfl ?_))
      refine W.st rfl rfl rfl rfl rfl ?_
      (repeat (first | refine W.ctl rfl ?_ | refine W.op rfl rfl rfl rfl ?_ | refine W.skip rfl rfl ?_ | refine W.fld rfl rfl rfl rfl rfl ?_ | refine W.ld rfl rfl rfl rfl rfl ?_))
      refine W.meet (k', kc') trivial ⟨rfl, rfl, trivial⟩ ?_
      exact Imp.all
  rintro ⟨k', kc'⟩ -
  dsimp only
  (repeat (first | refine W.ctl rfl ?_ | refine W.op rfl rfl rfl rfl ?_ | refine W.skip rfl rfl ?_ | refine W.fld rfl rfl rfl rfl rfl ?_ | refine W.ld rfl rfl rfl rfl rfl ?_))
  refine W.lds rfl rfl rfl rfl rfl ?_
  refine W.sts rfl rfl rfl rfl rfl rfl ?_
  (repeat (first | refine W.ctl rfl ?_ | refine W.op rfl rfl rfl rfl ?_ | refine W.skip rfl rfl ?_ | refine W.fld rfl rfl rfl rfl rfl ?_ | refine W.ld rfl rfl rfl rfl rfl ?_))
  refine W.rets (.inr rfl) rfl (.cons (RV1.cells rfl) .nil) _ ⟨⟨k', kc', a', c', b', d'⟩, rfl, rfl⟩ ?_
  simp only [sep_assoc', emp_sep]
  exact Imp.all
end Go.Proofs.YtbdhhedfplkidaaGreat
