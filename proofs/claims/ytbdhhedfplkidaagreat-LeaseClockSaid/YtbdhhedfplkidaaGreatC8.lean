/- A node read off its text. -/
import Derived.Test.YtbdhhedfplkidaaGreatC7
import Derived.Test.YtbdhhedfplkidaaGreatC1
import Derived.Test.YtbdhhedfplkidaaGreatMod2
namespace Go.Proofs.YtbdhhedfplkidaaGreat
open Go
open M (Str Dec)
set_option maxHeartbeats 400000
set_option maxRecDepth 2000
/-- The node that is being read, and the reader. -/
abbrev DecH (nb rp : Nat) (leaf : Bool) (s : Dec) (x : NP) (R : HProp) : HProp :=
  row nb 114 [.bool leaf, sv x.ka s.keys.length x.kc, sv x.va s.vals.length x.vc, sv x.da s.kids.length x.dc] • slck 1 35 (sv x.ka s.keys.length x.kc) s.keys.length (s.keys.map u64) •
  slck 1 9 (sv x.va s.vals.length x.vc) s.vals.length (s.vals.map str) • slck 1 3 (sv x.da s.kids.length x.dc) s.kids.length (s.kids.map int) • ReaderP rp s.b s.bad • R
theorem take_fst_lt (b : Str) (n : Int) : (M.take b n).1 < 256 ^ n.toNat := by
  unfold M.take
  split
  · exact Nat.pow_pos (by omega)
  split
  · exact Nat.pow_pos (by omega)
  · have h := M.fromBe_lt (b.take n.toNat)
    rw [List.length_take, Nat.min_eq_left (by omega)] at h
    exact h
theorem node_Decode (s : Str) (hs : s.length ≤ 1024) : CS 123 [str s] emp fun v H' => ∃ x : NP, v = .tuple #[nodeV (M.decode s).1 x, int (M.decode s).2] ∧ H' = NodeH (M.decode s).1 x := by
  refine CS.walk Tryz.func123 rfl Tryz.ntmps123 rfl fun c R => ?_
  (repeat (first | refine W.ctl rfl ?_ | refine W.op rfl rfl rfl rfl ?_ | refine W.skip rfl rfl ?_ | refine W.fld rfl rfl rfl rfl rfl ?_ | refine W.ld rfl rfl rfl rfl rfl ?_))
  refine W.alc rfl rfl rfl rfl fun res => ?_
  (repeat (first | refine W.ctl rfl ?_ | refine W.op rfl rfl rfl rfl ?_ | refine W.skip rfl rfl ?_ | refine W.fld rfl rfl rfl rfl rfl ?_ | refine W.ld rfl rfl rfl rfl rfl ?_))
  refine W.bld rfl rfl rfl rfl rfl ?_
  refine W.box rfl rfl rfl rfl rfl fun rp => ?_
  (repeat (first | refine W.ctl rfl ?_ | refine W.op rfl rfl rfl rfl ?_ | refine W.skip rfl rfl ?_ | refine W.fld rfl rfl rfl rfl rfl ?_ | refine W.ld rfl rfl rfl rfl rfl ?_))
  refine W.call (reader_number rp s false 1 (by omega) (by omega) (by omega)) rfl rfl rfl rfl Tryz.call154 ⟨rfl, rfl, trivial⟩ ?_
  rintro _ _ ⟨rfl, rfl⟩
  rw [Bool.false_or]
  (repeat (first | refine W.ctl rfl ?_ | refine W.op rfl rfl rfl rfl ?_ | refine W.skip rfl rfl ?_ | refine W.fld rfl rfl rfl rfl rfl ?_ | refine W.ld rfl rfl rfl rfl rfl ?_))
  refine W.cmp rfl rfl rfl rfl ?_
  have e0 : decide (((M.take s 1).1 : Int) = 1) = decide ((M.take s 1).1 = 1) := by simp; omega
  rw [e0]
  obtain ⟨leaf, hleaf⟩ : ∃ leaf, decide ((M.take s 1).1 = 1) = leaf := ⟨_, rfl⟩
  obtain ⟨bad, hbad⟩ : ∃ bad, decide ((M.take s 1).2.2 ≠ 0) = bad := ⟨_, rfl⟩
  have hdec : M.decode s = if bad = true ∨ ((M.take s 1).1 ≠ 1 ∧ (M.take s 1).1 ≠ 2) then (M.Node.zero, 2) else
      let d := M.dloop leaf s.length (if leaf then ⟨[], [], [], (M.take s 1).2.1, bad⟩ else Dec.kid ⟨[], [], [], (M.take s 1).2.1, bad⟩)
      if d.bad = true ∨ M.right ⟨leaf, d.keys, d.vals, d.kids⟩ = false then (M.Node.zero, 2) else (⟨leaf, d.keys, d.vals, d.kids⟩, 0) := by
    rw [M.decode]; simp only [hleaf, hbad]
  rw [hleaf, hbad]
  refine W.bld rfl rfl rfl rfl rfl ?_
  refine W.alc rfl rfl rfl rfl fun nb => ?_
  refine W.sts rfl rfl rfl rfl rfl rfl ?_
  refine W.ctl rfl ?_
  refine W.ctl rfl ?_
  refine W.ctl rfl ?_
  refine W.ctl rfl ?_
  obtain ⟨err, herr⟩ : ∃ err, (bad || (!leaf && decide ((M.take s 1).1 ≠ 2))) = err := ⟨_, rfl⟩
  have hle : (M.take s 1).1 = 1 ↔ leaf = true := by rw [← hleaf]; simp
  refine W.join (σ := Unit) (fun _ => True) (fun _ => [(2, .pointer (some ⟨res, 0, none⟩)), (4, .pointer (some ⟨rp, 0, none⟩)), (6, .pointer (some ⟨nb, 0, none⟩)), (26, .bool err)])
    (fun _ => row res 114 [.bool false, .slice none 0 0, .slice none 0 0, .slice none 0 0] • DecH nb rp leaf ⟨[], [], [], (M.take s 1).2.1, bad⟩ ⟨none, 0, none, 0, none, 0⟩ R) ?_ fun _ _ => ?_
  · have hH : ∀ R : HProp, Imp (row nb 114 [.bool leaf, .slice none 0 0, .slice none 0 0, .slice none 0 0] • ReaderP rp (M.take s 1).2.1 bad • row res 114 [.bool false, .slice none 0 0, .slice none 0 0, .slice none 0 0] • emp • R)
        (row res 114 [.bool false, .slice none 0 0, .slice none 0 0, .slice none 0 0] • DecH nb rp leaf ⟨[], [], [], (M.take s 1).2.1, bad⟩ ⟨none, 0, none, 0, none, 0⟩ R) := fun R => by
      simp only [DecH, sv, Option.map_none, List.length_nil, List.map_nil, slck_nil, emp_sep]
      exact Imp.all
    cases hb : bad with
    | true =>
      simp only [hb, Bool.true_or] at herr hH ⊢
      (repeat (first | refine W.ctl rfl ?_ | refine W.op rfl rfl rfl rfl ?_ | refine W.skip rfl rfl ?_ | refine W.fld rfl rfl rfl rfl rfl ?_ | refine W.ld rfl rfl rfl rfl rfl ?_))
      subst herr
      exact W.meet () trivial ⟨rfl, rfl, rfl, rfl, trivial⟩ (hH _)
    | false =>
      simp only [hb, Bool.false_or] at herr hH ⊢
      (repeat (first | refine W.ctl rfl ?_ | refine W.op rfl rfl rfl rfl ?_ | refine W.skip rfl rfl ?_ | refine W.fld rfl rfl rfl rfl rfl ?_ | refine W.ld rfl rfl rfl rfl rfl ?_))
      by_cases h1 : ((M.take s 1).1 : Int) ≠ 1
      · have hl : leaf = false := by
          cases leaf with
          | false => rfl
          | true => have := hle.2 rfl; omega
        refine W.yes rfl rfl rfl rfl h1 ?_
        (repeat (first | refine W.ctl rfl ?_ | refine W.op rfl rfl rfl rfl ?_ | refine W.skip rfl rfl ?_ | refine W.fld rfl rfl rfl rfl rfl ?_ | refine W.ld rfl rfl rfl rfl rfl ?_))
        refine W.cmp rfl rfl rfl rfl ?_
        (repeat (first | refine W.ctl rfl ?_ | refine W.op rfl rfl rfl rfl ?_ | refine W.skip rfl rfl ?_ | refine W.fld rfl rfl rfl rfl rfl ?_ | refine W.ld rfl rfl rfl rfl rfl ?_))
        have e1 : decide (((M.take s 1).1 : Int) ≠ 2) = err := by rw [← herr, hl]; simp; omega
        rw [e1]
        exact W.meet () trivial ⟨rfl, rfl, rfl, rfl, trivial⟩ (hH _)
      · have hl : leaf = true := hle.1 (by omega)
        refine W.no rfl rfl rfl rfl h1 ?_
        (repeat (first | refine W.ctl rfl ?_ | refine W.op rfl rfl rfl rfl ?_ | refine W.skip rfl rfl ?_ | refine W.fld rfl rfl rfl rfl rfl ?_ | refine W.ld rfl rfl rfl rfl rfl ?_))
        have e1 : err = false := by rw [← herr, hl]; simp
        subst e1
        exact W.meet () trivial ⟨rfl, rfl, rfl, rfl, trivial⟩ (hH _)
  have herr' : (bad = true ∨ ((M.take s 1).1 ≠ 1 ∧ (M.take s 1).1 ≠ 2)) ↔ err = true := by rw [← herr]; cases hl : leaf <;> simp [hle, hl]
  cases err with
  | true =>
    (repeat (first | refine W.ctl rfl ?_ | refine W.op rfl rfl rfl rfl ?_ | refine W.skip rfl rfl ?_ | refine W.fld rfl rfl rfl rfl rfl ?_ | refine W.ld rfl rfl rfl rfl rfl ?_))
    refine W.bld rfl rfl rfl rfl rfl ?_
    refine W.sts rfl rfl rfl rfl rfl rfl ?_
    (repeat (first | refine W.ctl rfl ?_ | refine W.op rfl rfl rfl rfl ?_ | refine W.skip rfl rfl ?_ | refine W.fld rfl rfl rfl rfl rfl ?_ | refine W.ld rfl rfl rfl rfl rfl ?_))
    rw [hdec, if_pos (herr'.2 rfl)]
    refine W.rets (.inr rfl) rfl (.cons (RV1.cells rfl) (.cons (RV1.tmp rfl) .nil)) _ ⟨⟨none, 0, none, 0, none, 0⟩, rfl, rfl⟩ ?_
    simp only [NodeH, NodeB, M.Node.zero, sv, Option.map_none, List.length_nil, List.map_nil, slck_nil, emp_sep]
    exact Imp.all
  | false =>
    rw [if_neg (fun h => by have := herr'.1 h; cases this)] at hdec
    have hbf : bad = false := by cases bad with | false => rfl | true => simp at herr
    subst hbf
    (repeat (first | refine W.ctl rfl ?_ | refine W.op rfl rfl rfl rfl ?_ | refine W.skip rfl rfl ?_ | refine W.fld rfl rfl rfl rfl rfl ?_ | refine W.ld rfl rfl rfl rfl rfl ?_))
    refine W.join (σ := NP) (fun _ => True) (fun _ => [(2, .pointer (some ⟨res, 0, none⟩)), (4, .pointer (some ⟨rp, 0, none⟩)), (6, .pointer (some ⟨nb, 0, none⟩))])
      (fun x => row res 114 [.bool false, .slice none 0 0, .slice none 0 0, .slice none 0 0] • DecH nb rp leaf (if leaf then ⟨[], [], [], (M.take s 1).2.1, false⟩ else Dec.kid ⟨[], [], [], (M.take s 1).2.1, false⟩) x R) ?_ fun x _ => ?_
    · cases leaf with
      | true =>
        (repeat (first | refine W.ctl rfl ?_ | refine W.op rfl rfl rfl rfl ?_ | refine W.skip rfl rfl ?_ | refine W.fld rfl rfl rfl rfl rfl ?_ | refine W.ld rfl rfl rfl rfl rfl ?_))
        exact W.meet ⟨none, 0, none, 0, none, 0⟩ trivial ⟨rfl, rfl, rfl, trivial⟩ (by rw [if_pos rfl]; exact Imp.all)
      | false =>
        simp only [DecH, List.length_nil, List.map_nil]
        (repeat (first | refine W.ctl rfl ?_ | refine W.op rfl rfl rfl rfl ?_ | refine W.skip rfl rfl ?_ | refine W.fld rfl rfl rfl rfl rfl ?_ | refine W.ld rfl rfl rfl rfl rfl ?_))
        refine W.anyh (f := 6) (fun j => !Nat.beq j 8) [0, 1, 2] (by kernel_rfl) (by kernel_rfl) (by kernel_rfl) (by kernel_rfl) rfl (row nb 114 [.bool false, sv none 0 0, sv none 0 0, sv none 0 0]) Imp.all ?_
        (repeat (first | refine W.ctl rfl ?_ | refine W.op rfl rfl rfl rfl ?_ | refine W.skip rfl rfl ?_ | refine W.fld rfl rfl rfl rfl rfl ?_ | refine W.ld rfl rfl rfl rfl rfl ?_))
        refine W.tdn ?_
        refine W.ald1 3 (by kernel_rfl) rfl ?_
        refine W.call (reader_number rp (M.take s 1).2.1 false 2 (by have := M.take_len s 1; omega) (by omega) (by omega)) rfl rfl rfl rfl Tryz.call154 ⟨rfl, rfl, trivial⟩ ?_
        rintro _ _ ⟨rfl, rfl⟩
        rw [Bool.false_or]
        refine W.aft Imp.all ?_
        have ht := take_fst_lt (M.take s 1).2.1 2
        have ht' : (256 : Nat) ^ (2 : Int).toNat = 65536 := by decide
        rw [ht'] at ht
        refine W.ald1 4 (by kernel_rfl) rfl ?_
        refine W.cv rfl rfl rfl rfl rfl (wrap_i64 (by omega) (by omega)) ?_
        refine W.aft Imp.all ?_
        refine W.ald1 5 (by kernel_rfl) rfl ?_
        refine W.bsl (vs := [_]) rfl rfl rfl rfl ⟨rfl, rfl, trivial⟩ rfl rfl rfl fun g => ?_
        refine W.aft Imp.all ?_
        refine W.ald1 6 (by kernel_rfl) rfl ?_
        refine W.appk (a := none) (xs := []) (kk := 1) (n' := 0) (cap := 0) (news := [int (M.take (M.take s 1).2.1 2).1]) rfl rfl rfl rfl rfl rfl rfl rfl rfl (by omega) (by omega) fun a' c' => ?_
        refine W.aft Imp.all ?_
        refine W.ald1 7 (by kernel_rfl) rfl ?_
        refine W.fld rfl rfl rfl rfl rfl ?_
        refine W.aft Imp.all ?_
        refine W.ald1 8 (by kernel_rfl) rfl ?_
        refine W.st rfl rfl rfl rfl rfl ?_
        refine W.afb (W.adn (by kernel_rfl) ?_)
        (repeat (first | refine W.ctl rfl ?_ | refine W.op rfl rfl rfl rfl ?_ | refine W.skip rfl rfl ?_ | refine W.fld rfl rfl rfl rfl rfl ?_ | refine W.ld rfl rfl rfl rfl rfl ?_))
        refine W.meet ⟨none, 0, none, 0, a', c'⟩ trivial ⟨rfl, rfl, rfl, trivial⟩ ?_
        rw [if_neg (by simp)]
        simp only [DecH, Dec.kid, List.nil_append, List.length_nil, List.length_singleton, List.map_cons, List.map_nil, Bool.false_or]
        exact Imp.all
    obtain ⟨s0, hs0⟩ : ∃ s0, (if leaf then (⟨[], [], [], (M.take s 1).2.1, false⟩ : Dec) else Dec.kid ⟨[], [], [], (M.take s 1).2.1, false⟩) = s0 := ⟨_, rfl⟩
    rw [hs0] at hdec ⊢
    have hl1 := M.take_len s 1
    have hl2 := M.take_len (M.take s 1).2.1 2
    have ok0 : M.DecOk 1024 s0 ∧ s0.b.length ≤ s.length := by
      rw [← hs0]
      cases leaf with
      | true => exact ⟨⟨by simp; omega, by simp, by simp, by simp⟩, by simp; omega⟩
      | false => exact ⟨⟨by simp [Dec.kid]; omega, by simp [Dec.kid], by simp [Dec.kid], by simp [Dec.kid]⟩, by simp [Dec.kid]; omega⟩
    (repeat (first | refine W.ctl rfl ?_ | refine W.op rfl rfl rfl rfl ?_ | refine W.skip rfl rfl ?_ | refine W.fld rfl rfl rfl rfl rfl ?_ | refine W.ld rfl rfl rfl rfl rfl ?_))
    refine W.loop (σ := Dec × NP × Nat) (fun p => M.DecOk 1024 p.1 ∧ p.1.b.length ≤ p.2.2 ∧ M.dloop leaf s.length s0 = M.dloop leaf p.2.2 p.1) (fun _ => [(2, .pointer (some ⟨res, 0, none⟩)), (4, .pointer (some ⟨rp, 0, none⟩)), (6, .pointer (some ⟨nb, 0, none⟩))])
      (fun p => row res 114 [.bool false, .slice none 0 0, .slice none 0 0, .slice none 0 0] • DecH nb rp leaf p.1 p.2.1 R) (fun p => p.1.b.length) (s0, x, s.length) ⟨ok0.1, ok0.2, rfl⟩ ⟨rfl, rfl, rfl, trivial⟩ Imp.all ?_
    rintro ⟨t, y, k⟩ ⟨ht, hk, he⟩
    replace ht : M.DecOk 1024 t := ht
    replace hk : t.b.length ≤ k := hk
    replace he : M.dloop leaf s.length s0 = M.dloop leaf k t := he
    have o1 := ht.keys
    have o2 := ht.vals
    have o3 := ht.kids
    simp only [DecH]
    (repeat (first | refine W.ctl rfl ?_ | refine W.op rfl rfl rfl rfl ?_ | refine W.skip rfl rfl ?_ | refine W.fld rfl rfl rfl rfl rfl ?_ | refine W.ld rfl rfl rfl rfl rfl ?_))
    refine W.sne rfl rfl rfl rfl rfl rfl ?_
    by_cases hb : t.b ≠ []
    · rw [decide_eq_true hb]
      (repeat (first | refine W.ctl rfl ?_ | refine W.op rfl rfl rfl rfl ?_ | refine W.skip rfl rfl ?_ | refine W.fld rfl rfl rfl rfl rfl ?_ | refine W.ld rfl rfl rfl rfl rfl ?_))
      cases hbd : t.bad with
      | true =>
        (repeat (first | refine W.ctl rfl ?_ | refine W.op rfl rfl rfl rfl ?_ | refine W.skip rfl rfl ?_ | refine W.fld rfl rfl rfl rfl rfl ?_ | refine W.ld rfl rfl rfl rfl rfl ?_))
        have e1 : M.dloop leaf k t = t := by
          cases k with
          | zero => rfl
          | succ k => rw [M.dloop, if_neg (by simp [hbd])]
        rw [e1] at he
        rw [he] at hdec
        dsimp only at hdec
        rw [if_pos (.inl hbd)] at hdec
        refine W.bld rfl rfl rfl rfl rfl ?_
        refine W.sts rfl rfl rfl rfl rfl rfl ?_
        (repeat (first | refine W.ctl rfl ?_ | refine W.op rfl rfl rfl rfl ?_ | refine W.skip rfl rfl ?_ | refine W.fld rfl rfl rfl rfl rfl ?_ | refine W.ld rfl rfl rfl rfl rfl ?_))
        rw [hdec]
        refine W.rets (.inr rfl) rfl (.cons (RV1.cells rfl) (.cons (RV1.tmp rfl) .nil)) _ ⟨⟨none, 0, none, 0, none, 0⟩, rfl, rfl⟩ ?_
        simp only [NodeH, NodeB, M.Node.zero, sv, Option.map_none, List.length_nil, List.map_nil, slck_nil, emp_sep]
        exact Imp.all
      | false =>
        (repeat (first | refine W.ctl rfl ?_ | refine W.op rfl rfl rfl rfl ?_ | refine W.skip rfl rfl ?_ | refine W.fld rfl rfl rfl rfl rfl ?_ | refine W.ld rfl rfl rfl rfl rfl ?_))
        have hbl := List.length_pos_iff.2 hb
        obtain ⟨k, rfl⟩ : ∃ j, k = j + 1 := ⟨k - 1, by omega⟩
        have hst := M.dstep_ok (leaf := leaf) ht hb
        have e1 : M.dloop leaf (k + 1) t = M.dloop leaf k (M.dstep leaf t) := by rw [M.dloop, if_pos ⟨hb, hbd⟩]
        rw [e1] at he
        refine W.anyh (f := 5) (fun j => !Nat.beq j 7) [0, 1, 2] (by kernel_rfl) (by kernel_rfl) (by kernel_rfl) (by kernel_rfl) rfl (row nb 114 [.bool leaf, sv y.ka t.keys.length y.kc, sv y.va t.vals.length y.vc, sv y.da t.kids.length y.dc]) Imp.all ?_
        (repeat (first | refine W.ctl rfl ?_ | refine W.op rfl rfl rfl rfl ?_ | refine W.skip rfl rfl ?_ | refine W.fld rfl rfl rfl rfl rfl ?_ | refine W.ld rfl rfl rfl rfl rfl ?_))
        refine W.tdn ?_
        refine W.ald1 3 (by kernel_rfl) rfl ?_
        refine W.call (reader_number rp t.b false 8 (by omega) (by omega) (by omega)) rfl rfl rfl rfl Tryz.call154 ⟨rfl, rfl, trivial⟩ ?_
        rintro _ _ ⟨rfl, rfl⟩
        rw [Bool.false_or]
        refine W.aft Imp.all ?_
        refine W.ald1 4 (by kernel_rfl) rfl ?_
        refine W.bsl (vs := [_]) rfl rfl rfl rfl ⟨rfl, rfl, trivial⟩ rfl rfl rfl fun g => ?_
        refine W.aft Imp.all ?_
        refine W.ald1 5 (by kernel_rfl) rfl ?_
        refine W.appk (kk := 1) (news := [u64 (M.take t.b 8).1]) rfl rfl rfl rfl rfl rfl rfl rfl rfl (by omega) (by omega) fun ka' kc' => ?_
        refine W.aft Imp.all ?_
        refine W.ald1 6 (by kernel_rfl) rfl ?_
        refine W.fld rfl rfl rfl rfl rfl ?_
        refine W.aft Imp.all ?_
        refine W.ald1 7 (by kernel_rfl) rfl ?_
        refine W.st rfl rfl rfl rfl rfl ?_
        refine W.afb (W.adn (by kernel_rfl) ?_)
        (repeat (first | refine W.ctl rfl ?_ | refine W.op rfl rfl rfl rfl ?_ | refine W.skip rfl rfl ?_ | refine W.fld rfl rfl rfl rfl rfl ?_ | refine W.ld rfl rfl rfl rfl rfl ?_))
        cases leaf with
        | true =>
          (repeat (first | refine W.ctl rfl ?_ | refine W.op rfl rfl rfl rfl ?_ | refine W.skip rfl rfl ?_ | refine W.fld rfl rfl rfl rfl rfl ?_ | refine W.ld rfl rfl rfl rfl rfl ?_))
          refine W.anyh (f := 5) (fun j => !Nat.beq j 7) [0, 1, 2] (by kernel_rfl) (by kernel_rfl) (by kernel_rfl) (by kernel_rfl) rfl (row nb 114 [.bool true, sv ka' (t.keys.length + 1) kc', sv y.va t.vals.length y.vc, sv y.da t.kids.length y.dc]) Imp.all ?_
          (repeat (first | refine W.ctl rfl ?_ | refine W.op rfl rfl rfl rfl ?_ | refine W.skip rfl rfl ?_ | refine W.fld rfl rfl rfl rfl rfl ?_ | refine W.ld rfl rfl rfl rfl rfl ?_))
          refine W.tdn ?_
          refine W.ald1 3 (by kernel_rfl) rfl ?_
          have hl3 := M.take_len t.b 8
          refine W.call (reader_text rp (M.take t.b 8).2.1 (decide ((M.take t.b 8).2.2 ≠ 0)) (by omega)) rfl rfl rfl rfl Tryz.call155 ⟨rfl, trivial⟩ ?_
          rintro _ _ ⟨rfl, rfl⟩
          refine W.aft Imp.all ?_
          refine W.ald1 4 (by kernel_rfl) rfl ?_
          refine W.bsl (vs := [_]) rfl rfl rfl rfl ⟨rfl, rfl, trivial⟩ rfl rfl rfl fun g2 => ?_
          refine W.aft Imp.all ?_
          refine W.ald1 5 (by kernel_rfl) rfl ?_
          refine W.appk (kk := 1) (news := [str (M.takeText (M.take t.b 8).2.1).1]) rfl rfl rfl rfl rfl rfl rfl rfl rfl (by omega) (by omega) fun va' vc' => ?_
          refine W.aft Imp.all ?_
          refine W.ald1 6 (by kernel_rfl) rfl ?_
          refine W.fld rfl rfl rfl rfl rfl ?_
          refine W.aft Imp.all ?_
          refine W.ald1 7 (by kernel_rfl) rfl ?_
          refine W.st rfl rfl rfl rfl rfl ?_
          refine W.afb (W.adn (by kernel_rfl) ?_)
          (repeat (first | refine W.ctl rfl ?_ | refine W.op rfl rfl rfl rfl ?_ | refine W.skip rfl rfl ?_ | refine W.fld rfl rfl rfl rfl rfl ?_ | refine W.ld rfl rfl rfl rfl rfl ?_))
          refine W.again (M.dstep true t, ⟨ka', kc', va', vc', y.da, y.dc⟩, k) ⟨hst.1, by dsimp only; omega, he⟩ hst.2 ⟨rfl, rfl, rfl, trivial⟩ ?_
          simp only [DecH, M.dstep, Dec.key, Dec.val, if_true, hbd, Bool.false_or, List.length_append, List.length_singleton, List.map_append, List.map_cons, List.map_nil]
          exact Imp.all
        | false =>
          (repeat (first | refine W.ctl rfl ?_ | refine W.op rfl rfl rfl rfl ?_ | refine W.skip rfl rfl ?_ | refine W.fld rfl rfl rfl rfl rfl ?_ | refine W.ld rfl rfl rfl rfl rfl ?_))
          refine W.anyh (f := 6) (fun j => !Nat.beq j 8) [0, 1, 2] (by kernel_rfl) (by kernel_rfl) (by kernel_rfl) (by kernel_rfl) rfl (row nb 114 [.bool false, sv ka' (t.keys.length + 1) kc', sv y.va t.vals.length y.vc, sv y.da t.kids.length y.dc]) Imp.all ?_
          (repeat (first | refine W.ctl rfl ?_ | refine W.op rfl rfl rfl rfl ?_ | refine W.skip rfl rfl ?_ | refine W.fld rfl rfl rfl rfl rfl ?_ | refine W.ld rfl rfl rfl rfl rfl ?_))
          refine W.tdn ?_
          refine W.ald1 3 (by kernel_rfl) rfl ?_
          have hl3 := M.take_len t.b 8
          refine W.call (reader_number rp (M.take t.b 8).2.1 (decide ((M.take t.b 8).2.2 ≠ 0)) 2 (by omega) (by omega) (by omega)) rfl rfl rfl rfl Tryz.call154 ⟨rfl, rfl, trivial⟩ ?_
          rintro _ _ ⟨rfl, rfl⟩
          refine W.aft Imp.all ?_
          have hq := take_fst_lt (M.take t.b 8).2.1 2
          have hq' : (256 : Nat) ^ (2 : Int).toNat = 65536 := by decide
          rw [hq'] at hq
          refine W.ald1 4 (by kernel_rfl) rfl ?_
          refine W.cv rfl rfl rfl rfl rfl (wrap_i64 (by omega) (by omega)) ?_
          refine W.aft Imp.all ?_
          refine W.ald1 5 (by kernel_rfl) rfl ?_
          refine W.bsl (vs := [_]) rfl rfl rfl rfl ⟨rfl, rfl, trivial⟩ rfl rfl rfl fun g2 => ?_
          refine W.aft Imp.all ?_
          refine W.ald1 6 (by kernel_rfl) rfl ?_
          refine W.appk (kk := 1) (news := [int (M.take (M.take t.b 8).2.1 2).1]) rfl rfl rfl rfl rfl rfl rfl rfl rfl (by omega) (by omega) fun da' dc' => ?_
          refine W.aft Imp.all ?_
          refine W.ald1 7 (by kernel_rfl) rfl ?_
          refine W.fld rfl rfl rfl rfl rfl ?_
          refine W.aft Imp.all ?_
          refine W.ald1 8 (by kernel_rfl) rfl ?_
          refine W.st rfl rfl rfl rfl rfl ?_
          refine W.afb (W.adn (by kernel_rfl) ?_)
          (repeat (first | refine W.ctl rfl ?_ | refine W.op rfl rfl rfl rfl ?_ | refine W.skip rfl rfl ?_ | refine W.fld rfl rfl rfl rfl rfl ?_ | refine W.ld rfl rfl rfl rfl rfl ?_))
          refine W.again (M.dstep false t, ⟨ka', kc', y.va, y.vc, da', dc'⟩, k) ⟨hst.1, by dsimp only; omega, he⟩ hst.2 ⟨rfl, rfl, rfl, trivial⟩ ?_
          simp only [DecH, M.dstep, Dec.key, Dec.kid, Bool.false_eq_true, if_false, hbd, Bool.false_or, List.length_append, List.length_singleton, List.map_append, List.map_cons, List.map_nil]
          exact Imp.all
    · rw [decide_eq_false hb]
      have e1 : M.dloop leaf k t = t := by
        cases k with
        | zero => rfl
        | succ k => rw [M.dloop, if_neg (by simp at hb; simp [hb])]
      rw [e1] at he
      rw [he] at hdec
      dsimp only at hdec
      cases hbd : t.bad with
      | true =>
        rw [if_pos (.inl hbd)] at hdec
        (repeat (first | refine W.ctl rfl ?_ | refine W.op rfl rfl rfl rfl ?_ | refine W.skip rfl rfl ?_ | refine W.fld rfl rfl rfl rfl rfl ?_ | refine W.ld rfl rfl rfl rfl rfl ?_))
        refine W.bld rfl rfl rfl rfl rfl ?_
        refine W.sts rfl rfl rfl rfl rfl rfl ?_
        (repeat (first | refine W.ctl rfl ?_ | refine W.op rfl rfl rfl rfl ?_ | refine W.skip rfl rfl ?_ | refine W.fld rfl rfl rfl rfl rfl ?_ | refine W.ld rfl rfl rfl rfl rfl ?_))
        rw [hdec]
        refine W.rets (.inr rfl) rfl (.cons (RV1.cells rfl) (.cons (RV1.tmp rfl) .nil)) _ ⟨⟨none, 0, none, 0, none, 0⟩, rfl, rfl⟩ ?_
        simp only [NodeH, NodeB, M.Node.zero, sv, Option.map_none, List.length_nil, List.map_nil, slck_nil, emp_sep]
        exact Imp.all
      | false =>
        (repeat (first | refine W.ctl rfl ?_ | refine W.op rfl rfl rfl rfl ?_ | refine W.skip rfl rfl ?_ | refine W.fld rfl rfl rfl rfl rfl ?_ | refine W.ld rfl rfl rfl rfl rfl ?_))
        obtain ⟨N, hN⟩ : ∃ N : M.Node, ⟨leaf, t.keys, t.vals, t.kids⟩ = N := ⟨_, rfl⟩
        have hNB : NB N := by rw [← hN]; exact ⟨by dsimp only; omega, by dsimp only; omega, by dsimp only; omega, fun v hv => by have := ht.val v hv; omega⟩
        rw [hN] at hdec
        refine W.imp (H' := row res 114 [.bool false, .slice none 0 0, .slice none 0 0, .slice none 0 0] • row nb 114 [.bool N.leaf, sv y.ka N.keys.length y.kc, sv y.va N.vals.length y.vc, sv y.da N.kids.length y.dc] • NodeB N y R) rfl (by rw [← hN]; exact Imp.all) ?_
        refine W.lds rfl rfl rfl rfl rfl ?_
        (repeat (first | refine W.ctl rfl ?_ | refine W.op rfl rfl rfl rfl ?_ | refine W.skip rfl rfl ?_))
        refine W.call (node_Right N y hNB) rfl rfl rfl rfl Tryz.call156 ⟨rfl, trivial⟩ ?_
        rintro _ _ ⟨rfl, rfl⟩
        cases hr : M.right N with
        | true =>
          (repeat (first | refine W.ctl rfl ?_ | refine W.op rfl rfl rfl rfl ?_ | refine W.skip rfl rfl ?_ | refine W.fld rfl rfl rfl rfl rfl ?_ | refine W.ld rfl rfl rfl rfl rfl ?_))
          refine W.lds rfl rfl rfl rfl rfl ?_
          refine W.sts rfl rfl rfl rfl rfl rfl ?_
          (repeat (first | refine W.ctl rfl ?_ | refine W.op rfl rfl rfl rfl ?_ | refine W.skip rfl rfl ?_ | refine W.fld rfl rfl rfl rfl rfl ?_ | refine W.ld rfl rfl rfl rfl rfl ?_))
          rw [if_neg (by simp [hbd, hr])] at hdec
          rw [hdec]
          exact W.rets (.inr rfl) rfl (.cons (RV1.cells rfl) (.cons (RV1.tmp rfl) .nil)) _ ⟨y, rfl, rfl⟩ Imp.all
        | false =>
          (repeat (first | refine W.ctl rfl ?_ | refine W.op rfl rfl rfl rfl ?_ | refine W.skip rfl rfl ?_ | refine W.fld rfl rfl rfl rfl rfl ?_ | refine W.ld rfl rfl rfl rfl rfl ?_))
          rw [if_pos (.inr hr)] at hdec
          refine W.bld rfl rfl rfl rfl rfl ?_
          refine W.sts rfl rfl rfl rfl rfl rfl ?_
          (repeat (first | refine W.ctl rfl ?_ | refine W.op rfl rfl rfl rfl ?_ | refine W.skip rfl rfl ?_ | refine W.fld rfl rfl rfl rfl rfl ?_ | refine W.ld rfl rfl rfl rfl rfl ?_))
          rw [hdec]
          refine W.rets (.inr rfl) rfl (.cons (RV1.cells rfl) (.cons (RV1.tmp rfl) .nil)) _ ⟨⟨none, 0, none, 0, none, 0⟩, rfl, rfl⟩ ?_
          simp only [NodeH, NodeB, M.Node.zero, sv, Option.map_none, List.length_nil, List.map_nil, slck_nil, emp_sep]
          exact Imp.all
end Go.Proofs.YtbdhhedfplkidaaGreat
