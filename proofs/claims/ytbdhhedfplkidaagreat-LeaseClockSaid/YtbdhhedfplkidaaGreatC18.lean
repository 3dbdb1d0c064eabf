/- The way down to a key's leaf; a key's value. -/
import Derived.Test.YtbdhhedfplkidaaGreatC17
namespace Go.Proofs.YtbdhhedfplkidaaGreat
open Go
open M (Str Store Work Spot)
set_option maxHeartbeats 400000
set_option maxRecDepth 2000
theorem node_kb (X : Work) (at' deep : Int) : KB (X.node at' deep).2 := by
  have hz : KB M.Node.zero := fun k hk => by simp [M.Node.zero] at hk
  unfold Work.node
  dsimp only
  split
  · exact hz
  split
  · exact hz
  split
  · exact hz
  · exact decode_kb _
theorem node_read (X : Work) (at' deep : Int) : (X.node at' deep).1.read = X.read + 1 := by
  unfold Work.node
  dsimp only
  split
  · rw [(fail_s _ _).2]
  split
  · rw [(fail_s _ _).2]
  split
  · rw [(fail_s _ _).2, (fail_s _ _).2]
  · rw [(fail_s _ _).2]
theorem node_deep (X : Work) (at' deep : Int) (h : 10 < deep) : (X.node at' deep).1.e ≠ 0 := by
  have hf : ∀ (Y : Work) , (Y.fail 2).e ≠ 0 := fun Y => by
    unfold Work.fail
    split
    · simp
    · rename_i h; exact h
  unfold Work.node
  dsimp only
  split
  · exact hf _
  split
  · rename_i h; exact h
  split
  · exact hf _
  · rename_i h2; exact absurd (.inr (.inr h)) h2
theorem find_le (N : M.Node) (key : Nat) : (M.find N key).1 ≤ N.keys.length := by
  have h := place_le N.keys key
  unfold M.find
  split
  · exact h
  · dsimp only
    split
    · rename_i h2
      simp only [M.place, decide_eq_true_eq] at h2
      have := (List.getElem?_eq_some_iff.1 h2).1
      simp only [M.place]; omega
    · exact h
/-- What is known of a spot. -/
structure SpOk (s : Spot) : Prop where
  right : M.right s.n = true
  kb : KB s.n
  i : s.i ≤ s.n.keys.length
  a0 : -9223372036854775808 ≤ s.at'
  a1 : s.at' < 9223372036854775808
theorem work_way (wp sp dp : Nat) (X : Work) (root : Int) (key : Nat) (h0 : 0 ≤ X.read) (h1 : X.read < 900000) (r0 : -9223372036854775808 ≤ root) (r1 : root < 9223372036854775808) : CS 61 [ptr wp, int root, u64 key] (WkH wp sp dp X)
    fun v H' => ∃ kp l, (v = ptr kp ∧ l.map Sp.m = (M.way 11 X root 1 key []).2 ∧ l.length ≤ 11 ∧ ∀ s ∈ l, SpOk s.m) ∧ H' = (WkH wp sp dp (M.way 11 X root 1 key []).1 • Stk kp l • nodesH l) := by
  refine CS.walk Tryz.func61 rfl Tryz.ntmps61 rfl fun c R => ?_
  simp only [WkH, sep_assoc']
  (repeat (first | refine W.ctl rfl ?_ | refine W.op rfl rfl rfl rfl ?_ | refine W.skip rfl rfl ?_ | refine W.fld rfl rfl rfl rfl rfl ?_ | refine W.ld rfl rfl rfl rfl rfl ?_))
  refine W.bld rfl rfl rfl rfl rfl ?_
  refine W.box rfl rfl rfl rfl rfl fun kp => ?_
  (repeat (first | refine W.ctl rfl ?_ | refine W.op rfl rfl rfl rfl ?_ | refine W.skip rfl rfl ?_ | refine W.fld rfl rfl rfl rfl rfl ?_ | refine W.ld rfl rfl rfl rfl rfl ?_))
  refine W.imp (H' := WkR wp sp X • StoreP sp dp X.s • Stk kp [] • nodesH [] • R) rfl ?_ ?_
  · have e := Stk.mk (kp := kp) (l := []) (none, 0)
    simp only [StkB, List.length_nil, spotsC, skv_nil, sep_emp'] at e
    simp only [sv, Option.map_none] at e
    simp only [nodesH, emp_sep]
    exact Imp.trans (Imp.pack (K := WkR wp sp X • StoreP sp dp X.s • R) e Imp.all) Imp.all
  refine W.loop (σ := Nat × Work × Int × List Sp) (fun p => 1 ≤ p.1 ∧ p.1 ≤ 11 ∧ M.way p.1 p.2.1 p.2.2.1 (12 - p.1) key (p.2.2.2.map Sp.m) = M.way 11 X root 1 key [] ∧ 0 ≤ p.2.1.read ∧ p.2.1.read ≤ X.read + (11 - p.1) ∧ p.2.2.2.length + p.1 ≤ 11 ∧ (∀ s ∈ p.2.2.2, SpOk s.m) ∧ -9223372036854775808 ≤ p.2.2.1 ∧ p.2.2.1 < 9223372036854775808)
    (fun p => [(0, ptr wp), (2, u64 key), (7, ptr kp), (8, int p.2.2.1), (9, int (12 - p.1))]) (fun p => WkR wp sp p.2.1 • StoreP sp dp p.2.1.s • Stk kp p.2.2.2 • nodesH p.2.2.2 • R) (fun p => p.1) (11, X, root, []) ⟨by omega, by omega, rfl, h0, by dsimp only; omega, by simp, fun s hs => (by cases hs), r0, r1⟩ ⟨rfl, rfl, rfl, rfl, rfl, trivial⟩ Imp.all ?_
  rintro ⟨k, Y, at', l⟩ ⟨i1, i2, i3, i4, i5, i6, i7, i8, i9⟩
  dsimp only at i1 i2 i3 i4 i5 i6 i7 i8 i9 ⊢
  obtain ⟨k, rfl⟩ : ∃ j, k = j + 1 := ⟨k - 1, by omega⟩
  (repeat (first | refine W.ctl rfl ?_ | refine W.op rfl rfl rfl rfl ?_ | refine W.skip rfl rfl ?_ | refine W.fld rfl rfl rfl rfl rfl ?_ | refine W.ld rfl rfl rfl rfl rfl ?_))
  refine W.call (work_node wp sp dp Y at' (12 - (k + 1 : Nat)) i4 (by omega)) rfl rfl rfl rfl Tryz.call75 ⟨rfl, rfl, rfl, trivial⟩ ?_
  rintro _ _ ⟨x, rfl, rfl⟩
  obtain ⟨Z, hZ⟩ : ∃ Z, Y.node at' (12 - (k + 1 : Nat)) = Z := ⟨_, rfl⟩
  have z1 := node_kb Y at' (12 - (k + 1 : Nat))
  have z2 := node_read Y at' (12 - (k + 1 : Nat))
  have z3 := node_ok Y at' (12 - (k + 1 : Nat))
  have z4 := node_deep Y at' (12 - (k + 1 : Nat))
  rw [M.way] at i3
  rw [hZ] at z1 z2 z3 z4 i3 ⊢
  obtain ⟨Y', N⟩ := Z
  dsimp only at z1 z2 z3 z4 i3 ⊢
  simp only [NodeH, NodeB, sep_assoc', emp_sep]
  (repeat (first | refine W.ctl rfl ?_ | refine W.op rfl rfl rfl rfl ?_ | refine W.skip rfl rfl ?_ | refine W.fld rfl rfl rfl rfl rfl ?_ | refine W.ld rfl rfl rfl rfl rfl ?_))
  refine W.alc rfl rfl rfl rfl fun nb => ?_
  refine W.sts rfl rfl rfl rfl rfl rfl ?_
  (repeat (first | refine W.ctl rfl ?_ | refine W.op rfl rfl rfl rfl ?_ | refine W.skip rfl rfl ?_ | refine W.fld rfl rfl rfl rfl rfl ?_ | refine W.ld rfl rfl rfl rfl rfl ?_))
  by_cases he : Y'.e ≠ 0
  · refine W.yes rfl rfl rfl rfl he ?_
    (repeat (first | refine W.ctl rfl ?_ | refine W.op rfl rfl rfl rfl ?_ | refine W.skip rfl rfl ?_ | refine W.fld rfl rfl rfl rfl rfl ?_ | refine W.ld rfl rfl rfl rfl rfl ?_))
    rw [if_pos he] at i3
    refine W.ret1 (.inr rfl) rfl rfl _ ⟨kp, l, ⟨rfl, by rw [← i3], by omega, i7⟩, rfl⟩ ?_
    rw [← i3]
    simp only [sep_assoc']
    exact Imp.all
  refine W.no rfl rfl rfl rfl he ?_
  rw [if_neg he] at i3
  have hr := z3 (by simpa using he)
  have hNB := nb_right hr
  obtain ⟨q1, q2, q3, q4, q5, q6⟩ := right_bounds hr
  have hk0 : 0 < k := by
    rcases Nat.eq_zero_or_pos k with h | h
    · subst h; exact absurd (z4 (by omega)) he
    · exact h
  have hfl := find_le N key
  (repeat (first | refine W.ctl rfl ?_ | refine W.op rfl rfl rfl rfl ?_ | refine W.skip rfl rfl ?_ | refine W.fld rfl rfl rfl rfl rfl ?_ | refine W.ld rfl rfl rfl rfl rfl ?_))
  refine W.lds rfl rfl rfl rfl rfl ?_
  (repeat (first | refine W.ctl rfl ?_ | refine W.op rfl rfl rfl rfl ?_ | refine W.skip rfl rfl ?_))
  refine W.call (node_Find N x key hNB) rfl rfl rfl rfl Tryz.call79 ⟨rfl, rfl, trivial⟩ ?_
  rintro _ _ ⟨rfl, rfl⟩
  simp only [NodeH, NodeB, sep_assoc', emp_sep]
  (repeat (first | refine W.ctl rfl ?_ | refine W.op rfl rfl rfl rfl ?_ | refine W.skip rfl rfl ?_ | refine W.fld rfl rfl rfl rfl rfl ?_ | refine W.ld rfl rfl rfl rfl rfl ?_))
  refine W.keep [(0, ptr wp), (2, u64 key), (7, ptr kp), (9, int (12 - (k + 1 : Nat))), (10, ptr nb), (11, int (M.find N key).1), (34, ptr kp), (35, int at')] ⟨rfl, rfl, rfl, rfl, rfl, rfl, rfl, rfl, trivial⟩ ?_
  refine W.lds rfl rfl rfl rfl rfl ?_
  (repeat (first | refine W.ctl rfl ?_ | refine W.op rfl rfl rfl rfl ?_ | refine W.skip rfl rfl ?_))
  refine W.bld rfl rfl rfl rfl rfl ?_
  refine W.call (stack_push kp l ⟨⟨at', N, (M.find N key).1⟩, x⟩ (by omega)) rfl rfl rfl rfl Tryz.call111 ⟨rfl, rfl, trivial⟩ ?_
  rintro _ _ ⟨rfl, rfl⟩
  have hsp : ∀ s ∈ l ++ [(⟨⟨at', N, (M.find N key).1⟩, x⟩ : Sp)], SpOk s.m := by
    intro s hs
    rcases List.mem_append.1 hs with hs | hs
    · exact i7 s hs
    · simp at hs; subst hs; exact ⟨hr, z1, hfl, i8, i9⟩
  have hmap : (l ++ [(⟨⟨at', N, (M.find N key).1⟩, x⟩ : Sp)]).map Sp.m = l.map Sp.m ++ [⟨at', N, (M.find N key).1⟩] := by simp
  have hnod : nodesH (l ++ [(⟨⟨at', N, (M.find N key).1⟩, x⟩ : Sp)]) = (nodesH l • NodeH N x) := nodesH_snoc l _
  cases hl : N.leaf with
  | true =>
    rw [if_pos hl] at i3
    (repeat (first | refine W.ctl rfl ?_ | refine W.op rfl rfl rfl rfl ?_ | refine W.skip rfl rfl ?_ | refine W.fld rfl rfl rfl rfl rfl ?_ | refine W.ld rfl rfl rfl rfl rfl ?_))
    refine W.ret1 (.inr rfl) rfl rfl _ ⟨kp, _, ⟨rfl, by rw [hmap, ← i3], by simp; omega, hsp⟩, rfl⟩ ?_
    rw [← i3, hnod]
    simp only [NodeH, NodeB, sep_assoc', emp_sep]
    exact Imp.all
  | false =>
    rw [if_neg (by simp [hl])] at i3
    rw [hl, if_neg (by simp)] at q3
    have hki : (M.find N key).1 < N.kids.length := by omega
    have hkd := q5 _ (List.getElem_mem hki)
    (repeat (first | refine W.ctl rfl ?_ | refine W.op rfl rfl rfl rfl ?_ | refine W.skip rfl rfl ?_ | refine W.fld rfl rfl rfl rfl rfl ?_ | refine W.ld rfl rfl rfl rfl rfl ?_))
    refine W.idxk rfl rfl rfl rfl rfl rfl (by omega) (by omega) ?_
    refine W.ldk (v := int (N.kids[(M.find N key).1])) rfl rfl rfl rfl rfl (by simp [hki]) ?_
    (repeat (first | refine W.ctl rfl ?_ | refine W.op rfl rfl rfl rfl ?_ | refine W.skip rfl rfl ?_ | refine W.fld rfl rfl rfl rfl rfl ?_ | refine W.ld rfl rfl rfl rfl rfl ?_))
    refine W.ar (r := (12 - (k : Int))) rfl rfl rfl rfl rfl rfl (congrArg some (by omega)) (wrap_i64 (by omega) (by omega)) ?_
    (repeat (first | refine W.ctl rfl ?_ | refine W.op rfl rfl rfl rfl ?_ | refine W.skip rfl rfl ?_ | refine W.fld rfl rfl rfl rfl rfl ?_ | refine W.ld rfl rfl rfl rfl rfl ?_))
    refine W.again (k, Y', N.kids[(M.find N key).1], l ++ [⟨⟨at', N, (M.find N key).1⟩, x⟩]) ⟨by dsimp only; omega, by dsimp only; omega, ?_, by dsimp only; omega, by dsimp only; omega, by simp; omega, hsp, by dsimp only; omega, by dsimp only; omega⟩ (by dsimp only; omega) ⟨rfl, rfl, rfl, rfl, rfl, trivial⟩ ?_
    · dsimp only
      rw [hmap, ← i3]
      rw [show N.kids.getD (M.find N key).1 0 = N.kids[(M.find N key).1] by simp [List.getD_eq_getElem?_getD, hki]]
      congr 1
      omega
    · dsimp only
      rw [hnod]
      simp only [NodeH, NodeB, sep_assoc', emp_sep]
      exact Imp.all
theorem way_last : ∀ (f : Nat) (X : Work) (at' deep : Int) (key : Nat) (p : List Spot), deep + f = 12 → 1 ≤ f → (M.way f X at' deep key p).1.e = 0 → ∃ q s, (M.way f X at' deep key p).2 = q ++ [s] ∧ s.n.leaf = true ∧ s.i = (M.find s.n key).1
  | 0, _, _, _, _, _, _, hf, _ => by omega
  | f + 1, X, at', deep, key, p, hd, _, h => by
    rw [M.way] at h ⊢
    dsimp only at h ⊢
    by_cases he : (X.node at' deep).1.e ≠ 0
    · rw [if_pos he] at h; exact absurd h he
    · rw [if_neg he] at h ⊢
      by_cases hl : (X.node at' deep).2.leaf = true
      · rw [if_pos hl]
        exact ⟨p, _, rfl, hl, rfl⟩
      · rw [if_neg hl] at h ⊢
        rcases Nat.eq_zero_or_pos f with h0 | h0
        · subst h0
          exact absurd (node_deep X at' deep (by omega)) he
        · exact way_last f _ _ _ key _ (by omega) h0 h
theorem find_there {N : M.Node} {key : Nat} (hl : N.leaf = true) (h : (M.find N key).2 = true) : (M.find N key).1 < N.keys.length := by
  rw [M.find, if_pos hl] at h ⊢
  simp only [M.place, decide_eq_true_eq] at h ⊢
  exact (List.getElem?_eq_some_iff.1 h).1
theorem tree_Get (sp dp : Nat) (S : Store) (root : Int) (key : Nat) (r0 : -9223372036854775808 ≤ root) (r1 : root < 9223372036854775808) : CS 27 [ptr sp, int root, u64 key] (StoreP sp dp S)
    fun v H' => v = .tuple #[str (M.treeGet S root key).2.1, .bool (M.treeGet S root key).2.2.1, int (M.treeGet S root key).2.2.2] ∧ H' = StoreP sp dp (M.treeGet S root key).1 := by
  refine CS.walk Tryz.func27 rfl Tryz.ntmps27 rfl fun c R => ?_
  (repeat (first | refine W.ctl rfl ?_ | refine W.op rfl rfl rfl rfl ?_ | refine W.skip rfl rfl ?_ | refine W.fld rfl rfl rfl rfl rfl ?_ | refine W.ld rfl rfl rfl rfl rfl ?_))
  by_cases h : root = 0
  · refine W.yes rfl rfl rfl rfl h ?_
    (repeat (first | refine W.ctl rfl ?_ | refine W.op rfl rfl rfl rfl ?_ | refine W.skip rfl rfl ?_ | refine W.fld rfl rfl rfl rfl rfl ?_ | refine W.ld rfl rfl rfl rfl rfl ?_))
    have e : M.treeGet S root key = (S, [], false, 0) := by rw [M.treeGet, if_pos h]
    rw [e]
    exact W.ret3 (.inr rfl) rfl rfl rfl rfl _ ⟨rfl, rfl⟩ Imp.all
  refine W.no rfl rfl rfl rfl h ?_
  (repeat (first | refine W.ctl rfl ?_ | refine W.op rfl rfl rfl rfl ?_ | refine W.skip rfl rfl ?_ | refine W.fld rfl rfl rfl rfl rfl ?_ | refine W.ld rfl rfl rfl rfl rfl ?_))
  refine W.bld rfl rfl rfl rfl rfl ?_
  refine W.box rfl rfl rfl rfl rfl fun wp => ?_
  (repeat (first | refine W.ctl rfl ?_ | refine W.op rfl rfl rfl rfl ?_ | refine W.skip rfl rfl ?_ | refine W.fld rfl rfl rfl rfl rfl ?_ | refine W.ld rfl rfl rfl rfl rfl ?_))
  refine W.call (work_way wp sp dp ⟨S, 0, 0⟩ root key (by dsimp only; omega) (by dsimp only; omega) r0 r1) rfl rfl rfl rfl Tryz.call61 ⟨rfl, rfl, rfl, trivial⟩ ?_
  rintro _ _ ⟨kp, l, ⟨rfl, hl, hlen, hok⟩, rfl⟩
  obtain ⟨Z, hZ⟩ : ∃ Z, M.way 11 ⟨S, 0, 0⟩ root 1 key [] = Z := ⟨_, rfl⟩
  have wl := way_last 11 ⟨S, 0, 0⟩ root 1 key [] (by omega) (by omega)
  have e0 : M.treeGet S root key = if Z.1.e ≠ 0 then (Z.1.s, [], false, Z.1.e) else match Z.2.getLast? with
      | none => (Z.1.s, [], false, 0)
      | some sp => if (M.find sp.n key).2 then (Z.1.s, sp.n.vals.getD (M.find sp.n key).1 [], true, 0) else (Z.1.s, [], false, 0) := by rw [M.treeGet, if_neg h, hZ]; rfl
  rw [hZ] at wl hl ⊢
  obtain ⟨Y, p⟩ := Z
  dsimp only at wl hl e0 ⊢
  simp only [sep_assoc']
  by_cases he : Y.e ≠ 0
  · rw [if_pos he] at e0
    rcases List.eq_nil_or_concat l with rfl | ⟨q, s, rfl⟩
    · refine W.call (stack_pop0 kp) rfl rfl rfl rfl Tryz.call62 ⟨rfl, trivial⟩ ?_
      rintro _ _ ⟨rfl, rfl⟩
      (repeat (first | refine W.ctl rfl ?_ | refine W.op rfl rfl rfl rfl ?_ | refine W.skip rfl rfl ?_ | refine W.fld rfl rfl rfl rfl rfl ?_ | refine W.ld rfl rfl rfl rfl rfl ?_))
      refine W.alc rfl rfl rfl rfl fun b => ?_
      refine W.sts rfl rfl rfl rfl rfl rfl ?_
      (repeat (first | refine W.ctl rfl ?_ | refine W.op rfl rfl rfl rfl ?_ | refine W.skip rfl rfl ?_ | refine W.fld rfl rfl rfl rfl rfl ?_ | refine W.ld rfl rfl rfl rfl rfl ?_))
      refine W.yes rfl rfl rfl rfl he ?_
      (repeat (first | refine W.ctl rfl ?_ | refine W.op rfl rfl rfl rfl ?_ | refine W.skip rfl rfl ?_ | refine W.fld rfl rfl rfl rfl rfl ?_ | refine W.ld rfl rfl rfl rfl rfl ?_))
      refine W.draw (by kernel_rfl) (by kernel_rfl) ?_
      (repeat (first | refine W.ctl rfl ?_ | refine W.op rfl rfl rfl rfl ?_ | refine W.skip rfl rfl ?_ | refine W.fld rfl rfl rfl rfl rfl ?_ | refine W.ld rfl rfl rfl rfl rfl ?_))
      rw [e0]
      exact W.ret3 (.inr rfl) rfl rfl rfl rfl _ ⟨rfl, rfl⟩ Imp.all
    · simp only [List.concat_eq_append] at hlen ⊢
      refine W.call (stack_pop kp q s (by simp at hlen; omega)) rfl rfl rfl rfl Tryz.call62 ⟨rfl, trivial⟩ ?_
      rintro _ _ ⟨rfl, rfl⟩
      (repeat (first | refine W.ctl rfl ?_ | refine W.op rfl rfl rfl rfl ?_ | refine W.skip rfl rfl ?_ | refine W.fld rfl rfl rfl rfl rfl ?_ | refine W.ld rfl rfl rfl rfl rfl ?_))
      refine W.alc rfl rfl rfl rfl fun b => ?_
      refine W.sts rfl rfl rfl rfl rfl rfl ?_
      (repeat (first | refine W.ctl rfl ?_ | refine W.op rfl rfl rfl rfl ?_ | refine W.skip rfl rfl ?_ | refine W.fld rfl rfl rfl rfl rfl ?_ | refine W.ld rfl rfl rfl rfl rfl ?_))
      refine W.yes rfl rfl rfl rfl he ?_
      (repeat (first | refine W.ctl rfl ?_ | refine W.op rfl rfl rfl rfl ?_ | refine W.skip rfl rfl ?_ | refine W.fld rfl rfl rfl rfl rfl ?_ | refine W.ld rfl rfl rfl rfl rfl ?_))
      refine W.draw (by kernel_rfl) (by kernel_rfl) ?_
      (repeat (first | refine W.ctl rfl ?_ | refine W.op rfl rfl rfl rfl ?_ | refine W.skip rfl rfl ?_ | refine W.fld rfl rfl rfl rfl rfl ?_ | refine W.ld rfl rfl rfl rfl rfl ?_))
      rw [e0]
      exact W.ret3 (.inr rfl) rfl rfl rfl rfl _ ⟨rfl, rfl⟩ Imp.all
  rw [if_neg he] at e0
  obtain ⟨q', s', w1, w2, w3⟩ := wl (by simpa using he)
  rw [w1, List.getLast?_concat] at e0
  dsimp only at e0
  rcases List.eq_nil_or_concat l with rfl | ⟨q, s, rfl⟩
  · rw [w1] at hl; simp at hl
  simp only [List.concat_eq_append] at hlen hl hok ⊢
  rw [w1, List.map_append, List.map_cons, List.map_nil] at hl
  have hs : s.m = s' := by have := List.append_inj_right' hl rfl; simpa using this
  subst hs
  have so := hok s (by simp)
  refine W.call (stack_pop kp q s (by simp at hlen; omega)) rfl rfl rfl rfl Tryz.call62 ⟨rfl, trivial⟩ ?_
  rintro _ _ ⟨rfl, rfl⟩
  rw [nodesH_snoc]
  simp only [NodeH, NodeB, sep_assoc', emp_sep]
  (repeat (first | refine W.ctl rfl ?_ | refine W.op rfl rfl rfl rfl ?_ | refine W.skip rfl rfl ?_ | refine W.fld rfl rfl rfl rfl rfl ?_ | refine W.ld rfl rfl rfl rfl rfl ?_))
  refine W.alc rfl rfl rfl rfl fun b => ?_
  refine W.sts rfl rfl rfl rfl rfl rfl ?_
  (repeat (first | refine W.ctl rfl ?_ | refine W.op rfl rfl rfl rfl ?_ | refine W.skip rfl rfl ?_ | refine W.fld rfl rfl rfl rfl rfl ?_ | refine W.ld rfl rfl rfl rfl rfl ?_))
  refine W.no rfl rfl rfl rfl he ?_
  (repeat (first | refine W.ctl rfl ?_ | refine W.op rfl rfl rfl rfl ?_ | refine W.skip rfl rfl ?_ | refine W.fld rfl rfl rfl rfl rfl ?_ | refine W.ld rfl rfl rfl rfl rfl ?_))
  refine W.lds rfl rfl rfl rfl rfl ?_
  (repeat (first | refine W.ctl rfl ?_ | refine W.op rfl rfl rfl rfl ?_ | refine W.skip rfl rfl ?_))
  refine W.call (node_Find s.m.n s.y key (nb_right so.right)) rfl rfl rfl rfl Tryz.call79 ⟨rfl, rfl, trivial⟩ ?_
  rintro _ _ ⟨rfl, rfl⟩
  simp only [NodeH, NodeB, sep_assoc', emp_sep]
  (repeat (first | refine W.ctl rfl ?_ | refine W.op rfl rfl rfl rfl ?_ | refine W.skip rfl rfl ?_ | refine W.fld rfl rfl rfl rfl rfl ?_ | refine W.ld rfl rfl rfl rfl rfl ?_))
  refine W.case 43 rfl (fun hb => ?_) (fun hb => ?_)
  · rw [if_pos hb] at e0
    have hi := find_there w2 hb
    obtain ⟨q1, q2, _⟩ := right_bounds so.right
    rw [w2, if_pos rfl] at q2
    have hiv : (M.find s.m.n key).1 < s.m.n.vals.length := by omega
    (repeat (first | refine W.ctl rfl ?_ | refine W.op rfl rfl rfl rfl ?_ | refine W.skip rfl rfl ?_ | refine W.fld rfl rfl rfl rfl rfl ?_ | refine W.ld rfl rfl rfl rfl rfl ?_))
    refine W.idxk rfl rfl rfl rfl rfl rfl (by omega) (by omega) ?_
    refine W.ldk (v := str (s.m.n.vals[(M.find s.m.n key).1])) rfl rfl rfl rfl rfl (by simp [hiv]) ?_
    (repeat (first | refine W.ctl rfl ?_ | refine W.op rfl rfl rfl rfl ?_ | refine W.skip rfl rfl ?_ | refine W.fld rfl rfl rfl rfl rfl ?_ | refine W.ld rfl rfl rfl rfl rfl ?_))
    rw [e0, show s.m.n.vals.getD (M.find s.m.n key).1 [] = s.m.n.vals[(M.find s.m.n key).1] by simp [List.getD_eq_getElem?_getD, hiv]]
    exact W.ret3 (.inr rfl) rfl rfl rfl rfl _ ⟨rfl, rfl⟩ Imp.all
  · rw [if_neg (by simp [hb])] at e0
    (repeat (first | refine W.ctl rfl ?_ | refine W.op rfl rfl rfl rfl ?_ | refine W.skip rfl rfl ?_ | refine W.fld rfl rfl rfl rfl rfl ?_ | refine W.ld rfl rfl rfl rfl rfl ?_))
    rw [e0]
    exact W.ret3 (.inr rfl) rfl rfl rfl rfl _ ⟨rfl, rfl⟩ Imp.all
end Go.Proofs.YtbdhhedfplkidaaGreat
