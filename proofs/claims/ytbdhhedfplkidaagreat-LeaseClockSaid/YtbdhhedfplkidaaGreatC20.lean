/- A key with a value is put: the walk. -/
import Derived.Test.YtbdhhedfplkidaaGreatC19
namespace Go.Proofs.YtbdhhedfplkidaaGreat
open Go
open M (Str Store Work Spot)
set_option maxHeartbeats 4000000
set_option maxRecDepth 2000
abbrev PutI (wp kp xb nb sp dp : Nat) (R : HProp) (p : Work × List Sp × Sp × M.Node × NP) : HProp :=
  row xb 118 p.2.2.1.cells • boxN nb p.2.2.2.1 p.2.2.2.2 • NodeB p.2.2.2.1 p.2.2.2.2 (WkR wp sp p.1 • StoreP sp dp p.1.s • Stk kp p.2.1 • nodesH p.2.1 • R)
theorem tree_Put (sp dp : Nat) (S : Store) (root : Int) (key : Nat) (value : Str) (r0 : -9223372036854775808 ≤ root) (r1 : root < 9223372036854775808) (hkey : key < 18446744073709551616) (hval : value.length < 9223372036854775808) : CS 21 [ptr sp, int root, u64 key, str value] (StoreP sp dp S)
    fun v H' => v = .tuple #[int (M.treePut S root key value).2.1, int (M.treePut S root key value).2.2] ∧ H' = StoreP sp dp (M.treePut S root key value).1 := by
  refine CS.walk Tryz.func21 rfl Tryz.ntmps21 rfl fun c R => ?_
  (repeat (first | refine W.ctl rfl ?_ | refine W.op rfl rfl rfl rfl ?_ | refine W.skip rfl rfl ?_ | refine W.fld rfl rfl rfl rfl rfl ?_ | refine W.ld rfl rfl rfl rfl rfl ?_))
  refine W.slen rfl rfl rfl rfl rfl ?_
  by_cases hv : (40 : Int) < value.length
  · refine W.yes rfl rfl rfl rfl hv ?_
    (repeat (first | refine W.ctl rfl ?_ | refine W.op rfl rfl rfl rfl ?_ | refine W.skip rfl rfl ?_ | refine W.fld rfl rfl rfl rfl rfl ?_ | refine W.ld rfl rfl rfl rfl rfl ?_))
    have e : M.treePut S root key value = (S, 0, 1) := by rw [M.treePut, if_pos (by omega)]
    rw [e]
    exact W.ret2 (.inr rfl) rfl rfl rfl _ ⟨rfl, rfl⟩ Imp.all
  refine W.no rfl rfl rfl rfl hv ?_
  have e0 : M.treePut S root key value = if root = 0 then (((⟨S, 0, 0⟩ : Work).fresh ⟨true, [key], [value], []⟩).1.s, M.doneE ((⟨S, 0, 0⟩ : Work).fresh ⟨true, [key], [value], []⟩).1 ((⟨S, 0, 0⟩ : Work).fresh ⟨true, [key], [value], []⟩).2) else
      if (M.way 11 ⟨S, 0, 0⟩ root 1 key []).1.e ≠ 0 then ((M.way 11 ⟨S, 0, 0⟩ root 1 key []).1.s, 0, (M.way 11 ⟨S, 0, 0⟩ root 1 key []).1.e) else
      match (M.way 11 ⟨S, 0, 0⟩ root 1 key []).2.reverse with
      | [] => ((M.way 11 ⟨S, 0, 0⟩ root 1 key []).1.s, 0, 2)
      | x :: above => ((M.putUp above (M.way 11 ⟨S, 0, 0⟩ root 1 key []).1 x.at' (M.nput x.n key value)).1.s, M.doneE (M.putUp above (M.way 11 ⟨S, 0, 0⟩ root 1 key []).1 x.at' (M.nput x.n key value)).1 (M.putUp above (M.way 11 ⟨S, 0, 0⟩ root 1 key []).1 x.at' (M.nput x.n key value)).2) := by
    rw [M.treePut, if_neg (by omega)]; rfl
  (repeat (first | refine W.ctl rfl ?_ | refine W.op rfl rfl rfl rfl ?_ | refine W.skip rfl rfl ?_ | refine W.fld rfl rfl rfl rfl rfl ?_ | refine W.ld rfl rfl rfl rfl rfl ?_))
  refine W.bld rfl rfl rfl rfl rfl ?_
  refine W.box rfl rfl rfl rfl rfl fun wp => ?_
  (repeat (first | refine W.ctl rfl ?_ | refine W.op rfl rfl rfl rfl ?_ | refine W.skip rfl rfl ?_ | refine W.fld rfl rfl rfl rfl rfl ?_ | refine W.ld rfl rfl rfl rfl rfl ?_))
  by_cases h : root = 0
  · refine W.yes rfl rfl rfl rfl h ?_
    rw [if_pos h] at e0
    (repeat (first | refine W.ctl rfl ?_ | refine W.op rfl rfl rfl rfl ?_ | refine W.skip rfl rfl ?_ | refine W.fld rfl rfl rfl rfl rfl ?_ | refine W.ld rfl rfl rfl rfl rfl ?_))
    refine W.bsl (vs := [_]) rfl rfl rfl rfl ⟨rfl, rfl, trivial⟩ rfl rfl rfl fun g1 => ?_
    (repeat (first | refine W.ctl rfl ?_ | refine W.op rfl rfl rfl rfl ?_ | refine W.skip rfl rfl ?_ | refine W.fld rfl rfl rfl rfl rfl ?_ | refine W.ld rfl rfl rfl rfl rfl ?_))
    refine W.bsl (vs := [_]) rfl rfl rfl rfl ⟨rfl, rfl, trivial⟩ rfl rfl rfl fun g2 => ?_
    refine W.bld rfl rfl rfl rfl rfl ?_
    obtain ⟨N, hN⟩ : ∃ N : M.Node, N = ⟨true, [key], [value], []⟩ := ⟨_, rfl⟩
    have hNB : NB N := by rw [hN]; exact ⟨by simp, by simp, by simp, fun v hv => by simp at hv; subst hv; omega⟩
    have hKB : KB N := by rw [hN]; intro k hk; simp at hk; omega
    rw [← hN] at e0
    refine W.imp (H' := WkH wp sp dp ⟨S, 0, 0⟩ • NodeH N ⟨some g1, 1, some g2, 1, none, 0⟩ • R) rfl ?_ ?_
    · rw [hN]
      have s1 := sk_row g1 35 [u64 key] 1 rfl (by omega)
      have s2 := sk_row g2 9 [str value] 1 rfl (by omega)
      simp only [WkH, NodeH, NodeB, sep_assoc', emp_sep, List.length_cons, List.length_nil, List.map_cons, List.map_nil, skv_nil]
      exact Imp.trans (Imp.pack (K := row g2 9 [str value] • WkR wp sp ⟨S, 0, 0⟩ • StoreP sp dp S • R) s1 Imp.all) (Imp.trans (Imp.pack (K := slck 1 35 (sv (some g1) 1 1) 1 [u64 key] • WkR wp sp ⟨S, 0, 0⟩ • StoreP sp dp S • R) s2 Imp.all) Imp.all)
    refine W.call (work_fresh wp sp dp ⟨S, 0, 0⟩ N ⟨some g1, 1, some g2, 1, none, 0⟩ hNB hKB) rfl rfl rfl rfl Tryz.call60 (by rw [hN]; exact ⟨rfl, rfl, trivial⟩) ?_
    rintro _ _ ⟨rfl, rfl⟩
    simp only [WkH, sep_assoc']
    (repeat (first | refine W.ctl rfl ?_ | refine W.op rfl rfl rfl rfl ?_ | refine W.skip rfl rfl ?_ | refine W.fld rfl rfl rfl rfl rfl ?_ | refine W.ld rfl rfl rfl rfl rfl ?_))
    refine W.call (work_done wp sp ((⟨S, 0, 0⟩ : Work).fresh N).1 ((⟨S, 0, 0⟩ : Work).fresh N).2) rfl rfl rfl rfl Tryz.call59 ⟨rfl, rfl, trivial⟩ ?_
    rintro _ _ ⟨rfl, rfl⟩
    (repeat (first | refine W.ctl rfl ?_ | refine W.op rfl rfl rfl rfl ?_ | refine W.skip rfl rfl ?_ | refine W.fld rfl rfl rfl rfl rfl ?_ | refine W.ld rfl rfl rfl rfl rfl ?_))
    rw [e0]
    exact W.ret2 (.inr rfl) rfl rfl rfl _ ⟨rfl, rfl⟩ Imp.all
  refine W.no rfl rfl rfl rfl h ?_
  rw [if_neg h] at e0
  (repeat (first | refine W.ctl rfl ?_ | refine W.op rfl rfl rfl rfl ?_ | refine W.skip rfl rfl ?_ | refine W.fld rfl rfl rfl rfl rfl ?_ | refine W.ld rfl rfl rfl rfl rfl ?_))
  refine W.call (work_way wp sp dp ⟨S, 0, 0⟩ root key (by dsimp only; omega) (by dsimp only; omega) r0 r1) rfl rfl rfl rfl Tryz.call61 ⟨rfl, rfl, rfl, trivial⟩ ?_
  rintro _ _ ⟨kp, l, ⟨rfl, hl, hlen, hok⟩, rfl⟩
  obtain ⟨Z, hZ⟩ : ∃ Z, M.way 11 ⟨S, 0, 0⟩ root 1 key [] = Z := ⟨_, rfl⟩
  have wl := way_last 11 ⟨S, 0, 0⟩ root 1 key [] (by omega) (by omega)
  have wb := way_branch 11 ⟨S, 0, 0⟩ root 1 key [] (fun t ht => by cases ht)
  rw [hZ] at wl wb hl e0 ⊢
  obtain ⟨Y, p⟩ := Z
  dsimp only at wl wb hl e0 ⊢
  simp only [WkH, sep_assoc']
  (repeat (first | refine W.ctl rfl ?_ | refine W.op rfl rfl rfl rfl ?_ | refine W.skip rfl rfl ?_ | refine W.fld rfl rfl rfl rfl rfl ?_ | refine W.ld rfl rfl rfl rfl rfl ?_))
  by_cases he : Y.e ≠ 0
  · refine W.yes rfl rfl rfl rfl he ?_
    rw [if_pos he] at e0
    (repeat (first | refine W.ctl rfl ?_ | refine W.op rfl rfl rfl rfl ?_ | refine W.skip rfl rfl ?_ | refine W.fld rfl rfl rfl rfl rfl ?_ | refine W.ld rfl rfl rfl rfl rfl ?_))
    refine W.draw (by kernel_rfl) (by kernel_rfl) ?_
    (repeat (first | refine W.ctl rfl ?_ | refine W.op rfl rfl rfl rfl ?_ | refine W.skip rfl rfl ?_ | refine W.fld rfl rfl rfl rfl rfl ?_ | refine W.ld rfl rfl rfl rfl rfl ?_))
    rw [e0]
    exact W.ret2 (.inr rfl) rfl rfl rfl _ ⟨rfl, rfl⟩ Imp.all
  refine W.no rfl rfl rfl rfl he ?_
  rw [if_neg he] at e0
  obtain ⟨q', s', w1, w2, w3⟩ := wl (by simpa using he)
  have wb' := wb q' s' w1
  rcases List.eq_nil_or_concat l with rfl | ⟨q, s, rfl⟩
  · rw [w1] at hl; simp at hl
  simp only [List.concat_eq_append] at hlen hl hok ⊢
  rw [w1, List.map_append, List.map_cons, List.map_nil] at hl
  have hs : s.m = s' := by have := List.append_inj_right' hl rfl; simpa using this
  have hq : q.map Sp.m = q' := List.append_inj_left' hl rfl
  subst hs
  subst hq
  rw [w1, List.reverse_append, List.reverse_cons, List.reverse_nil, List.nil_append, List.cons_append, List.nil_append] at e0
  dsimp only at e0
  have so := hok s (by simp)
  have sos : ∀ t ∈ q, SpOk t.m ∧ t.m.n.leaf = false := fun t ht => ⟨hok t (by simp [ht]), wb' t.m (List.mem_map_of_mem ht)⟩
  (repeat (first | refine W.ctl rfl ?_ | refine W.op rfl rfl rfl rfl ?_ | refine W.skip rfl rfl ?_ | refine W.fld rfl rfl rfl rfl rfl ?_ | refine W.ld rfl rfl rfl rfl rfl ?_))
  refine W.call (stack_pop kp q s (by simp at hlen; omega)) rfl rfl rfl rfl Tryz.call62 ⟨rfl, trivial⟩ ?_
  rintro _ _ ⟨rfl, rfl⟩
  rw [nodesH_snoc]
  simp only [NodeH, NodeB, sep_assoc', emp_sep]
  (repeat (first | refine W.ctl rfl ?_ | refine W.op rfl rfl rfl rfl ?_ | refine W.skip rfl rfl ?_ | refine W.fld rfl rfl rfl rfl rfl ?_ | refine W.ld rfl rfl rfl rfl rfl ?_))
  refine W.alc rfl rfl rfl rfl fun xb => ?_
  refine W.sts rfl rfl rfl rfl rfl rfl ?_
  (repeat (first | refine W.ctl rfl ?_ | refine W.op rfl rfl rfl rfl ?_ | refine W.skip rfl rfl ?_ | refine W.fld rfl rfl rfl rfl rfl ?_ | refine W.ld rfl rfl rfl rfl rfl ?_))
  refine W.lds rfl rfl rfl rfl rfl ?_
  (repeat (first | refine W.ctl rfl ?_ | refine W.op rfl rfl rfl rfl ?_ | refine W.skip rfl rfl ?_))
  refine W.call (node_Put s.m.n s.y key value (nb_right so.right) w2) rfl rfl rfl rfl Tryz.call63 ⟨rfl, rfl, rfl, trivial⟩ ?_
  rintro _ _ ⟨y, rfl, rfl⟩
  have hmid : Mid (M.nput s.m.n key value) := nput_mid (mid_right so.right so.kb) (by have := (right_bounds so.right).1; omega) w2 hkey (by omega)
  obtain ⟨n, hn⟩ : ∃ n, M.nput s.m.n key value = n := ⟨_, rfl⟩
  rw [hn] at hmid e0 ⊢
  simp only [NodeH, NodeB, sep_assoc', emp_sep]
  refine W.alc rfl rfl rfl rfl fun nb => ?_
  refine W.sts rfl rfl rfl rfl rfl rfl ?_
  obtain ⟨Q, hQ⟩ : ∃ Q, M.putUp (q.map Sp.m).reverse Y s.m.at' n = Q := ⟨_, rfl⟩
  rw [hQ] at e0
  rw [e0]
  (repeat (first | refine W.ctlb rfl ?_ | refine W.op rfl rfl rfl rfl ?_ | refine W.skip rfl rfl ?_ | refine W.fld rfl rfl rfl rfl rfl ?_ | refine W.ld rfl rfl rfl rfl rfl ?_))
  refine W.keep [(10, ptr wp), (11, ptr kp), (12, ptr xb), (14, ptr nb)] ⟨rfl, rfl, rfl, rfl, trivial⟩ ?_
  (repeat (first | refine W.ctl rfl ?_ | refine W.op rfl rfl rfl rfl ?_ | refine W.skip rfl rfl ?_ | refine W.fld rfl rfl rfl rfl rfl ?_ | refine W.ld rfl rfl rfl rfl rfl ?_))
  refine W.loop (σ := Work × List Sp × Sp × M.Node × NP) (fun p => p.1.e = 0 ∧ Mid p.2.2.2.1 ∧ (∀ t ∈ p.2.1, SpOk t.m ∧ t.m.n.leaf = false) ∧ p.2.1.length ≤ 11 ∧ -9223372036854775808 ≤ p.2.2.1.m.at' ∧ p.2.2.1.m.at' < 9223372036854775808 ∧ M.putUp (p.2.1.map Sp.m).reverse p.1 p.2.2.1.m.at' p.2.2.2.1 = Q)
    (fun _ => [(10, ptr wp), (11, ptr kp), (12, ptr xb), (14, ptr nb)]) (PutI wp kp xb nb sp dp R) (fun p => p.2.1.length) (Y, q, s, n, y) ⟨by simpa using he, hmid, sos, by dsimp only; simp at hlen; omega, so.a0, so.a1, hQ⟩ ⟨rfl, rfl, rfl, rfl, trivial⟩ (by simp only [PutI, boxN, NodeB]; exact Imp.all) ?_
  clear hQ hmid e0 hn hl wl wb wb' so sos
  clear y n
  rintro ⟨Y, q, s, n, y⟩ ⟨i1, hmid, sos, i4, i5, i6, i7⟩
  dsimp only at i1 hmid sos i4 i5 i6 i7 ⊢
  have hNB := hmid.nb
  obtain ⟨⟨sA, sB⟩, ⟨sC, sD⟩, sE⟩ := splitQ_ok hmid
  rw [putUp_eq] at i7
  simp only [PutI]
  (repeat (first | refine W.ctl rfl ?_ | refine W.op rfl rfl rfl rfl ?_ | refine W.skip rfl rfl ?_ | refine W.fld rfl rfl rfl rfl rfl ?_ | refine W.ld rfl rfl rfl rfl rfl ?_))
  refine W.lds rfl rfl rfl rfl rfl ?_
  refine W.bld rfl rfl rfl rfl rfl ?_
  refine W.alc rfl rfl rfl rfl fun ab => ?_
  refine W.alc rfl rfl rfl rfl fun bb => ?_
  refine W.sts rfl rfl rfl rfl rfl rfl ?_
  (repeat (first | refine W.ctl rfl ?_ | refine W.op rfl rfl rfl rfl ?_ | refine W.skip rfl rfl ?_ | refine W.fld rfl rfl rfl rfl rfl ?_ | refine W.ld rfl rfl rfl rfl rfl ?_))
  refine W.sts rfl rfl rfl rfl rfl rfl ?_
  (repeat (first | refine W.ctl rfl ?_ | refine W.op rfl rfl rfl rfl ?_ | refine W.skip rfl rfl ?_ | refine W.fld rfl rfl rfl rfl rfl ?_ | refine W.ld rfl rfl rfl rfl rfl ?_))
  refine W.lds rfl rfl rfl rfl rfl ?_
  refine W.call (node_Size n y hNB) rfl rfl rfl rfl Tryz.call64 ⟨rfl, trivial⟩ ?_
  rintro _ _ ⟨rfl, rfl⟩
  simp only [NodeH, NodeB, sep_assoc', emp_sep]
  refine W.cmp rfl rfl rfl rfl ?_
  (repeat (first | refine W.ctl rfl ?_ | refine W.op rfl rfl rfl rfl ?_ | refine W.skip rfl rfl ?_ | refine W.fld rfl rfl rfl rfl rfl ?_ | refine W.ld rfl rfl rfl rfl rfl ?_))
  refine W.join (σ := NP × NP) (fun _ => ¬ (M.nsize n > 240 ∧ (M.splitQ n).2.2.2 = false)) (fun _ => [(10, ptr wp), (11, ptr kp), (12, ptr xb), (14, ptr nb), (15, ptr ab), (16, u64 (M.splitQ n).2.1), (17, ptr bb), (18, .bool (M.splitQ n).2.2.2)])
    (fun z => boxN ab (M.splitQ n).1 z.1 • boxN bb (M.splitQ n).2.2.1 z.2 • NodeB (M.splitQ n).1 z.1 (NodeB (M.splitQ n).2.2.1 z.2 (row xb 118 s.cells • boxN nb n y • WkR wp sp Y • StoreP sp dp Y.s • Stk kp q • nodesH q • R))) ?_ ?_
  · by_cases hbig : M.nsize n > 240
    · rw [show decide ((240 : Int) < M.nsize n) = true from decide_eq_true (by omega)]
      have hsq : M.splitQ n = M.nsplit n := by rw [M.splitQ, if_pos hbig]
      (repeat (first | refine W.ctl rfl ?_ | refine W.op rfl rfl rfl rfl ?_ | refine W.skip rfl rfl ?_ | refine W.fld rfl rfl rfl rfl rfl ?_ | refine W.ld rfl rfl rfl rfl rfl ?_))
      refine W.lds rfl rfl rfl rfl rfl ?_
      refine W.call (node_Split n y hNB hmid.fit) rfl rfl rfl rfl Tryz.call65 ⟨rfl, trivial⟩ ?_
      rintro _ _ ⟨ya, yb, rfl, rfl⟩
      rw [← hsq]
      simp only [NodeH, NodeB, sep_assoc', emp_sep]
      (repeat (first | refine W.ctl rfl ?_ | refine W.op rfl rfl rfl rfl ?_ | refine W.skip rfl rfl ?_ | refine W.fld rfl rfl rfl rfl rfl ?_ | refine W.ld rfl rfl rfl rfl rfl ?_))
      refine W.sts rfl rfl rfl rfl rfl rfl ?_
      (repeat (first | refine W.ctl rfl ?_ | refine W.op rfl rfl rfl rfl ?_ | refine W.skip rfl rfl ?_ | refine W.fld rfl rfl rfl rfl rfl ?_ | refine W.ld rfl rfl rfl rfl rfl ?_))
      refine W.sts rfl rfl rfl rfl rfl rfl ?_
      (repeat (first | refine W.ctl rfl ?_ | refine W.op rfl rfl rfl rfl ?_ | refine W.skip rfl rfl ?_ | refine W.fld rfl rfl rfl rfl rfl ?_ | refine W.ld rfl rfl rfl rfl rfl ?_))
      cases hb : (M.splitQ n).2.2.2 with
      | true =>
        (repeat (first | refine W.ctl rfl ?_ | refine W.op rfl rfl rfl rfl ?_ | refine W.skip rfl rfl ?_ | refine W.fld rfl rfl rfl rfl rfl ?_ | refine W.ld rfl rfl rfl rfl rfl ?_))
        refine W.meet (ya, yb) (by simp) ⟨rfl, rfl, rfl, rfl, rfl, rfl, rfl, rfl, trivial⟩ ?_
        simp only [boxN, NodeB]
        exact Imp.all
      | false =>
        (repeat (first | refine W.ctl rfl ?_ | refine W.op rfl rfl rfl rfl ?_ | refine W.skip rfl rfl ?_ | refine W.fld rfl rfl rfl rfl rfl ?_ | refine W.ld rfl rfl rfl rfl rfl ?_))
        rw [if_pos ⟨hbig, hb⟩] at i7
        rw [← i7]
        refine W.ret2 (.inr rfl) rfl rfl rfl _ ⟨rfl, rfl⟩ Imp.all
    · rw [show decide ((240 : Int) < M.nsize n) = false from decide_eq_false (by omega)]
      have hsq : M.splitQ n = (n, 0, M.Node.zero, false) := by rw [M.splitQ, if_neg hbig]
      (repeat (first | refine W.ctl rfl ?_ | refine W.op rfl rfl rfl rfl ?_ | refine W.skip rfl rfl ?_ | refine W.fld rfl rfl rfl rfl rfl ?_ | refine W.ld rfl rfl rfl rfl rfl ?_))
      refine W.meet (y, ⟨none, 0, none, 0, none, 0⟩) (by simp [hbig]) ⟨rfl, rfl, rfl, rfl, rfl, by rw [hsq]; rfl, rfl, by rw [hsq]; rfl, trivial⟩ ?_
      rw [hsq]
      simp only [boxN, NodeB, M.Node.zero, sv, Option.map_none, List.length_nil, List.map_nil, slck_nil, emp_sep]
      exact Imp.all
  rintro ⟨ya, yb⟩ hns
  rw [if_neg hns] at i7
  obtain ⟨W1, hW1⟩ : ∃ W1, Y.lay s.m.at' (M.splitQ n).1 = W1 := ⟨_, rfl⟩
  rw [hW1] at i7
  dsimp only
  (repeat (first | refine W.ctl rfl ?_ | refine W.op rfl rfl rfl rfl ?_ | refine W.skip rfl rfl ?_ | refine W.fld rfl rfl rfl rfl rfl ?_ | refine W.ld rfl rfl rfl rfl rfl ?_))
  refine W.lds rfl rfl rfl rfl rfl ?_
  refine W.call (work_lay wp sp dp Y s.m.at' (M.splitQ n).1 ya sA sB i5 i6) rfl rfl rfl rfl Tryz.call66 ⟨rfl, rfl, rfl, trivial⟩ ?_
  rintro _ _ ⟨rfl, rfl⟩
  rw [hW1]
  obtain ⟨Y1, at1⟩ := W1
  have hmB := fun (x : Spot) => x
  clear hmB hns hW1
  obtain ⟨z, hz⟩ : ∃ z, M.splitQ n = z := ⟨_, rfl⟩
  rw [hz] at i7 sA sB sC sD sE ⊢
  clear hz
  obtain ⟨A, mid, B, sp'⟩ := z
  dsimp only at i7 sA sB sC sD sE ⊢
  simp only [WkH, NodeH, NodeB, sep_assoc', emp_sep]
  cases sp' with
  | false =>
    rw [if_neg (by simp)] at i7
    (repeat (first | refine W.ctl rfl ?_ | refine W.op rfl rfl rfl rfl ?_ | refine W.skip rfl rfl ?_ | refine W.fld rfl rfl rfl rfl rfl ?_ | refine W.ld rfl rfl rfl rfl rfl ?_))
    by_cases he1 : Y1.e ≠ 0
    · refine W.yes rfl rfl rfl rfl he1 ?_
      rw [if_pos he1] at i7
      (repeat (first | refine W.ctl rfl ?_ | refine W.op rfl rfl rfl rfl ?_ | refine W.skip rfl rfl ?_ | refine W.fld rfl rfl rfl rfl rfl ?_ | refine W.ld rfl rfl rfl rfl rfl ?_))
      refine W.draw (by kernel_rfl) (by kernel_rfl) ?_
      (repeat (first | refine W.ctl rfl ?_ | refine W.op rfl rfl rfl rfl ?_ | refine W.skip rfl rfl ?_ | refine W.fld rfl rfl rfl rfl rfl ?_ | refine W.ld rfl rfl rfl rfl rfl ?_))
      have ed : M.doneE Y1 0 = (0, Y1.e) := by rw [M.doneE, if_pos he1]
      rw [← i7]
      dsimp only
      rw [ed]
      exact W.ret2 (.inr rfl) rfl rfl rfl _ ⟨rfl, rfl⟩ Imp.all
    refine W.no rfl rfl rfl rfl he1 ?_
    rw [if_neg he1] at i7
    (repeat (first | refine W.ctl rfl ?_ | refine W.op rfl rfl rfl rfl ?_ | refine W.skip rfl rfl ?_ | refine W.fld rfl rfl rfl rfl rfl ?_ | refine W.ld rfl rfl rfl rfl rfl ?_))
    rcases List.eq_nil_or_concat q with rfl | ⟨q2, t, rfl⟩
    · refine W.call (stack_pop0 kp) rfl rfl rfl rfl Tryz.call62 ⟨rfl, trivial⟩ ?_
      rintro _ _ ⟨rfl, rfl⟩
      (repeat (first | refine W.ctl rfl ?_ | refine W.op rfl rfl rfl rfl ?_ | refine W.skip rfl rfl ?_ | refine W.fld rfl rfl rfl rfl rfl ?_ | refine W.ld rfl rfl rfl rfl rfl ?_))
      refine W.alc rfl rfl rfl rfl fun tb => ?_
      refine W.sts rfl rfl rfl rfl rfl rfl ?_
      (repeat (first | refine W.ctl rfl ?_ | refine W.op rfl rfl rfl rfl ?_ | refine W.skip rfl rfl ?_ | refine W.fld rfl rfl rfl rfl rfl ?_ | refine W.ld rfl rfl rfl rfl rfl ?_))
      have ed : M.doneE Y1 at1 = (at1, 0) := by rw [M.doneE, if_neg he1]
      simp only [List.map_nil, List.reverse_nil] at i7
      rw [← i7]
      dsimp only
      rw [ed]
      exact W.ret2 (.inr rfl) rfl rfl rfl _ ⟨rfl, rfl⟩ Imp.all
    · simp only [List.concat_eq_append, List.map_append, List.map_cons, List.map_nil, List.reverse_append, List.reverse_cons, List.reverse_nil, List.nil_append, List.cons_append] at i7 sos i4 ⊢
      obtain ⟨tok, tl⟩ := sos t (by simp)
      have tr := tok.right
      obtain ⟨q1, _, q3, _⟩ := right_bounds tr
      rw [tl, if_neg (by simp)] at q3
      have ti := tok.i
      refine W.call (stack_pop kp q2 t (by simp at i4; omega)) rfl rfl rfl rfl Tryz.call62 ⟨rfl, trivial⟩ ?_
      rintro _ _ ⟨rfl, rfl⟩
      rw [nodesH_snoc]
      simp only [NodeH, NodeB, sep_assoc', emp_sep]
      (repeat (first | refine W.ctl rfl ?_ | refine W.op rfl rfl rfl rfl ?_ | refine W.skip rfl rfl ?_ | refine W.fld rfl rfl rfl rfl rfl ?_ | refine W.ld rfl rfl rfl rfl rfl ?_))
      refine W.alc rfl rfl rfl rfl fun tb => ?_
      refine W.sts rfl rfl rfl rfl rfl rfl ?_
      (repeat (first | refine W.ctl rfl ?_ | refine W.op rfl rfl rfl rfl ?_ | refine W.skip rfl rfl ?_ | refine W.fld rfl rfl rfl rfl rfl ?_ | refine W.ld rfl rfl rfl rfl rfl ?_))
      refine W.anyh (f := 2) (fun _ => true) [0, 1, 2] (by kernel_rfl) (by kernel_rfl) (by kernel_rfl) (by kernel_rfl) rfl (row tb 118 t.cells) Imp.all ?_
      refine W.lds rfl rfl rfl rfl rfl ?_
      (repeat (first | refine W.ctl rfl ?_ | refine W.op rfl rfl rfl rfl ?_ | refine W.skip rfl rfl ?_ | refine W.fld rfl rfl rfl rfl rfl ?_ | refine W.ld rfl rfl rfl rfl rfl ?_))
      refine W.lds rfl rfl rfl rfl rfl ?_
      refine W.tdn ?_
      refine W.ald1 3 (by kernel_rfl) rfl ?_
      refine W.sts rfl rfl rfl rfl rfl rfl ?_
      refine W.aft Imp.all ?_
      refine W.ald1 4 (by kernel_rfl) rfl ?_
      refine W.sts rfl rfl rfl rfl rfl rfl ?_
      refine W.aft Imp.all (W.adn (by kernel_rfl) ?_)
      (repeat (first | refine W.ctl rfl ?_ | refine W.op rfl rfl rfl rfl ?_ | refine W.skip rfl rfl ?_ | refine W.fld rfl rfl rfl rfl rfl ?_ | refine W.ld rfl rfl rfl rfl rfl ?_))
      refine W.idxk rfl rfl rfl rfl rfl rfl (by omega) (by omega) ?_
      refine W.stk rfl rfl rfl rfl rfl (by simp; omega) ?_
      rw [Int.toNat_natCast, Nat.mul_one]
      (repeat (first | refine W.ctl rfl ?_ | refine W.op rfl rfl rfl rfl ?_ | refine W.skip rfl rfl ?_ | refine W.fld rfl rfl rfl rfl rfl ?_ | refine W.ld rfl rfl rfl rfl rfl ?_))
      refine W.again (Y1, q2, t, { t.m.n with kids := t.m.n.kids.set t.m.i at1 }, t.y) ⟨by simpa using he1, set_mid (mid_right tr tok.kb), fun u hu => sos u (by simp [hu]), by simp at i4; dsimp only; omega, tok.a0, tok.a1, i7⟩ (by simp) ⟨rfl, rfl, rfl, rfl, trivial⟩ ?_
      simp only [PutI, boxN, NodeB, List.length_set, List.map_set]
      exact Imp.all
  | true =>
    rw [if_pos rfl] at i7
    (repeat (first | refine W.ctl rfl ?_ | refine W.op rfl rfl rfl rfl ?_ | refine W.skip rfl rfl ?_ | refine W.fld rfl rfl rfl rfl rfl ?_ | refine W.ld rfl rfl rfl rfl rfl ?_))
    by_cases he1 : Y1.e ≠ 0
    · refine W.no rfl rfl rfl rfl he1 ?_
      rw [if_pos he1] at i7
      (repeat (first | refine W.ctl rfl ?_ | refine W.op rfl rfl rfl rfl ?_ | refine W.skip rfl rfl ?_ | refine W.fld rfl rfl rfl rfl rfl ?_ | refine W.ld rfl rfl rfl rfl rfl ?_))
      refine W.yes rfl rfl rfl rfl he1 ?_
      (repeat (first | refine W.ctl rfl ?_ | refine W.op rfl rfl rfl rfl ?_ | refine W.skip rfl rfl ?_ | refine W.fld rfl rfl rfl rfl rfl ?_ | refine W.ld rfl rfl rfl rfl rfl ?_))
      refine W.draw (by kernel_rfl) (by kernel_rfl) ?_
      (repeat (first | refine W.ctl rfl ?_ | refine W.op rfl rfl rfl rfl ?_ | refine W.skip rfl rfl ?_ | refine W.fld rfl rfl rfl rfl rfl ?_ | refine W.ld rfl rfl rfl rfl rfl ?_))
      have ed : M.doneE Y1 0 = (0, Y1.e) := by rw [M.doneE, if_pos he1]
      rw [← i7]
      dsimp only
      rw [ed]
      exact W.ret2 (.inr rfl) rfl rfl rfl _ ⟨rfl, rfl⟩ Imp.all
    refine W.yes rfl rfl rfl rfl (by simpa using he1) ?_
    rw [if_neg he1] at i7
    (repeat (first | refine W.ctl rfl ?_ | refine W.op rfl rfl rfl rfl ?_ | refine W.skip rfl rfl ?_ | refine W.fld rfl rfl rfl rfl rfl ?_ | refine W.ld rfl rfl rfl rfl rfl ?_))
    refine W.lds rfl rfl rfl rfl rfl ?_
    refine W.call (work_fresh wp sp dp Y1 B yb sC sD) rfl rfl rfl rfl Tryz.call60 ⟨rfl, rfl, trivial⟩ ?_
    rintro _ _ ⟨rfl, rfl⟩
    obtain ⟨W2, hW2⟩ : ∃ W2, Y1.fresh B = W2 := ⟨_, rfl⟩
    rw [hW2] at i7 ⊢
    obtain ⟨Y2, at2⟩ := W2
    dsimp only at i7 ⊢
    simp only [WkH, NodeH, NodeB, sep_assoc', emp_sep]
    (repeat (first | refine W.ctl rfl ?_ | refine W.op rfl rfl rfl rfl ?_ | refine W.skip rfl rfl ?_ | refine W.fld rfl rfl rfl rfl rfl ?_ | refine W.ld rfl rfl rfl rfl rfl ?_))
    by_cases he2 : Y2.e ≠ 0
    · refine W.yes rfl rfl rfl rfl he2 ?_
      rw [if_pos he2] at i7
      (repeat (first | refine W.ctl rfl ?_ | refine W.op rfl rfl rfl rfl ?_ | refine W.skip rfl rfl ?_ | refine W.fld rfl rfl rfl rfl rfl ?_ | refine W.ld rfl rfl rfl rfl rfl ?_))
      refine W.draw (by kernel_rfl) (by kernel_rfl) ?_
      (repeat (first | refine W.ctl rfl ?_ | refine W.op rfl rfl rfl rfl ?_ | refine W.skip rfl rfl ?_ | refine W.fld rfl rfl rfl rfl rfl ?_ | refine W.ld rfl rfl rfl rfl rfl ?_))
      have ed : M.doneE Y2 0 = (0, Y2.e) := by rw [M.doneE, if_pos he2]
      rw [← i7]
      dsimp only
      rw [ed]
      exact W.ret2 (.inr rfl) rfl rfl rfl _ ⟨rfl, rfl⟩ Imp.all
    refine W.no rfl rfl rfl rfl he2 ?_
    rw [if_neg he2] at i7
    (repeat (first | refine W.ctl rfl ?_ | refine W.op rfl rfl rfl rfl ?_ | refine W.skip rfl rfl ?_ | refine W.fld rfl rfl rfl rfl rfl ?_ | refine W.ld rfl rfl rfl rfl rfl ?_))
    rcases List.eq_nil_or_concat q with rfl | ⟨q2, t, rfl⟩
    · refine W.call (stack_pop0 kp) rfl rfl rfl rfl Tryz.call62 ⟨rfl, trivial⟩ ?_
      rintro _ _ ⟨rfl, rfl⟩
      (repeat (first | refine W.ctl rfl ?_ | refine W.op rfl rfl rfl rfl ?_ | refine W.skip rfl rfl ?_ | refine W.fld rfl rfl rfl rfl rfl ?_ | refine W.ld rfl rfl rfl rfl rfl ?_))
      refine W.alc rfl rfl rfl rfl fun tb => ?_
      refine W.sts rfl rfl rfl rfl rfl rfl ?_
      (repeat (first | refine W.ctl rfl ?_ | refine W.op rfl rfl rfl rfl ?_ | refine W.skip rfl rfl ?_ | refine W.fld rfl rfl rfl rfl rfl ?_ | refine W.ld rfl rfl rfl rfl rfl ?_))
      refine W.bsl (vs := [_]) rfl rfl rfl rfl ⟨rfl, rfl, trivial⟩ rfl rfl rfl fun g1 => ?_
      (repeat (first | refine W.ctl rfl ?_ | refine W.op rfl rfl rfl rfl ?_ | refine W.skip rfl rfl ?_ | refine W.fld rfl rfl rfl rfl rfl ?_ | refine W.ld rfl rfl rfl rfl rfl ?_))
      refine W.bsl (vs := [_, _]) rfl rfl rfl rfl ⟨rfl, rfl, rfl, rfl, trivial⟩ rfl rfl rfl fun g2 => ?_
      refine W.bld rfl rfl rfl rfl rfl ?_
      simp only [List.map_nil, List.reverse_nil] at i7
      obtain ⟨N, hN⟩ : ∃ N : M.Node, N = ⟨false, [mid], [], [at1, at2]⟩ := ⟨_, rfl⟩
      have hNB' : NB N := by rw [hN]; exact ⟨by simp, by simp, by simp, fun v hv => by simp at hv⟩
      have hKB' : KB N := by rw [hN]; intro k hk; simp at hk; omega
      rw [← hN] at i7
      refine W.imp (H' := WkH wp sp dp Y2 • NodeH N ⟨some g1, 1, none, 0, some g2, 2⟩ • R) rfl ?_ ?_
      · rw [hN]
        have s1 := sk_row g1 35 [u64 mid] 1 rfl (by omega)
        have s2 := sk_row g2 3 [int at1, int at2] 2 rfl (by omega)
        simp only [WkH, NodeH, NodeB, sep_assoc', emp_sep, List.length_cons, List.length_nil, List.map_cons, List.map_nil, skv_nil]
        exact Imp.trans (Imp.pack (K := row g2 3 [int at1, int at2] • WkR wp sp Y2 • StoreP sp dp Y2.s • R) s1 Imp.all) (Imp.trans (Imp.pack (K := slck 1 35 (sv (some g1) 1 1) 1 [u64 mid] • WkR wp sp Y2 • StoreP sp dp Y2.s • R) s2 Imp.all) Imp.all)
      refine W.call (work_fresh wp sp dp Y2 N ⟨some g1, 1, none, 0, some g2, 2⟩ hNB' hKB') rfl rfl rfl rfl Tryz.call60 (by rw [hN]; exact ⟨rfl, rfl, trivial⟩) ?_
      rintro _ _ ⟨rfl, rfl⟩
      simp only [WkH, sep_assoc']
      (repeat (first | refine W.ctl rfl ?_ | refine W.op rfl rfl rfl rfl ?_ | refine W.skip rfl rfl ?_ | refine W.fld rfl rfl rfl rfl rfl ?_ | refine W.ld rfl rfl rfl rfl rfl ?_))
      refine W.call (work_done wp sp (Y2.fresh N).1 (Y2.fresh N).2) rfl rfl rfl rfl Tryz.call59 ⟨rfl, rfl, trivial⟩ ?_
      rintro _ _ ⟨rfl, rfl⟩
      (repeat (first | refine W.ctl rfl ?_ | refine W.op rfl rfl rfl rfl ?_ | refine W.skip rfl rfl ?_ | refine W.fld rfl rfl rfl rfl rfl ?_ | refine W.ld rfl rfl rfl rfl rfl ?_))
      rw [← i7]
      exact W.ret2 (.inr rfl) rfl rfl rfl _ ⟨rfl, rfl⟩ Imp.all
    · simp only [List.concat_eq_append, List.map_append, List.map_cons, List.map_nil, List.reverse_append, List.reverse_cons, List.reverse_nil, List.nil_append, List.cons_append] at i7 sos i4 ⊢
      obtain ⟨tok, tl⟩ := sos t (by simp)
      have tr := tok.right
      obtain ⟨q1, _, q3, _⟩ := right_bounds tr
      rw [tl, if_neg (by simp)] at q3
      have ti := tok.i
      refine W.call (stack_pop kp q2 t (by simp at i4; omega)) rfl rfl rfl rfl Tryz.call62 ⟨rfl, trivial⟩ ?_
      rintro _ _ ⟨rfl, rfl⟩
      obtain ⟨at1', hat1'⟩ : ∃ a, at1 = a := ⟨_, rfl⟩
      rw [nodesH_snoc]
      simp only [NodeH, NodeB, sep_assoc', emp_sep]
      (repeat (first | refine W.ctl rfl ?_ | refine W.op rfl rfl rfl rfl ?_ | refine W.skip rfl rfl ?_ | refine W.fld rfl rfl rfl rfl rfl ?_ | refine W.ld rfl rfl rfl rfl rfl ?_))
      refine W.alc rfl rfl rfl rfl fun tb => ?_
      refine W.sts rfl rfl rfl rfl rfl rfl ?_
      (repeat (first | refine W.ctl rfl ?_ | refine W.op rfl rfl rfl rfl ?_ | refine W.skip rfl rfl ?_ | refine W.fld rfl rfl rfl rfl rfl ?_ | refine W.ld rfl rfl rfl rfl rfl ?_))
      refine W.anyh (f := 2) (fun _ => true) [0, 1, 2] (by kernel_rfl) (by kernel_rfl) (by kernel_rfl) (by kernel_rfl) rfl (row tb 118 t.cells) Imp.all ?_
      refine W.lds rfl rfl rfl rfl rfl ?_
      (repeat (first | refine W.ctl rfl ?_ | refine W.op rfl rfl rfl rfl ?_ | refine W.skip rfl rfl ?_ | refine W.fld rfl rfl rfl rfl rfl ?_ | refine W.ld rfl rfl rfl rfl rfl ?_))
      refine W.lds rfl rfl rfl rfl rfl ?_
      refine W.tdn ?_
      refine W.ald1 3 (by kernel_rfl) rfl ?_
      refine W.sts rfl rfl rfl rfl rfl rfl ?_
      refine W.aft Imp.all ?_
      refine W.ald1 4 (by kernel_rfl) rfl ?_
      refine W.sts rfl rfl rfl rfl rfl rfl ?_
      refine W.aft Imp.all (W.adn (by kernel_rfl) ?_)
      (repeat (first | refine W.ctl rfl ?_ | refine W.op rfl rfl rfl rfl ?_ | refine W.skip rfl rfl ?_ | refine W.fld rfl rfl rfl rfl rfl ?_ | refine W.ld rfl rfl rfl rfl rfl ?_))
      refine W.idxk rfl rfl rfl rfl rfl rfl (by omega) (by omega) ?_
      refine W.stk rfl rfl rfl rfl rfl (by simp; omega) ?_
      rw [Int.toNat_natCast, Nat.mul_one]
      (repeat (first | refine W.ctl rfl ?_ | refine W.op rfl rfl rfl rfl ?_ | refine W.skip rfl rfl ?_ | refine W.fld rfl rfl rfl rfl rfl ?_ | refine W.ld rfl rfl rfl rfl rfl ?_))
      refine W.lds rfl rfl rfl rfl rfl ?_
      (repeat (first | refine W.ctl rfl ?_ | refine W.op rfl rfl rfl rfl ?_ | refine W.skip rfl rfl ?_ | refine W.fld rfl rfl rfl rfl rfl ?_ | refine W.ld rfl rfl rfl rfl rfl ?_))
      obtain ⟨n2, hn2⟩ : ∃ n2 : M.Node, n2 = { t.m.n with kids := t.m.n.kids.set t.m.i at1 } := ⟨_, rfl⟩
      have hm2 : Mid n2 := by rw [hn2]; exact set_mid (mid_right tr tok.kb)
      have hl2 : n2.leaf = false := by rw [hn2]; exact tl
      have hk2 : n2.keys = t.m.n.keys := by rw [hn2]
      rw [← hn2] at i7
      refine W.imp (H' := NodeH n2 t.y • row xb 118 t.cells • row nb 114 [Value.bool t.m.n.leaf, sv t.y.ka t.m.n.keys.length t.y.kc, sv t.y.va t.m.n.vals.length t.y.vc, sv t.y.da t.m.n.kids.length t.y.dc] • WkR wp sp Y2 • StoreP sp dp Y2.s • Stk kp q2 • nodesH q2 • R) rfl ?_ ?_
      · rw [hn2]
        simp only [NodeH, NodeB, List.length_set, List.map_set, sep_assoc', emp_sep]
        exact Imp.all
      refine W.call (node_Hang n2 t.y t.m.i mid at2 hm2.nb hl2 (by rw [hk2]; exact ti)) rfl rfl rfl rfl Tryz.call67 (by rw [hn2]; simp only [nodeV, List.length_set]; exact ⟨rfl, rfl, rfl, rfl, trivial⟩) ?_
      rintro _ _ ⟨y', rfl, rfl⟩
      simp only [NodeH, NodeB, sep_assoc', emp_sep]
      refine W.sts rfl rfl rfl rfl rfl rfl ?_
      (repeat (first | refine W.ctl rfl ?_ | refine W.op rfl rfl rfl rfl ?_ | refine W.skip rfl rfl ?_ | refine W.fld rfl rfl rfl rfl rfl ?_ | refine W.ld rfl rfl rfl rfl rfl ?_))
      refine W.again (Y2, q2, t, M.nhang n2 t.m.i mid at2, y') ⟨by simpa using he2, nhang_mid hm2 (by rw [hk2]; omega) hl2 (by rw [hk2]; exact ti) sE, fun u hu => sos u (by simp [hu]), by simp at i4; dsimp only; omega, tok.a0, tok.a1, i7⟩ (by simp) ⟨rfl, rfl, rfl, rfl, trivial⟩ ?_
      simp only [PutI, boxN, NodeB]
      exact Imp.all
end Go.Proofs.YtbdhhedfplkidaaGreat
