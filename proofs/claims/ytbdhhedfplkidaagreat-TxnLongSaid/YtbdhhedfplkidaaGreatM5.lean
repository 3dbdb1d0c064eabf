/- Parts of a proof, one behind the other: C20, Mod5, C21, C22, P1, P2, P3, E13, P4, P5, P6, P7, P8, P9. -/
import Derived.Test.YtbdhhedfplkidaaGreatM4
import Derived.Below
/- A key with a value is put: the walk. -/
namespace Go.Proofs.YtbdhhedfplkidaaGreat
open Go
open M (Str Store Work Spot)
set_option maxHeartbeats 4000000
set_option maxRecDepth 2000
abbrev PutI (wp kp xb nb sp dp : Nat) (R : HProp) (p : Work × List Sp × Sp × M.Node × NP) : HProp :=
  row xb 118 p.2.2.1.cells • boxN nb p.2.2.2.1 p.2.2.2.2 • NodeB p.2.2.2.1 p.2.2.2.2 (WkR wp sp p.1 • StoreP sp dp p.1.s • Stk kp p.2.1 • nodesH p.2.1 • R)
theorem tree_Put (sp dp : Nat) (S : Store) (root : Int) (key : Nat) (value : Str) (r0 : -9223372036854775808 ≤ root) (r1 : root < 9223372036854775808) (hkey : key < 18446744073709551616) (hval : value.length < 9223372036854775808) : CS 21 [ptr sp, int root, u64 key, str value] (StoreP sp dp S)
    fun v H' => v = .tuple #[int (M.treePut S root key value).2.1, int (M.treePut S root key value).2.2] ∧ H' = StoreP sp dp (M.treePut S root key value).1 := by
  refine CS.walk Tryz.func21 rfl Tryz.ntmps21 rfl fun c R => ?_
  (repeat (first | refine W.ctl rfl ?_ | refine W.op rfl rfl rfl rfl ?_ | refine W.skip rfl rfl ?_ | refine W.fld rfl rfl rfl rfl rfl ?_ | refine W.ld rfl rfl rfl rfl rfl ?_))
  refine W.slen rfl rfl rfl rfl rfl ?_
  by_cases hv : (40 : Int) < value.length
  · refine W.yes rfl rfl rfl rfl hv ?_
    (repeat (first | refine W.ctl rfl ?_ | refine W.op rfl rfl rfl rfl ?_ | refine W.skip rfl rfl ?_ | refine W.fld rfl rfl rfl rfl rfl ?_ | refine W.ld rfl rfl rfl rfl rfl ?_))
    have e : M.treePut S root key value = (S, 0, 1) := by rw [M.treePut, if_pos (by omega)]
    rw [e]
    exact W.ret2 (.inr rfl) rfl rfl rfl _ ⟨rfl, rfl⟩ Imp.all
  refine W.no rfl rfl rfl rfl hv ?_
  have e0 : M.treePut S root key value = if root = 0 then (((⟨S, 0, 0⟩ : Work).fresh ⟨true, [key], [value], []⟩).1.s, M.doneE ((⟨S, 0, 0⟩ : Work).fresh ⟨true, [key], [value], []⟩).1 ((⟨S, 0, 0⟩ : Work).fresh ⟨true, [key], [value], []⟩).2) else
      if (M.way 11 ⟨S, 0, 0⟩ root 1 key []).1.e ≠ 0 then ((M.way 11 ⟨S, 0, 0⟩ root 1 key []).1.s, 0, (M.way 11 ⟨S, 0, 0⟩ root 1 key []).1.e) else
      match (M.way 11 ⟨S, 0, 0⟩ root 1 key []).2.reverse with
      | [] => ((M.way 11 ⟨S, 0, 0⟩ root 1 key []).1.s, 0, 2)
      | x :: above => ((M.putUp above (M.way 11 ⟨S, 0, 0⟩ root 1 key []).1 x.at' (M.nput x.n key value)).1.s, M.doneE (M.putUp above (M.way 11 ⟨S, 0, 0⟩ root 1 key []).1 x.at' (M.nput x.n key value)).1 (M.putUp above (M.way 11 ⟨S, 0, 0⟩ root 1 key []).1 x.at' (M.nput x.n key value)).2) := by
    rw [M.treePut, if_neg (by omega)]; rfl
  (repeat (first | refine W.ctl rfl ?_ | refine W.op rfl rfl rfl rfl ?_ | refine W.skip rfl rfl ?_ | refine W.fld rfl rfl rfl rfl rfl ?_ | refine W.ld rfl rfl rfl rfl rfl ?_))
  refine W.bld rfl rfl rfl rfl rfl ?_
  refine W.box rfl rfl rfl rfl rfl fun wp => ?_
  (repeat (first | refine W.ctl rfl ?_ | refine W.op rfl rfl rfl rfl ?_ | refine W.skip rfl rfl ?_ | refine W.fld rfl rfl rfl rfl rfl ?_ | refine W.ld rfl rfl rfl rfl rfl ?_))
  by_cases h : root = 0
  · refine W.yes rfl rfl rfl rfl h ?_
    rw [if_pos h] at e0
    (repeat (first | refine W.ctl rfl ?_ | refine W.op rfl rfl rfl rfl ?_ | refine W.skip rfl rfl ?_ | refine W.fld rfl rfl rfl rfl rfl ?_ | refine W.ld rfl rfl rfl rfl rfl ?_))
    refine W.bsl (vs := [_]) rfl rfl rfl rfl ⟨rfl, rfl, trivial⟩ rfl rfl rfl fun g1 => ?_
    (repeat (first | refine W.ctl rfl ?_ | refine W.op rfl rfl rfl rfl ?_ | refine W.skip rfl rfl ?_ | refine W.fld rfl rfl rfl rfl rfl ?_ | refine W.ld rfl rfl rfl rfl rfl ?_))
    refine W.bsl (vs := [_]) rfl rfl rfl rfl ⟨rfl, rfl, trivial⟩ rfl rfl rfl fun g2 => ?_
    refine W.bld rfl rfl rfl rfl rfl ?_
    obtain ⟨N, hN⟩ : ∃ N : M.Node, N = ⟨true, [key], [value], []⟩ := ⟨_, rfl⟩
    have hNB : NB N := by rw [hN]; exact ⟨by simp, by simp, by simp, fun v hv => by simp at hv; subst hv; omega⟩
    have hKB : KB N := by rw [hN]; intro k hk; simp at hk; omega
    rw [← hN] at e0
    refine W.imp (H' := WkH wp sp dp ⟨S, 0, 0⟩ • NodeH N ⟨some g1, 1, some g2, 1, none, 0⟩ • R) rfl ?_ ?_
    · rw [hN]
      have s1 := sk_row g1 35 [u64 key] 1 rfl (by omega)
      have s2 := sk_row g2 9 [str value] 1 rfl (by omega)
      simp only [WkH, NodeH, NodeB, sep_assoc', emp_sep, List.length_cons, List.length_nil, List.map_cons, List.map_nil, skv_nil]
      exact Imp.trans (Imp.pack (K := row g2 9 [str value] • WkR wp sp ⟨S, 0, 0⟩ • StoreP sp dp S • R) s1 Imp.all) (Imp.trans (Imp.pack (K := slck 1 35 (sv (some g1) 1 1) 1 [u64 key] • WkR wp sp ⟨S, 0, 0⟩ • StoreP sp dp S • R) s2 Imp.all) Imp.all)
    refine W.call (work_fresh wp sp dp ⟨S, 0, 0⟩ N ⟨some g1, 1, some g2, 1, none, 0⟩ hNB hKB) rfl rfl rfl rfl Tryz.call60 (by rw [hN]; exact ⟨rfl, rfl, trivial⟩) ?_
    rintro _ _ ⟨rfl, rfl⟩
    simp only [WkH, sep_assoc']
    (repeat (first | refine W.ctl rfl ?_ | refine W.op rfl rfl rfl rfl ?_ | refine W.skip rfl rfl ?_ | refine W.fld rfl rfl rfl rfl rfl ?_ | refine W.ld rfl rfl rfl rfl rfl ?_))
    refine W.call (work_done wp sp ((⟨S, 0, 0⟩ : Work).fresh N).1 ((⟨S, 0, 0⟩ : Work).fresh N).2) rfl rfl rfl rfl Tryz.call59 ⟨rfl, rfl, trivial⟩ ?_
    rintro _ _ ⟨rfl, rfl⟩
    (repeat (first | refine W.ctl rfl ?_ | refine W.op rfl rfl rfl rfl ?_ | refine W.skip rfl rfl ?_ | refine W.fld rfl rfl rfl rfl rfl ?_ | refine W.ld rfl rfl rfl rfl rfl ?_))
    rw [e0]
    exact W.ret2 (.inr rfl) rfl rfl rfl _ ⟨rfl, rfl⟩ Imp.all
  refine W.no rfl rfl rfl rfl h ?_
  rw [if_neg h] at e0
  (repeat (first | refine W.ctl rfl ?_ | refine W.op rfl rfl rfl rfl ?_ | refine W.skip rfl rfl ?_ | refine W.fld rfl rfl rfl rfl rfl ?_ | refine W.ld rfl rfl rfl rfl rfl ?_))
  refine W.call (work_way wp sp dp ⟨S, 0, 0⟩ root key (by dsimp only; omega) (by dsimp only; omega) r0 r1) rfl rfl rfl rfl Tryz.call61 ⟨rfl, rfl, rfl, trivial⟩ ?_
  rintro _ _ ⟨kp, l, ⟨rfl, hl, hlen, hok⟩, rfl⟩
  obtain ⟨Z, hZ⟩ : ∃ Z, M.way 11 ⟨S, 0, 0⟩ root 1 key [] = Z := ⟨_, rfl⟩
  have wl := way_last 11 ⟨S, 0, 0⟩ root 1 key [] (by omega) (by omega)
  have wb := way_branch 11 ⟨S, 0, 0⟩ root 1 key [] (fun t ht => by cases ht)
  rw [hZ] at wl wb hl e0 ⊢
  obtain ⟨Y, p⟩ := Z
  dsimp only at wl wb hl e0 ⊢
  simp only [WkH, sep_assoc']
  (repeat (first | refine W.ctl rfl ?_ | refine W.op rfl rfl rfl rfl ?_ | refine W.skip rfl rfl ?_ | refine W.fld rfl rfl rfl rfl rfl ?_ | refine W.ld rfl rfl rfl rfl rfl ?_))
  by_cases he : Y.e ≠ 0
  · refine W.yes rfl rfl rfl rfl he ?_
    rw [if_pos he] at e0
    (repeat (first | refine W.ctl rfl ?_ | refine W.op rfl rfl rfl rfl ?_ | refine W.skip rfl rfl ?_ | refine W.fld rfl rfl rfl rfl rfl ?_ | refine W.ld rfl rfl rfl rfl rfl ?_))
    refine W.draw (by kernel_rfl) (by kernel_rfl) ?_
    (repeat (first | refine W.ctl rfl ?_ | refine W.op rfl rfl rfl rfl ?_ | refine W.skip rfl rfl ?_ | refine W.fld rfl rfl rfl rfl rfl ?_ | refine W.ld rfl rfl rfl rfl rfl ?_))
    rw [e0]
    exact W.ret2 (.inr rfl) rfl rfl rfl _ ⟨rfl, rfl⟩ Imp.all
  refine W.no rfl rfl rfl rfl he ?_
  rw [if_neg he] at e0
  obtain ⟨q', s', w1, w2, w3⟩ := wl (by simpa using he)
  have wb' := wb q' s' w1
  rcases List.eq_nil_or_concat l with rfl | ⟨q, s, rfl⟩
  · rw [w1] at hl; simp at hl
  simp only [List.concat_eq_append] at hlen hl hok ⊢
  rw [w1, List.map_append, List.map_cons, List.map_nil] at hl
  have hs : s.m = s' := by have := List.append_inj_right' hl rfl; simpa using this
  have hq : q.map Sp.m = q' := List.append_inj_left' hl rfl
  subst hs
  subst hq
  rw [w1, List.reverse_append, List.reverse_cons, List.reverse_nil, List.nil_append, List.cons_append, List.nil_append] at e0
  dsimp only at e0
  have so := hok s (by simp)
  have sos : ∀ t ∈ q, SpOk t.m ∧ t.m.n.leaf = false := fun t ht => ⟨hok t (by simp [ht]), wb' t.m (List.mem_map_of_mem ht)⟩
  (repeat (first | refine W.ctl rfl ?_ | refine W.op rfl rfl rfl rfl ?_ | refine W.skip rfl rfl ?_ | refine W.fld rfl rfl rfl rfl rfl ?_ | refine W.ld rfl rfl rfl rfl rfl ?_))
  refine W.call (stack_pop kp q s (by simp at hlen; omega)) rfl rfl rfl rfl Tryz.call62 ⟨rfl, trivial⟩ ?_
  rintro _ _ ⟨rfl, rfl⟩
  rw [nodesH_snoc]
  simp only [NodeH, NodeB, sep_assoc', emp_sep]
  (repeat (first | refine W.ctl rfl ?_ | refine W.op rfl rfl rfl rfl ?_ | refine W.skip rfl rfl ?_ | refine W.fld rfl rfl rfl rfl rfl ?_ | refine W.ld rfl rfl rfl rfl rfl ?_))
  refine W.alc rfl rfl rfl rfl fun xb => ?_
  refine W.sts rfl rfl rfl rfl rfl rfl ?_
  (repeat (first | refine W.ctl rfl ?_ | refine W.op rfl rfl rfl rfl ?_ | refine W.skip rfl rfl ?_ | refine W.fld rfl rfl rfl rfl rfl ?_ | refine W.ld rfl rfl rfl rfl rfl ?_))
  refine W.lds rfl rfl rfl rfl rfl ?_
  (repeat (first | refine W.ctl rfl ?_ | refine W.op rfl rfl rfl rfl ?_ | refine W.skip rfl rfl ?_))
  refine W.call (node_Put s.m.n s.y key value (nb_right so.right) w2) rfl rfl rfl rfl Tryz.call63 ⟨rfl, rfl, rfl, trivial⟩ ?_
  rintro _ _ ⟨y, rfl, rfl⟩
  have hmid : Mid (M.nput s.m.n key value) := nput_mid (mid_right so.right so.kb) (by have := (right_bounds so.right).1; omega) w2 hkey (by omega)
  obtain ⟨n, hn⟩ : ∃ n, M.nput s.m.n key value = n := ⟨_, rfl⟩
  rw [hn] at hmid e0 ⊢
  simp only [NodeH, NodeB, sep_assoc', emp_sep]
  refine W.alc rfl rfl rfl rfl fun nb => ?_
  refine W.sts rfl rfl rfl rfl rfl rfl ?_
  obtain ⟨Q, hQ⟩ : ∃ Q, M.putUp (q.map Sp.m).reverse Y s.m.at' n = Q := ⟨_, rfl⟩
  rw [hQ] at e0
  rw [e0]
  (repeat (first | refine W.ctlb rfl ?_ | refine W.op rfl rfl rfl rfl ?_ | refine W.skip rfl rfl ?_ | refine W.fld rfl rfl rfl rfl rfl ?_ | refine W.ld rfl rfl rfl rfl rfl ?_))
  refine W.keep [(10, ptr wp), (11, ptr kp), (12, ptr xb), (14, ptr nb)] ⟨rfl, rfl, rfl, rfl, trivial⟩ ?_
  (repeat (first | refine W.ctl rfl ?_ | refine W.op rfl rfl rfl rfl ?_ | refine W.skip rfl rfl ?_ | refine W.fld rfl rfl rfl rfl rfl ?_ | refine W.ld rfl rfl rfl rfl rfl ?_))
  refine W.loop (σ := Work × List Sp × Sp × M.Node × NP) (fun p => p.1.e = 0 ∧ Mid p.2.2.2.1 ∧ (∀ t ∈ p.2.1, SpOk t.m ∧ t.m.n.leaf = false) ∧ p.2.1.length ≤ 11 ∧ -9223372036854775808 ≤ p.2.2.1.m.at' ∧ p.2.2.1.m.at' < 9223372036854775808 ∧ M.putUp (p.2.1.map Sp.m).reverse p.1 p.2.2.1.m.at' p.2.2.2.1 = Q)
    (fun _ => [(10, ptr wp), (11, ptr kp), (12, ptr xb), (14, ptr nb)]) (PutI wp kp xb nb sp dp R) (fun p => p.2.1.length) (Y, q, s, n, y) ⟨by simpa using he, hmid, sos, by dsimp only; simp at hlen; omega, so.a0, so.a1, hQ⟩ ⟨rfl, rfl, rfl, rfl, trivial⟩ (by simp only [PutI, boxN, NodeB]; exact Imp.all) ?_
  clear hQ hmid e0 hn hl wl wb wb' so sos
  clear y n
  rintro ⟨Y, q, s, n, y⟩ ⟨i1, hmid, sos, i4, i5, i6, i7⟩
  dsimp only at i1 hmid sos i4 i5 i6 i7 ⊢
  have hNB := hmid.nb
  obtain ⟨⟨sA, sB⟩, ⟨sC, sD⟩, sE⟩ := splitQ_ok hmid
  rw [putUp_eq] at i7
  simp only [PutI]
  (repeat (first | refine W.ctl rfl ?_ | refine W.op rfl rfl rfl rfl ?_ | refine W.skip rfl rfl ?_ | refine W.fld rfl rfl rfl rfl rfl ?_ | refine W.ld rfl rfl rfl rfl rfl ?_))
  refine W.lds rfl rfl rfl rfl rfl ?_
  refine W.bld rfl rfl rfl rfl rfl ?_
  refine W.alc rfl rfl rfl rfl fun ab => ?_
  refine W.alc rfl rfl rfl rfl fun bb => ?_
  refine W.sts rfl rfl rfl rfl rfl rfl ?_
  (repeat (first | refine W.ctl rfl ?_ | refine W.op rfl rfl rfl rfl ?_ | refine W.skip rfl rfl ?_ | refine W.fld rfl rfl rfl rfl rfl ?_ | refine W.ld rfl rfl rfl rfl rfl ?_))
  refine W.sts rfl rfl rfl rfl rfl rfl ?_
  (repeat (first | refine W.ctl rfl ?_ | refine W.op rfl rfl rfl rfl ?_ | refine W.skip rfl rfl ?_ | refine W.fld rfl rfl rfl rfl rfl ?_ | refine W.ld rfl rfl rfl rfl rfl ?_))
  refine W.lds rfl rfl rfl rfl rfl ?_
  refine W.call (node_Size n y hNB) rfl rfl rfl rfl Tryz.call64 ⟨rfl, trivial⟩ ?_
  rintro _ _ ⟨rfl, rfl⟩
  simp only [NodeH, NodeB, sep_assoc', emp_sep]
  refine W.cmp rfl rfl rfl rfl ?_
  (repeat (first | refine W.ctl rfl ?_ | refine W.op rfl rfl rfl rfl ?_ | refine W.skip rfl rfl ?_ | refine W.fld rfl rfl rfl rfl rfl ?_ | refine W.ld rfl rfl rfl rfl rfl ?_))
  refine W.join (σ := NP × NP) (fun _ => ¬ (M.nsize n > 240 ∧ (M.splitQ n).2.2.2 = false)) (fun _ => [(10, ptr wp), (11, ptr kp), (12, ptr xb), (14, ptr nb), (15, ptr ab), (16, u64 (M.splitQ n).2.1), (17, ptr bb), (18, .bool (M.splitQ n).2.2.2)])
    (fun z => boxN ab (M.splitQ n).1 z.1 • boxN bb (M.splitQ n).2.2.1 z.2 • NodeB (M.splitQ n).1 z.1 (NodeB (M.splitQ n).2.2.1 z.2 (row xb 118 s.cells • boxN nb n y • WkR wp sp Y • StoreP sp dp Y.s • Stk kp q • nodesH q • R))) ?_ ?_
  · by_cases hbig : M.nsize n > 240
    · rw [show decide ((240 : Int) < M.nsize n) = true from decide_eq_true (by omega)]
      have hsq : M.splitQ n = M.nsplit n := by rw [M.splitQ, if_pos hbig]
      (repeat (first | refine W.ctl rfl ?_ | refine W.op rfl rfl rfl rfl ?_ | refine W.skip rfl rfl ?_ | refine W.fld rfl rfl rfl rfl rfl ?_ | refine W.ld rfl rfl rfl rfl rfl ?_))
      refine W.lds rfl rfl rfl rfl rfl ?_
      refine W.call (node_Split n y hNB hmid.fit) rfl rfl rfl rfl Tryz.call65 ⟨rfl, trivial⟩ ?_
      rintro _ _ ⟨ya, yb, rfl, rfl⟩
      rw [← hsq]
      simp only [NodeH, NodeB, sep_assoc', emp_sep]
      (repeat (first | refine W.ctl rfl ?_ | refine W.op rfl rfl rfl rfl ?_ | refine W.skip rfl rfl ?_ | refine W.fld rfl rfl rfl rfl rfl ?_ | refine W.ld rfl rfl rfl rfl rfl ?_))
      refine W.sts rfl rfl rfl rfl rfl rfl ?_
      (repeat (first | refine W.ctl rfl ?_ | refine W.op rfl rfl rfl rfl ?_ | refine W.skip rfl rfl ?_ | refine W.fld rfl rfl rfl rfl rfl ?_ | refine W.ld rfl rfl rfl rfl rfl ?_))
      refine W.sts rfl rfl rfl rfl rfl rfl ?_
      (repeat (first | refine W.ctl rfl ?_ | refine W.op rfl rfl rfl rfl ?_ | refine W.skip rfl rfl ?_ | refine W.fld rfl rfl rfl rfl rfl ?_ | refine W.ld rfl rfl rfl rfl rfl ?_))
      cases hb : (M.splitQ n).2.2.2 with
      | true =>
        (repeat (first | refine W.ctl rfl ?_ | refine W.op rfl rfl rfl rfl ?_ | refine W.skip rfl rfl ?_ | refine W.fld rfl rfl rfl rfl rfl ?_ | refine W.ld rfl rfl rfl rfl rfl ?_))
        refine W.meet (ya, yb) (by simp) ⟨rfl, rfl, rfl, rfl, rfl, rfl, rfl, rfl, trivial⟩ ?_
        simp only [boxN]
        exact Imp.all
      | false =>
        (repeat (first | refine W.ctl rfl ?_ | refine W.op rfl rfl rfl rfl ?_ | refine W.skip rfl rfl ?_ | refine W.fld rfl rfl rfl rfl rfl ?_ | refine W.ld rfl rfl rfl rfl rfl ?_))
        rw [if_pos ⟨hbig, hb⟩] at i7
        rw [← i7]
        refine W.ret2 (.inr rfl) rfl rfl rfl _ ⟨rfl, rfl⟩ Imp.all
    · rw [show decide ((240 : Int) < M.nsize n) = false from decide_eq_false (by omega)]
      have hsq : M.splitQ n = (n, 0, M.Node.zero, false) := by rw [M.splitQ, if_neg hbig]
      (repeat (first | refine W.ctl rfl ?_ | refine W.op rfl rfl rfl rfl ?_ | refine W.skip rfl rfl ?_ | refine W.fld rfl rfl rfl rfl rfl ?_ | refine W.ld rfl rfl rfl rfl rfl ?_))
      refine W.meet (y, ⟨none, 0, none, 0, none, 0⟩) (by simp [hbig]) ⟨rfl, rfl, rfl, rfl, rfl, by rw [hsq]; rfl, rfl, by rw [hsq]; rfl, trivial⟩ ?_
      rw [hsq]
      simp only [boxN, NodeB, M.Node.zero, sv, Option.map_none, List.length_nil, List.map_nil, slck_nil, emp_sep]
      exact Imp.all
  rintro ⟨ya, yb⟩ hns
  rw [if_neg hns] at i7
  obtain ⟨W1, hW1⟩ : ∃ W1, Y.lay s.m.at' (M.splitQ n).1 = W1 := ⟨_, rfl⟩
  rw [hW1] at i7
  dsimp only
  (repeat (first | refine W.ctl rfl ?_ | refine W.op rfl rfl rfl rfl ?_ | refine W.skip rfl rfl ?_ | refine W.fld rfl rfl rfl rfl rfl ?_ | refine W.ld rfl rfl rfl rfl rfl ?_))
  refine W.lds rfl rfl rfl rfl rfl ?_
  refine W.call (work_lay wp sp dp Y s.m.at' (M.splitQ n).1 ya sA sB i5 i6) rfl rfl rfl rfl Tryz.call66 ⟨rfl, rfl, rfl, trivial⟩ ?_
  rintro _ _ ⟨rfl, rfl⟩
  rw [hW1]
  obtain ⟨Y1, at1⟩ := W1
  have hmB := fun (x : Spot) => x
  clear hmB hns hW1
  obtain ⟨z, hz⟩ : ∃ z, M.splitQ n = z := ⟨_, rfl⟩
  rw [hz] at i7 sA sB sC sD sE ⊢
  clear hz
  obtain ⟨A, mid, B, sp'⟩ := z
  dsimp only at i7 sA sB sC sD sE ⊢
  simp only [WkH, NodeH, NodeB, sep_assoc', emp_sep]
  cases sp' with
  | false =>
    rw [if_neg (by simp)] at i7
    (repeat (first | refine W.ctl rfl ?_ | refine W.op rfl rfl rfl rfl ?_ | refine W.skip rfl rfl ?_ | refine W.fld rfl rfl rfl rfl rfl ?_ | refine W.ld rfl rfl rfl rfl rfl ?_))
    by_cases he1 : Y1.e ≠ 0
    · refine W.yes rfl rfl rfl rfl he1 ?_
      rw [if_pos he1] at i7
      (repeat (first | refine W.ctl rfl ?_ | refine W.op rfl rfl rfl rfl ?_ | refine W.skip rfl rfl ?_ | refine W.fld rfl rfl rfl rfl rfl ?_ | refine W.ld rfl rfl rfl rfl rfl ?_))
      refine W.draw (by kernel_rfl) (by kernel_rfl) ?_
      (repeat (first | refine W.ctl rfl ?_ | refine W.op rfl rfl rfl rfl ?_ | refine W.skip rfl rfl ?_ | refine W.fld rfl rfl rfl rfl rfl ?_ | refine W.ld rfl rfl rfl rfl rfl ?_))
      have ed : M.doneE Y1 0 = (0, Y1.e) := by rw [M.doneE, if_pos he1]
      rw [← i7]
      dsimp only
      rw [ed]
      exact W.ret2 (.inr rfl) rfl rfl rfl _ ⟨rfl, rfl⟩ Imp.all
    refine W.no rfl rfl rfl rfl he1 ?_
    rw [if_neg he1] at i7
    (repeat (first | refine W.ctl rfl ?_ | refine W.op rfl rfl rfl rfl ?_ | refine W.skip rfl rfl ?_ | refine W.fld rfl rfl rfl rfl rfl ?_ | refine W.ld rfl rfl rfl rfl rfl ?_))
    rcases List.eq_nil_or_concat q with rfl | ⟨q2, t, rfl⟩
    · refine W.call (stack_pop0 kp) rfl rfl rfl rfl Tryz.call62 ⟨rfl, trivial⟩ ?_
      rintro _ _ ⟨rfl, rfl⟩
      (repeat (first | refine W.ctl rfl ?_ | refine W.op rfl rfl rfl rfl ?_ | refine W.skip rfl rfl ?_ | refine W.fld rfl rfl rfl rfl rfl ?_ | refine W.ld rfl rfl rfl rfl rfl ?_))
      refine W.alc rfl rfl rfl rfl fun tb => ?_
      refine W.sts rfl rfl rfl rfl rfl rfl ?_
      (repeat (first | refine W.ctl rfl ?_ | refine W.op rfl rfl rfl rfl ?_ | refine W.skip rfl rfl ?_ | refine W.fld rfl rfl rfl rfl rfl ?_ | refine W.ld rfl rfl rfl rfl rfl ?_))
      have ed : M.doneE Y1 at1 = (at1, 0) := by rw [M.doneE, if_neg he1]
      simp only [List.map_nil, List.reverse_nil] at i7
      rw [← i7]
      dsimp only
      rw [ed]
      exact W.ret2 (.inr rfl) rfl rfl rfl _ ⟨rfl, rfl⟩ Imp.all
    · simp only [List.concat_eq_append, List.map_append, List.map_cons, List.map_nil, List.reverse_append, List.reverse_cons, List.reverse_nil, List.nil_append, List.cons_append] at i7 sos i4 ⊢
      obtain ⟨tok, tl⟩ := sos t (by simp)
      have tr := tok.right
      obtain ⟨q1, _, q3, _⟩ := right_bounds tr
      rw [tl, if_neg (by simp)] at q3
      have ti := tok.i
      refine W.call (stack_pop kp q2 t (by simp at i4; omega)) rfl rfl rfl rfl Tryz.call62 ⟨rfl, trivial⟩ ?_
      rintro _ _ ⟨rfl, rfl⟩
      rw [nodesH_snoc]
      simp only [NodeH, NodeB, sep_assoc', emp_sep]
      (repeat (first | refine W.ctl rfl ?_ | refine W.op rfl rfl rfl rfl ?_ | refine W.skip rfl rfl ?_ | refine W.fld rfl rfl rfl rfl rfl ?_ | refine W.ld rfl rfl rfl rfl rfl ?_))
      refine W.alc rfl rfl rfl rfl fun tb => ?_
      refine W.sts rfl rfl rfl rfl rfl rfl ?_
      (repeat (first | refine W.ctl rfl ?_ | refine W.op rfl rfl rfl rfl ?_ | refine W.skip rfl rfl ?_ | refine W.fld rfl rfl rfl rfl rfl ?_ | refine W.ld rfl rfl rfl rfl rfl ?_))
      refine W.anyh (f := 2) (fun _ => true) [0, 1, 2] (by kernel_rfl) (by kernel_rfl) (by kernel_rfl) (by kernel_rfl) rfl (row tb 118 t.cells) Imp.all ?_
      refine W.lds rfl rfl rfl rfl rfl ?_
      (repeat (first | refine W.ctl rfl ?_ | refine W.op rfl rfl rfl rfl ?_ | refine W.skip rfl rfl ?_ | refine W.fld rfl rfl rfl rfl rfl ?_ | refine W.ld rfl rfl rfl rfl rfl ?_))
      refine W.lds rfl rfl rfl rfl rfl ?_
      refine W.tdn ?_
      refine W.ald1 3 (by kernel_rfl) rfl ?_
      refine W.sts rfl rfl rfl rfl rfl rfl ?_
      refine W.aft Imp.all ?_
      refine W.ald1 4 (by kernel_rfl) rfl ?_
      refine W.sts rfl rfl rfl rfl rfl rfl ?_
      refine W.aft Imp.all (W.adn (by kernel_rfl) ?_)
      (repeat (first | refine W.ctl rfl ?_ | refine W.op rfl rfl rfl rfl ?_ | refine W.skip rfl rfl ?_ | refine W.fld rfl rfl rfl rfl rfl ?_ | refine W.ld rfl rfl rfl rfl rfl ?_))
      refine W.idxk rfl rfl rfl rfl rfl rfl (by omega) (by omega) ?_
      refine W.stk rfl rfl rfl rfl rfl (by simp; omega) ?_
      rw [Int.toNat_natCast, Nat.mul_one]
      (repeat (first | refine W.ctl rfl ?_ | refine W.op rfl rfl rfl rfl ?_ | refine W.skip rfl rfl ?_ | refine W.fld rfl rfl rfl rfl rfl ?_ | refine W.ld rfl rfl rfl rfl rfl ?_))
      refine W.again (Y1, q2, t, { t.m.n with kids := t.m.n.kids.set t.m.i at1 }, t.y) ⟨by simpa using he1, set_mid (mid_right tr tok.kb), fun u hu => sos u (by simp [hu]), by simp at i4; dsimp only; omega, tok.a0, tok.a1, i7⟩ (by simp) ⟨rfl, rfl, rfl, rfl, trivial⟩ ?_
      simp only [PutI, boxN, NodeB, List.length_set, List.map_set]
      exact Imp.all
  | true =>
    rw [if_pos rfl] at i7
    (repeat (first | refine W.ctl rfl ?_ | refine W.op rfl rfl rfl rfl ?_ | refine W.skip rfl rfl ?_ | refine W.fld rfl rfl rfl rfl rfl ?_ | refine W.ld rfl rfl rfl rfl rfl ?_))
    by_cases he1 : Y1.e ≠ 0
    · refine W.no rfl rfl rfl rfl he1 ?_
      rw [if_pos he1] at i7
      (repeat (first | refine W.ctl rfl ?_ | refine W.op rfl rfl rfl rfl ?_ | refine W.skip rfl rfl ?_ | refine W.fld rfl rfl rfl rfl rfl ?_ | refine W.ld rfl rfl rfl rfl rfl ?_))
      refine W.yes rfl rfl rfl rfl he1 ?_
      (repeat (first | refine W.ctl rfl ?_ | refine W.op rfl rfl rfl rfl ?_ | refine W.skip rfl rfl ?_ | refine W.fld rfl rfl rfl rfl rfl ?_ | refine W.ld rfl rfl rfl rfl rfl ?_))
      refine W.draw (by kernel_rfl) (by kernel_rfl) ?_
      (repeat (first | refine W.ctl rfl ?_ | refine W.op rfl rfl rfl rfl ?_ | refine W.skip rfl rfl ?_ | refine W.fld rfl rfl rfl rfl rfl ?_ | refine W.ld rfl rfl rfl rfl rfl ?_))
      have ed : M.doneE Y1 0 = (0, Y1.e) := by rw [M.doneE, if_pos he1]
      rw [← i7]
      dsimp only
      rw [ed]
      exact W.ret2 (.inr rfl) rfl rfl rfl _ ⟨rfl, rfl⟩ Imp.all
    refine W.yes rfl rfl rfl rfl (by simpa using he1) ?_
    rw [if_neg he1] at i7
    (repeat (first | refine W.ctl rfl ?_ | refine W.op rfl rfl rfl rfl ?_ | refine W.skip rfl rfl ?_ | refine W.fld rfl rfl rfl rfl rfl ?_ | refine W.ld rfl rfl rfl rfl rfl ?_))
    refine W.lds rfl rfl rfl rfl rfl ?_
    refine W.call (work_fresh wp sp dp Y1 B yb sC sD) rfl rfl rfl rfl Tryz.call60 ⟨rfl, rfl, trivial⟩ ?_
    rintro _ _ ⟨rfl, rfl⟩
    obtain ⟨W2, hW2⟩ : ∃ W2, Y1.fresh B = W2 := ⟨_, rfl⟩
    rw [hW2] at i7 ⊢
    obtain ⟨Y2, at2⟩ := W2
    dsimp only at i7 ⊢
    simp only [WkH, NodeH, NodeB, sep_assoc', emp_sep]
    (repeat (first | refine W.ctl rfl ?_ | refine W.op rfl rfl rfl rfl ?_ | refine W.skip rfl rfl ?_ | refine W.fld rfl rfl rfl rfl rfl ?_ | refine W.ld rfl rfl rfl rfl rfl ?_))
    by_cases he2 : Y2.e ≠ 0
    · refine W.yes rfl rfl rfl rfl he2 ?_
      rw [if_pos he2] at i7
      (repeat (first | refine W.ctl rfl ?_ | refine W.op rfl rfl rfl rfl ?_ | refine W.skip rfl rfl ?_ | refine W.fld rfl rfl rfl rfl rfl ?_ | refine W.ld rfl rfl rfl rfl rfl ?_))
      refine W.draw (by kernel_rfl) (by kernel_rfl) ?_
      (repeat (first | refine W.ctl rfl ?_ | refine W.op rfl rfl rfl rfl ?_ | refine W.skip rfl rfl ?_ | refine W.fld rfl rfl rfl rfl rfl ?_ | refine W.ld rfl rfl rfl rfl rfl ?_))
      have ed : M.doneE Y2 0 = (0, Y2.e) := by rw [M.doneE, if_pos he2]
      rw [← i7]
      dsimp only
      rw [ed]
      exact W.ret2 (.inr rfl) rfl rfl rfl _ ⟨rfl, rfl⟩ Imp.all
    refine W.no rfl rfl rfl rfl he2 ?_
    rw [if_neg he2] at i7
    (repeat (first | refine W.ctl rfl ?_ | refine W.op rfl rfl rfl rfl ?_ | refine W.skip rfl rfl ?_ | refine W.fld rfl rfl rfl rfl rfl ?_ | refine W.ld rfl rfl rfl rfl rfl ?_))
    rcases List.eq_nil_or_concat q with rfl | ⟨q2, t, rfl⟩
    · refine W.call (stack_pop0 kp) rfl rfl rfl rfl Tryz.call62 ⟨rfl, trivial⟩ ?_
      rintro _ _ ⟨rfl, rfl⟩
      (repeat (first | refine W.ctl rfl ?_ | refine W.op rfl rfl rfl rfl ?_ | refine W.skip rfl rfl ?_ | refine W.fld rfl rfl rfl rfl rfl ?_ | refine W.ld rfl rfl rfl rfl rfl ?_))
      refine W.alc rfl rfl rfl rfl fun tb => ?_
      refine W.sts rfl rfl rfl rfl rfl rfl ?_
      (repeat (first | refine W.ctl rfl ?_ | refine W.op rfl rfl rfl rfl ?_ | refine W.skip rfl rfl ?_ | refine W.fld rfl rfl rfl rfl rfl ?_ | refine W.ld rfl rfl rfl rfl rfl ?_))
      refine W.bsl (vs := [_]) rfl rfl rfl rfl ⟨rfl, rfl, trivial⟩ rfl rfl rfl fun g1 => ?_
      (repeat (first | refine W.ctl rfl ?_ | refine W.op rfl rfl rfl rfl ?_ | refine W.skip rfl rfl ?_ | refine W.fld rfl rfl rfl rfl rfl ?_ | refine W.ld rfl rfl rfl rfl rfl ?_))
      refine W.bsl (vs := [_, _]) rfl rfl rfl rfl ⟨rfl, rfl, rfl, rfl, trivial⟩ rfl rfl rfl fun g2 => ?_
      refine W.bld rfl rfl rfl rfl rfl ?_
      simp only [List.map_nil, List.reverse_nil] at i7
      obtain ⟨N, hN⟩ : ∃ N : M.Node, N = ⟨false, [mid], [], [at1, at2]⟩ := ⟨_, rfl⟩
      have hNB' : NB N := by rw [hN]; exact ⟨by simp, by simp, by simp, fun v hv => by simp at hv⟩
      have hKB' : KB N := by rw [hN]; intro k hk; simp at hk; omega
      rw [← hN] at i7
      refine W.imp (H' := WkH wp sp dp Y2 • NodeH N ⟨some g1, 1, none, 0, some g2, 2⟩ • R) rfl ?_ ?_
      · rw [hN]
        have s1 := sk_row g1 35 [u64 mid] 1 rfl (by omega)
        have s2 := sk_row g2 3 [int at1, int at2] 2 rfl (by omega)
        simp only [WkH, NodeH, NodeB, sep_assoc', emp_sep, List.length_cons, List.length_nil, List.map_cons, List.map_nil, skv_nil]
        exact Imp.trans (Imp.pack (K := row g2 3 [int at1, int at2] • WkR wp sp Y2 • StoreP sp dp Y2.s • R) s1 Imp.all) (Imp.trans (Imp.pack (K := slck 1 35 (sv (some g1) 1 1) 1 [u64 mid] • WkR wp sp Y2 • StoreP sp dp Y2.s • R) s2 Imp.all) Imp.all)
      refine W.call (work_fresh wp sp dp Y2 N ⟨some g1, 1, none, 0, some g2, 2⟩ hNB' hKB') rfl rfl rfl rfl Tryz.call60 (by rw [hN]; exact ⟨rfl, rfl, trivial⟩) ?_
      rintro _ _ ⟨rfl, rfl⟩
      simp only [WkH, sep_assoc']
      (repeat (first | refine W.ctl rfl ?_ | refine W.op rfl rfl rfl rfl ?_ | refine W.skip rfl rfl ?_ | refine W.fld rfl rfl rfl rfl rfl ?_ | refine W.ld rfl rfl rfl rfl rfl ?_))
      refine W.call (work_done wp sp (Y2.fresh N).1 (Y2.fresh N).2) rfl rfl rfl rfl Tryz.call59 ⟨rfl, rfl, trivial⟩ ?_
      rintro _ _ ⟨rfl, rfl⟩
      (repeat (first | refine W.ctl rfl ?_ | refine W.op rfl rfl rfl rfl ?_ | refine W.skip rfl rfl ?_ | refine W.fld rfl rfl rfl rfl rfl ?_ | refine W.ld rfl rfl rfl rfl rfl ?_))
      rw [← i7]
      exact W.ret2 (.inr rfl) rfl rfl rfl _ ⟨rfl, rfl⟩ Imp.all
    · simp only [List.concat_eq_append, List.map_append, List.map_cons, List.map_nil, List.reverse_append, List.reverse_cons, List.reverse_nil, List.nil_append, List.cons_append] at i7 sos i4 ⊢
      obtain ⟨tok, tl⟩ := sos t (by simp)
      have tr := tok.right
      obtain ⟨q1, _, q3, _⟩ := right_bounds tr
      rw [tl, if_neg (by simp)] at q3
      have ti := tok.i
      refine W.call (stack_pop kp q2 t (by simp at i4; omega)) rfl rfl rfl rfl Tryz.call62 ⟨rfl, trivial⟩ ?_
      rintro _ _ ⟨rfl, rfl⟩
      obtain ⟨at1', hat1'⟩ : ∃ a, at1 = a := ⟨_, rfl⟩
      rw [nodesH_snoc]
      simp only [NodeH, NodeB, sep_assoc', emp_sep]
      (repeat (first | refine W.ctl rfl ?_ | refine W.op rfl rfl rfl rfl ?_ | refine W.skip rfl rfl ?_ | refine W.fld rfl rfl rfl rfl rfl ?_ | refine W.ld rfl rfl rfl rfl rfl ?_))
      refine W.alc rfl rfl rfl rfl fun tb => ?_
      refine W.sts rfl rfl rfl rfl rfl rfl ?_
      (repeat (first | refine W.ctl rfl ?_ | refine W.op rfl rfl rfl rfl ?_ | refine W.skip rfl rfl ?_ | refine W.fld rfl rfl rfl rfl rfl ?_ | refine W.ld rfl rfl rfl rfl rfl ?_))
      refine W.anyh (f := 2) (fun _ => true) [0, 1, 2] (by kernel_rfl) (by kernel_rfl) (by kernel_rfl) (by kernel_rfl) rfl (row tb 118 t.cells) Imp.all ?_
      refine W.lds rfl rfl rfl rfl rfl ?_
      (repeat (first | refine W.ctl rfl ?_ | refine W.op rfl rfl rfl rfl ?_ | refine W.skip rfl rfl ?_ | refine W.fld rfl rfl rfl rfl rfl ?_ | refine W.ld rfl rfl rfl rfl rfl ?_))
      refine W.lds rfl rfl rfl rfl rfl ?_
      refine W.tdn ?_
      refine W.ald1 3 (by kernel_rfl) rfl ?_
      refine W.sts rfl rfl rfl rfl rfl rfl ?_
      refine W.aft Imp.all ?_
      refine W.ald1 4 (by kernel_rfl) rfl ?_
      refine W.sts rfl rfl rfl rfl rfl rfl ?_
      refine W.aft Imp.all (W.adn (by kernel_rfl) ?_)
      (repeat (first | refine W.ctl rfl ?_ | refine W.op rfl rfl rfl rfl ?_ | refine W.skip rfl rfl ?_ | refine W.fld rfl rfl rfl rfl rfl ?_ | refine W.ld rfl rfl rfl rfl rfl ?_))
      refine W.idxk rfl rfl rfl rfl rfl rfl (by omega) (by omega) ?_
      refine W.stk rfl rfl rfl rfl rfl (by simp; omega) ?_
      rw [Int.toNat_natCast, Nat.mul_one]
      (repeat (first | refine W.ctl rfl ?_ | refine W.op rfl rfl rfl rfl ?_ | refine W.skip rfl rfl ?_ | refine W.fld rfl rfl rfl rfl rfl ?_ | refine W.ld rfl rfl rfl rfl rfl ?_))
      refine W.lds rfl rfl rfl rfl rfl ?_
      (repeat (first | refine W.ctl rfl ?_ | refine W.op rfl rfl rfl rfl ?_ | refine W.skip rfl rfl ?_ | refine W.fld rfl rfl rfl rfl rfl ?_ | refine W.ld rfl rfl rfl rfl rfl ?_))
      obtain ⟨n2, hn2⟩ : ∃ n2 : M.Node, n2 = { t.m.n with kids := t.m.n.kids.set t.m.i at1 } := ⟨_, rfl⟩
      have hm2 : Mid n2 := by rw [hn2]; exact set_mid (mid_right tr tok.kb)
      have hl2 : n2.leaf = false := by rw [hn2]; exact tl
      have hk2 : n2.keys = t.m.n.keys := by rw [hn2]
      rw [← hn2] at i7
      refine W.imp (H' := NodeH n2 t.y • row xb 118 t.cells • row nb 114 [Value.bool t.m.n.leaf, sv t.y.ka t.m.n.keys.length t.y.kc, sv t.y.va t.m.n.vals.length t.y.vc, sv t.y.da t.m.n.kids.length t.y.dc] • WkR wp sp Y2 • StoreP sp dp Y2.s • Stk kp q2 • nodesH q2 • R) rfl ?_ ?_
      · rw [hn2]
        simp only [NodeH, NodeB, List.length_set, List.map_set, sep_assoc', emp_sep]
        exact Imp.all
      refine W.call (node_Hang n2 t.y t.m.i mid at2 hm2.nb hl2 (by rw [hk2]; exact ti)) rfl rfl rfl rfl Tryz.call67 (by rw [hn2]; simp only [nodeV, List.length_set]; exact ⟨rfl, rfl, rfl, rfl, trivial⟩) ?_
      rintro _ _ ⟨y', rfl, rfl⟩
      simp only [NodeH, NodeB, sep_assoc', emp_sep]
      refine W.sts rfl rfl rfl rfl rfl rfl ?_
      (repeat (first | refine W.ctl rfl ?_ | refine W.op rfl rfl rfl rfl ?_ | refine W.skip rfl rfl ?_ | refine W.fld rfl rfl rfl rfl rfl ?_ | refine W.ld rfl rfl rfl rfl rfl ?_))
      refine W.again (Y2, q2, t, M.nhang n2 t.m.i mid at2, y') ⟨by simpa using he2, nhang_mid hm2 (by rw [hk2]; omega) hl2 (by rw [hk2]; exact ti) sE, fun u hu => sos u (by simp [hu]), by simp at i4; dsimp only; omega, tok.a0, tok.a1, i7⟩ (by simp) ⟨rfl, rfl, rfl, rfl, trivial⟩ ?_
      simp only [PutI, boxN, NodeB]
      exact Imp.all
end Go.Proofs.YtbdhhedfplkidaaGreat
/- The plain model, fifth part: transactions; the clock. -/
namespace Go.Proofs.YtbdhhedfplkidaaGreat.M
structure Txn where
  s : Store
  root : Int
  e : Int
  over : Bool
def Txn.get (t : Txn) (key : Nat) : Txn × Str × Bool :=
  if t.over = true ∨ t.e ≠ 0 then (t, [], false) else
  let r := treeGet t.s t.root key
  ({ t with s := r.1, e := r.2.2.2 }, r.2.1, r.2.2.1 && decide (r.2.2.2 = 0))
def Txn.put (t : Txn) (key : Nat) (value : Str) : Txn × Bool :=
  if value.length > 40 then (t, false) else
  if t.over = true ∨ t.e ≠ 0 then (t, false) else
  let r := treePut t.s t.root key value
  ({ t with s := r.1, root := if r.2.2 = 0 then r.2.1 else t.root, e := r.2.2 }, decide (r.2.2 = 0))
def Txn.begin (s : Store) : Txn := ⟨s.rollback, s.root, 0, false⟩
/-! lease: the clock -/
def clockKey : Nat := (spaceKey 9 0 4).1
def clock (t : Txn) : Txn × Int × Int :=
  let r := t.get clockKey
  if r.2.2 = false then (r.1, 0, r.1.e) else
  let q := take r.2.1 4
  if q.2.2 ≠ 0 ∨ q.2.1 ≠ [] ∨ (q.1 : Int) > 268435455 then (r.1, 0, 2) else (r.1, q.1, 0)
def tick (t : Txn) (n : Int) : Txn × Int × Int :=
  if t.e ≠ 0 then (t, 0, t.e) else
  if n < 0 then (t, 0, 1) else
  let r := clock t
  if r.2.2 ≠ 0 then (r.1, 0, r.2.2) else
  if n > 268435455 - r.2.1 then (r.1, 0, 12) else
  let p := r.1.put clockKey (put (r.2.1 + n).toNat 4).1
  if p.2 = false then (p.1, 0, p.1.e) else (p.1, r.2.1 + n, 0)
/-! beginnings -/
def Disk.new (n : Nat) : Disk := ⟨List.replicate n (List.replicate 256 0), [], [], -1, false⟩
def noneUsed : Str := List.replicate 80 0
def format (d : Disk) : Disk × Int := headLay d 1 0 noneUsed
end Go.Proofs.YtbdhhedfplkidaaGreat.M
/- Transactions; the clock. -/
namespace Go.Proofs.YtbdhhedfplkidaaGreat
open Go
open M (Str Store Work Spot Txn)
set_option maxHeartbeats 1000000
set_option maxRecDepth 2000
abbrev TxnR (tp sp : Nat) (root e : Int) (ov : Bool) : HProp := row tp 165 [ptr sp, int root, int e, .bool ov]
abbrev TxnH (tp sp dp : Nat) (T : Txn) : HProp := TxnR tp sp T.root T.e T.over • StoreP sp dp T.s
theorem txn_Err (tp sp : Nat) (root e : Int) (ov : Bool) : CS 38 [ptr tp] (TxnR tp sp root e ov) fun v H' => v = int e ∧ H' = TxnR tp sp root e ov := by
  refine CS.walk Tryz.func38 rfl Tryz.ntmps38 rfl fun c R => ?_
  (repeat (first | refine W.ctl rfl ?_ | refine W.op rfl rfl rfl rfl ?_ | refine W.skip rfl rfl ?_ | refine W.fld rfl rfl rfl rfl rfl ?_ | refine W.ld rfl rfl rfl rfl rfl ?_))
  exact W.ret1 (.inr rfl) rfl rfl _ ⟨rfl, rfl⟩ Imp.all
theorem txn_does_no (tp sp : Nat) (root e : Int) (ov : Bool) (fv : Value) (h : ov = true ∨ e ≠ 0) : CS 85 [ptr tp, fv] (TxnR tp sp root e ov) fun v H' => v = .bool false ∧ H' = TxnR tp sp root e ov := by
  refine CS.walk Tryz.func85 rfl Tryz.ntmps85 rfl fun c R => ?_
  cases ov with
  | true =>
    (repeat (first | refine W.ctl rfl ?_ | refine W.op rfl rfl rfl rfl ?_ | refine W.skip rfl rfl ?_ | refine W.fld rfl rfl rfl rfl rfl ?_ | refine W.ld rfl rfl rfl rfl rfl ?_))
    exact W.ret1 (.inr rfl) rfl rfl _ ⟨rfl, rfl⟩ Imp.all
  | false =>
    (repeat (first | refine W.ctl rfl ?_ | refine W.op rfl rfl rfl rfl ?_ | refine W.skip rfl rfl ?_ | refine W.fld rfl rfl rfl rfl rfl ?_ | refine W.ld rfl rfl rfl rfl rfl ?_))
    refine W.yes rfl rfl rfl rfl (by simpa using h) ?_
    (repeat (first | refine W.ctl rfl ?_ | refine W.op rfl rfl rfl rfl ?_ | refine W.skip rfl rfl ?_ | refine W.fld rfl rfl rfl rfl rfl ?_ | refine W.ld rfl rfl rfl rfl rfl ?_))
    exact W.ret1 (.inr rfl) rfl rfl _ ⟨rfl, rfl⟩ Imp.all
theorem txn_does (tp sp : Nat) (root root' e2 : Int) (ok : Bool) (f : FuncId) (caps : List Value) (A A' : HProp) (hc : ∀ (args : Array Value) (w : World), (callFunc f args).run Pg w = .ok (.enter f args) w)
    (h : CS f caps (TxnR tp sp root 0 false • A) fun v H' => v = .tuple #[.bool ok, int e2] ∧ H' = (TxnR tp sp root' 0 false • A')) :
    CS 85 [ptr tp, .func (.func f) #[] caps.toArray] (TxnR tp sp root 0 false • A) fun v H' => v = .bool (ok && decide (e2 = 0)) ∧ H' = (TxnR tp sp root' e2 false • A') := by
  refine CS.walk Tryz.func85 rfl Tryz.ntmps85 rfl fun c R => ?_
  simp only [sep_assoc']
  (repeat (first | refine W.ctl rfl ?_ | refine W.op rfl rfl rfl rfl ?_ | refine W.skip rfl rfl ?_ | refine W.fld rfl rfl rfl rfl rfl ?_ | refine W.ld rfl rfl rfl rfl rfl ?_))
  refine W.no rfl rfl rfl rfl (by simp) ?_
  (repeat (first | refine W.ctl rfl ?_ | refine W.op rfl rfl rfl rfl ?_ | refine W.skip rfl rfl ?_ | refine W.fld rfl rfl rfl rfl rfl ?_ | refine W.ld rfl rfl rfl rfl rfl ?_))
  refine W.callv (vs := []) (caps := caps) h rfl rfl rfl rfl rfl hc trivial ?_
  rintro _ _ ⟨rfl, rfl⟩
  simp only [sep_assoc']
  (repeat (first | refine W.ctl rfl ?_ | refine W.op rfl rfl rfl rfl ?_ | refine W.skip rfl rfl ?_ | refine W.fld rfl rfl rfl rfl rfl ?_ | refine W.ld rfl rfl rfl rfl rfl ?_))
  refine W.st (v := int e2) rfl rfl rfl rfl rfl ?_
  cases ok with
  | true =>
    (repeat (first | refine W.ctl rfl ?_ | refine W.op rfl rfl rfl rfl ?_ | refine W.skip rfl rfl ?_ | refine W.fld rfl rfl rfl rfl rfl ?_ | refine W.ld rfl rfl rfl rfl rfl ?_))
    refine W.cmp (v := .bool (decide (e2 = 0))) rfl rfl rfl rfl ?_
    (repeat (first | refine W.ctl rfl ?_ | refine W.op rfl rfl rfl rfl ?_ | refine W.skip rfl rfl ?_ | refine W.fld rfl rfl rfl rfl rfl ?_ | refine W.ld rfl rfl rfl rfl rfl ?_))
    rw [Bool.true_and]
    exact W.ret1 (.inr rfl) rfl rfl _ ⟨rfl, rfl⟩ Imp.all
  | false =>
    (repeat (first | refine W.ctl rfl ?_ | refine W.op rfl rfl rfl rfl ?_ | refine W.skip rfl rfl ?_ | refine W.fld rfl rfl rfl rfl rfl ?_ | refine W.ld rfl rfl rfl rfl rfl ?_))
    rw [Bool.false_and]
    exact W.ret1 (.inr rfl) rfl rfl _ ⟨rfl, rfl⟩ Imp.all
theorem txn_Get1 (tp sp dp b2 b3 b4 : Nat) (S : Store) (root : Int) (key : Nat) (v0 : Value) (r0 : -9223372036854775808 ≤ root) (r1 : root < 9223372036854775808) : CS 87 [ptr b2, ptr b3, ptr b4]
    (TxnR tp sp root 0 false • StoreP sp dp S • row b2 24 [ptr tp] • row b3 35 [u64 key] • row b4 9 [v0])
    fun v H' => v = .tuple #[.bool (M.treeGet S root key).2.2.1, int (M.treeGet S root key).2.2.2] ∧ H' = (TxnR tp sp root 0 false • StoreP sp dp (M.treeGet S root key).1 • row b2 24 [ptr tp] • row b3 35 [u64 key] • row b4 9 [str (M.treeGet S root key).2.1]) := by
  refine CS.walk Tryz.func87 rfl Tryz.ntmps87 rfl fun c R => ?_
  simp only [sep_assoc']
  (repeat (first | refine W.ctl rfl ?_ | refine W.op rfl rfl rfl rfl ?_ | refine W.skip rfl rfl ?_ | refine W.fld rfl rfl rfl rfl rfl ?_ | refine W.ld rfl rfl rfl rfl rfl ?_))
  refine W.anyh (f := 8) (fun _ => true) [0, 1, 2, 3, 4, 5, 6, 7, 8] (by kernel_rfl) (by kernel_rfl) (by kernel_rfl) (by kernel_rfl) rfl (TxnR tp sp root 0 false • row b2 24 [ptr tp] • row b3 35 [u64 key]) Imp.all ?_
  (repeat (first | refine W.ctl rfl ?_ | refine W.op rfl rfl rfl rfl ?_ | refine W.skip rfl rfl ?_ | refine W.fld rfl rfl rfl rfl rfl ?_ | refine W.ld rfl rfl rfl rfl rfl ?_))
  refine W.tdn ?_
  refine W.ald1 9 (by kernel_rfl) rfl ?_
  refine W.call (tree_Get sp dp S root key r0 r1) rfl rfl rfl rfl Tryz.call27 ⟨rfl, rfl, rfl, trivial⟩ ?_
  rintro _ _ ⟨rfl, rfl⟩
  refine W.aft Imp.all ?_
  refine W.atk (f := 3) [10, 11, 12, 13] (by kernel_rfl) (by kernel_rfl) (by kernel_rfl) rfl Imp.all ?_
  (repeat (first | refine W.ctl rfl ?_ | refine W.op rfl rfl rfl rfl ?_ | refine W.skip rfl rfl ?_ | refine W.fld rfl rfl rfl rfl rfl ?_ | refine W.ld rfl rfl rfl rfl rfl ?_))
  refine W.tdn ?_
  refine W.ald1 14 (by kernel_rfl) rfl ?_
  refine W.st (v := str (M.treeGet S root key).2.1) rfl rfl rfl rfl rfl ?_
  refine W.aft Imp.all ?_
  refine W.ald1 15 (by kernel_rfl) rfl ?_
  (repeat (first | refine W.ctl rfl ?_ | refine W.op rfl rfl rfl rfl ?_ | refine W.skip rfl rfl ?_))
  refine W.aft Imp.all ?_
  refine W.ald1 16 (by kernel_rfl) rfl ?_
  (repeat (first | refine W.ctl rfl ?_ | refine W.op rfl rfl rfl rfl ?_ | refine W.skip rfl rfl ?_))
  refine W.aft Imp.all (W.adn (by kernel_rfl) ?_)
  (repeat (first | refine W.ctl rfl ?_ | refine W.op rfl rfl rfl rfl ?_ | refine W.skip rfl rfl ?_ | refine W.fld rfl rfl rfl rfl rfl ?_ | refine W.ld rfl rfl rfl rfl rfl ?_))
  exact W.ret2 (.inr rfl) rfl rfl rfl _ ⟨rfl, rfl⟩ Imp.all
theorem txn_Get (tp sp dp : Nat) (T : Txn) (key : Nat) (r0 : -9223372036854775808 ≤ T.root) (r1 : T.root < 9223372036854775808) : CS 39 [ptr tp, u64 key] (TxnH tp sp dp T)
    fun v H' => v = .tuple #[str (T.get key).2.1, .bool (T.get key).2.2] ∧ H' = TxnH tp sp dp (T.get key).1 := by
  refine CS.walk Tryz.func39 rfl Tryz.ntmps39 rfl fun c R => ?_
  simp only [TxnH, sep_assoc']
  (repeat (first | refine W.ctl rfl ?_ | refine W.op rfl rfl rfl rfl ?_ | refine W.skip rfl rfl ?_ | refine W.fld rfl rfl rfl rfl rfl ?_ | refine W.ld rfl rfl rfl rfl rfl ?_))
  refine W.box rfl rfl rfl rfl rfl fun b2 => ?_
  refine W.box rfl rfl rfl rfl rfl fun b3 => ?_
  refine W.alc rfl rfl rfl rfl fun b4 => ?_
  (repeat (first | refine W.ctl rfl ?_ | refine W.op rfl rfl rfl rfl ?_ | refine W.skip rfl rfl ?_ | refine W.fld rfl rfl rfl rfl rfl ?_ | refine W.ld rfl rfl rfl rfl rfl ?_))
  refine W.mkf (vs := [ptr b2, ptr b3, ptr b4]) rfl rfl rfl rfl ⟨rfl, rfl, rfl, trivial⟩ ?_
  by_cases h : T.over = true ∨ T.e ≠ 0
  · have e : T.get key = (T, [], false) := by rw [Txn.get, if_pos h]
    rw [e]
    refine W.call (txn_does_no tp sp T.root T.e T.over _ h) rfl rfl rfl rfl Tryz.call85 ⟨rfl, rfl, trivial⟩ ?_
    rintro _ _ ⟨rfl, rfl⟩
    (repeat (first | refine W.ctl rfl ?_ | refine W.op rfl rfl rfl rfl ?_ | refine W.skip rfl rfl ?_ | refine W.fld rfl rfl rfl rfl rfl ?_ | refine W.ld rfl rfl rfl rfl rfl ?_))
    refine W.st rfl rfl rfl rfl rfl ?_
    (repeat (first | refine W.ctl rfl ?_ | refine W.op rfl rfl rfl rfl ?_ | refine W.skip rfl rfl ?_ | refine W.fld rfl rfl rfl rfl rfl ?_ | refine W.ld rfl rfl rfl rfl rfl ?_))
    refine W.rets (.inr rfl) rfl (.cons (RV1.cell rfl) (.cons (RV1.tmp rfl) .nil)) _ ⟨rfl, rfl⟩ ?_
    simp only [sep_assoc']
    exact Imp.all
  · have e : T.get key = ({ T with s := (M.treeGet T.s T.root key).1, e := (M.treeGet T.s T.root key).2.2.2 }, (M.treeGet T.s T.root key).2.1, (M.treeGet T.s T.root key).2.2.1 && decide ((M.treeGet T.s T.root key).2.2.2 = 0)) := by rw [Txn.get, if_neg h]
    obtain ⟨S, root, e0, ov⟩ := T
    simp only [not_or, Decidable.not_not, Bool.not_eq_true] at h
    obtain ⟨rfl, rfl⟩ := h
    dsimp only at e r0 r1 ⊢
    rw [e]
    refine W.call (txn_does tp sp root root (M.treeGet S root key).2.2.2 (M.treeGet S root key).2.2.1 87 [ptr b2, ptr b3, ptr b4] _ _ Tryz.call87 (txn_Get1 tp sp dp b2 b3 b4 S root key (.string { data := #[] }) r0 r1)) rfl rfl rfl rfl Tryz.call85 ⟨rfl, rfl, trivial⟩ ?_
    rintro _ _ ⟨rfl, rfl⟩
    simp only [sep_assoc']
    (repeat (first | refine W.ctl rfl ?_ | refine W.op rfl rfl rfl rfl ?_ | refine W.skip rfl rfl ?_ | refine W.fld rfl rfl rfl rfl rfl ?_ | refine W.ld rfl rfl rfl rfl rfl ?_))
    refine W.st rfl rfl rfl rfl rfl ?_
    (repeat (first | refine W.ctl rfl ?_ | refine W.op rfl rfl rfl rfl ?_ | refine W.skip rfl rfl ?_ | refine W.fld rfl rfl rfl rfl rfl ?_ | refine W.ld rfl rfl rfl rfl rfl ?_))
    refine W.rets (.inr rfl) rfl (.cons (RV1.cell rfl) (.cons (RV1.tmp rfl) .nil)) _ ⟨rfl, rfl⟩ ?_
    simp only [sep_assoc']
    exact Imp.all
theorem txn_Put1 (tp sp dp b2 b3 b4 : Nat) (S : Store) (root : Int) (key : Nat) (value : Str) (r0 : -9223372036854775808 ≤ root) (r1 : root < 9223372036854775808) (hk : key < 18446744073709551616) (hv : value.length < 9223372036854775808) : CS 86 [ptr b2, ptr b3, ptr b4]
    (TxnR tp sp root 0 false • StoreP sp dp S • row b2 24 [ptr tp] • row b3 35 [u64 key] • row b4 9 [str value])
    fun v H' => v = .tuple #[.bool true, int (M.treePut S root key value).2.2] ∧ H' = (TxnR tp sp (if (M.treePut S root key value).2.2 = 0 then (M.treePut S root key value).2.1 else root) 0 false • StoreP sp dp (M.treePut S root key value).1 • row b2 24 [ptr tp] • row b3 35 [u64 key] • row b4 9 [str value]) := by
  refine CS.walk Tryz.func86 rfl Tryz.ntmps86 rfl fun c R => ?_
  simp only [sep_assoc']
  (repeat (first | refine W.ctl rfl ?_ | refine W.op rfl rfl rfl rfl ?_ | refine W.skip rfl rfl ?_ | refine W.fld rfl rfl rfl rfl rfl ?_ | refine W.ld rfl rfl rfl rfl rfl ?_))
  refine W.anyh (f := 6) (fun _ => true) [0, 1, 2, 3, 4, 5, 6, 7, 8, 9] (by kernel_rfl) (by kernel_rfl) (by kernel_rfl) (by kernel_rfl) rfl (TxnR tp sp root 0 false • row b2 24 [ptr tp] • row b3 35 [u64 key] • row b4 9 [str value]) Imp.all ?_
  (repeat (first | refine W.ctl rfl ?_ | refine W.op rfl rfl rfl rfl ?_ | refine W.skip rfl rfl ?_ | refine W.fld rfl rfl rfl rfl rfl ?_ | refine W.ld rfl rfl rfl rfl rfl ?_))
  refine W.tdn ?_
  refine W.ald1 10 (by kernel_rfl) rfl ?_
  refine W.call (tree_Put sp dp S root key value r0 r1 hk hv) rfl rfl rfl rfl Tryz.call21 ⟨rfl, rfl, rfl, rfl, trivial⟩ ?_
  rintro _ _ ⟨rfl, rfl⟩
  refine W.aft Imp.all ?_
  refine W.atk (f := 2) [11, 12, 13] (by kernel_rfl) (by kernel_rfl) (by kernel_rfl) rfl Imp.all ?_
  (repeat (first | refine W.ctl rfl ?_ | refine W.op rfl rfl rfl rfl ?_ | refine W.skip rfl rfl ?_ | refine W.fld rfl rfl rfl rfl rfl ?_ | refine W.ld rfl rfl rfl rfl rfl ?_))
  refine W.tdn ?_
  refine W.ald1 14 (by kernel_rfl) rfl ?_
  (repeat (first | refine W.ctl rfl ?_ | refine W.op rfl rfl rfl rfl ?_ | refine W.skip rfl rfl ?_))
  refine W.aft Imp.all ?_
  refine W.ald1 15 (by kernel_rfl) rfl ?_
  (repeat (first | refine W.ctl rfl ?_ | refine W.op rfl rfl rfl rfl ?_ | refine W.skip rfl rfl ?_))
  refine W.aft Imp.all (W.adn (by kernel_rfl) ?_)
  refine W.keep [(0, ptr b2), (1, ptr b3), (2, ptr b4), (5, int (M.treePut S root key value).2.1), (6, int (M.treePut S root key value).2.2)] ⟨rfl, rfl, rfl, rfl, rfl, trivial⟩ ?_
  (repeat (first | refine W.ctl rfl ?_ | refine W.op rfl rfl rfl rfl ?_ | refine W.skip rfl rfl ?_ | refine W.fld rfl rfl rfl rfl rfl ?_ | refine W.ld rfl rfl rfl rfl rfl ?_))
  by_cases h : (M.treePut S root key value).2.2 = 0
  · refine W.yes rfl rfl rfl rfl h ?_
    (repeat (first | refine W.ctl rfl ?_ | refine W.op rfl rfl rfl rfl ?_ | refine W.skip rfl rfl ?_ | refine W.fld rfl rfl rfl rfl rfl ?_ | refine W.ld rfl rfl rfl rfl rfl ?_))
    refine W.st rfl rfl rfl rfl rfl ?_
    (repeat (first | refine W.ctl rfl ?_ | refine W.op rfl rfl rfl rfl ?_ | refine W.skip rfl rfl ?_ | refine W.fld rfl rfl rfl rfl rfl ?_ | refine W.ld rfl rfl rfl rfl rfl ?_))
    refine W.ret2 (.inr rfl) rfl rfl rfl _ ⟨rfl, rfl⟩ ?_
    rw [if_pos h]
    exact Imp.all
  · refine W.no rfl rfl rfl rfl h ?_
    (repeat (first | refine W.ctl rfl ?_ | refine W.op rfl rfl rfl rfl ?_ | refine W.skip rfl rfl ?_ | refine W.fld rfl rfl rfl rfl rfl ?_ | refine W.ld rfl rfl rfl rfl rfl ?_))
    refine W.ret2 (.inr rfl) rfl rfl rfl _ ⟨rfl, rfl⟩ ?_
    rw [if_neg h]
    exact Imp.all
theorem txn_Put (tp sp dp : Nat) (T : Txn) (key : Nat) (value : Str) (r0 : -9223372036854775808 ≤ T.root) (r1 : T.root < 9223372036854775808) (hk : key < 18446744073709551616) (hv : value.length < 9223372036854775808) : CS 37 [ptr tp, u64 key, str value] (TxnH tp sp dp T)
    fun v H' => v = .bool (T.put key value).2 ∧ H' = TxnH tp sp dp (T.put key value).1 := by
  refine CS.walk Tryz.func37 rfl Tryz.ntmps37 rfl fun c R => ?_
  simp only [TxnH, sep_assoc']
  (repeat (first | refine W.ctl rfl ?_ | refine W.op rfl rfl rfl rfl ?_ | refine W.skip rfl rfl ?_ | refine W.fld rfl rfl rfl rfl rfl ?_ | refine W.ld rfl rfl rfl rfl rfl ?_))
  refine W.box rfl rfl rfl rfl rfl fun b2 => ?_
  refine W.box rfl rfl rfl rfl rfl fun b3 => ?_
  refine W.box rfl rfl rfl rfl rfl fun b4 => ?_
  (repeat (first | refine W.ctl rfl ?_ | refine W.op rfl rfl rfl rfl ?_ | refine W.skip rfl rfl ?_ | refine W.fld rfl rfl rfl rfl rfl ?_ | refine W.ld rfl rfl rfl rfl rfl ?_))
  refine W.slen rfl rfl rfl rfl rfl ?_
  by_cases hl : (value.length : Int) ≤ 40
  · refine W.yes rfl rfl rfl rfl hl ?_
    (repeat (first | refine W.ctl rfl ?_ | refine W.op rfl rfl rfl rfl ?_ | refine W.skip rfl rfl ?_ | refine W.fld rfl rfl rfl rfl rfl ?_ | refine W.ld rfl rfl rfl rfl rfl ?_))
    refine W.mkf (vs := [ptr b2, ptr b3, ptr b4]) rfl rfl rfl rfl ⟨rfl, rfl, rfl, trivial⟩ ?_
    (repeat (first | refine W.ctl rfl ?_ | refine W.op rfl rfl rfl rfl ?_ | refine W.skip rfl rfl ?_ | refine W.fld rfl rfl rfl rfl rfl ?_ | refine W.ld rfl rfl rfl rfl rfl ?_))
    by_cases h : T.over = true ∨ T.e ≠ 0
    · have e : T.put key value = (T, false) := by rw [Txn.put, if_neg (by omega), if_pos h]
      rw [e]
      refine W.call (txn_does_no tp sp T.root T.e T.over _ h) rfl rfl rfl rfl Tryz.call85 ⟨rfl, rfl, trivial⟩ ?_
      rintro _ _ ⟨rfl, rfl⟩
      (repeat (first | refine W.ctl rfl ?_ | refine W.op rfl rfl rfl rfl ?_ | refine W.skip rfl rfl ?_ | refine W.fld rfl rfl rfl rfl rfl ?_ | refine W.ld rfl rfl rfl rfl rfl ?_))
      refine W.ret1 (.inr rfl) rfl rfl _ ⟨rfl, rfl⟩ ?_
      simp only [sep_assoc']
      exact Imp.all
    · obtain ⟨r, hr⟩ : ∃ r, M.treePut T.s T.root key value = r := ⟨_, rfl⟩
      have e : T.put key value = ({ T with s := r.1, root := if r.2.2 = 0 then r.2.1 else T.root, e := r.2.2 }, decide (r.2.2 = 0)) := by rw [Txn.put, if_neg (by omega), if_neg h, hr]
      obtain ⟨S, root, e0, ov⟩ := T
      simp only [not_or, Decidable.not_not, Bool.not_eq_true] at h
      obtain ⟨rfl, rfl⟩ := h
      dsimp only at e r0 r1 hr ⊢
      rw [e]
      have h1 := txn_Put1 tp sp dp b2 b3 b4 S root key value r0 r1 hk hv
      rw [hr] at h1
      refine W.call (txn_does tp sp root _ r.2.2 true 86 [ptr b2, ptr b3, ptr b4] _ _ Tryz.call86 h1) rfl rfl rfl rfl Tryz.call85 ⟨rfl, rfl, trivial⟩ ?_
      rintro _ _ ⟨rfl, rfl⟩
      rw [Bool.true_and]
      simp only [sep_assoc']
      (repeat (first | refine W.ctl rfl ?_ | refine W.op rfl rfl rfl rfl ?_ | refine W.skip rfl rfl ?_ | refine W.fld rfl rfl rfl rfl rfl ?_ | refine W.ld rfl rfl rfl rfl rfl ?_))
      refine W.ret1 (.inr rfl) rfl rfl _ ⟨rfl, rfl⟩ ?_
      simp only [sep_assoc']
      exact Imp.all
  · refine W.no rfl rfl rfl rfl hl ?_
    (repeat (first | refine W.ctl rfl ?_ | refine W.op rfl rfl rfl rfl ?_ | refine W.skip rfl rfl ?_ | refine W.fld rfl rfl rfl rfl rfl ?_ | refine W.ld rfl rfl rfl rfl rfl ?_))
    have e : T.put key value = (T, false) := by rw [Txn.put, if_pos (by omega)]
    rw [e]
    refine W.ret1 (.inr rfl) rfl rfl _ ⟨rfl, rfl⟩ ?_
    simp only [sep_assoc']
    exact Imp.all
theorem rollback_ok {S : Store} (h : StoreOk S) : StoreOk S.rollback := ⟨h.disk, h.gen0, h.gen1, h.root0, h.root1, h.used⟩
theorem store_Rollback (p dp : Nat) (S : Store) : CS 46 [ptr p] (StoreP p dp S) fun v H' => v = .tuple #[] ∧ H' = StoreP p dp S.rollback := by
  intro c R w hs
  have h1 := hs.imp (StoreP.opn p dp S R)
  rw [← sep_emp' (ex _)] at h1
  obtain ⟨x, hx⟩ := h1.exE
  rw [sep_emp'] at hx
  obtain ⟨hS, hx⟩ := hx.prE
  simp only [StoreB] at hx
  refine (shadow_Rollback p (ptr dp) (str S.used) S.gen S.root (some x.1) (some x.2) S.down c _ w hx).mono ?_
  rintro e w' ⟨v, H', hp, rfl, hs'⟩
  obtain ⟨rfl, fb, gb, rfl⟩ := hp
  refine ⟨_, _, ⟨rfl, rfl⟩, rfl, hs'.imp ?_⟩
  have e2 := StoreP.mk (p := p) (dp := dp) (S := S.rollback) (fb, gb) (rollback_ok hS)
  simp only [StoreB, mset, Store.rollback, List.map_nil, sep_emp'] at e2
  simp only [sep_assoc']
  exact Imp.pack e2 Imp.all
theorem txn_Begin (sp dp : Nat) (S : Store) : CS 36 [ptr sp] (StoreP sp dp S) fun v H' => ∃ tp, v = ptr tp ∧ H' = TxnH tp sp dp (Txn.begin S) := by
  refine CS.walk Tryz.func36 rfl Tryz.ntmps36 rfl fun c R => ?_
  (repeat (first | refine W.ctl rfl ?_ | refine W.op rfl rfl rfl rfl ?_ | refine W.skip rfl rfl ?_ | refine W.fld rfl rfl rfl rfl rfl ?_ | refine W.ld rfl rfl rfl rfl rfl ?_))
  refine W.call (store_Rollback sp dp S) rfl rfl rfl rfl Tryz.call46 ⟨rfl, trivial⟩ ?_
  rintro _ _ ⟨rfl, rfl⟩
  (repeat (first | refine W.ctl rfl ?_ | refine W.op rfl rfl rfl rfl ?_ | refine W.skip rfl rfl ?_ | refine W.fld rfl rfl rfl rfl rfl ?_ | refine W.ld rfl rfl rfl rfl rfl ?_))
  refine W.call (shadow_Root sp dp S.rollback) rfl rfl rfl rfl Tryz.call47 ⟨rfl, trivial⟩ ?_
  rintro _ _ ⟨rfl, rfl⟩
  refine W.bld rfl rfl rfl rfl rfl ?_
  refine W.box rfl rfl rfl rfl rfl fun tp => ?_
  (repeat (first | refine W.ctl rfl ?_ | refine W.op rfl rfl rfl rfl ?_ | refine W.skip rfl rfl ?_ | refine W.fld rfl rfl rfl rfl rfl ?_ | refine W.ld rfl rfl rfl rfl rfl ?_))
  refine W.ret1 (.inr rfl) rfl rfl _ ⟨tp, rfl, rfl⟩ ?_
  rw [show TxnH tp sp dp (Txn.begin S) = (TxnR tp sp S.rollback.root 0 false • StoreP sp dp S.rollback) from rfl, sep_assoc']
  exact Imp.all
theorem lease_key (kind a b : Int) : CS 55 [int kind, int a, int b] emp fun v H' => v = u64 (M.spaceKey kind a b).1 ∧ H' = emp := by
  refine CS.walk Tryz.func55 rfl Tryz.ntmps55 rfl fun c R => ?_
  (repeat (first | refine W.ctl rfl ?_ | refine W.op rfl rfl rfl rfl ?_ | refine W.skip rfl rfl ?_ | refine W.fld rfl rfl rfl rfl rfl ?_ | refine W.ld rfl rfl rfl rfl rfl ?_))
  refine W.call (space_Key kind a b) rfl rfl rfl rfl Tryz.call103 ⟨rfl, rfl, rfl, trivial⟩ ?_
  rintro _ _ ⟨rfl, rfl⟩
  (repeat (first | refine W.ctl rfl ?_ | refine W.op rfl rfl rfl rfl ?_ | refine W.skip rfl rfl ?_ | refine W.fld rfl rfl rfl rfl rfl ?_ | refine W.ld rfl rfl rfl rfl rfl ?_))
  exact W.ret1 (.inr rfl) rfl rfl _ ⟨rfl, rfl⟩ Imp.all
theorem way_right : ∀ (f : Nat) (X : Work) (at' deep : Int) (key : Nat) (p : List Spot), (∀ t ∈ p, M.right t.n = true) → ∀ t ∈ (M.way f X at' deep key p).2, M.right t.n = true
  | 0, X, at', deep, key, p, hp => hp
  | f + 1, X, at', deep, key, p, hp => by
    rw [M.way]
    dsimp only
    by_cases he : (X.node at' deep).1.e ≠ 0
    · rw [if_pos he]; exact hp
    rw [if_neg he]
    have hr := node_ok X at' deep (by simpa using he)
    have hp' : ∀ t ∈ p ++ [(⟨at', (X.node at' deep).2, (M.find (X.node at' deep).2 key).1⟩ : Spot)], M.right t.n = true := by
      intro t ht
      rcases List.mem_append.1 ht with ht | ht
      · exact hp t ht
      · simp at ht; subst ht; exact hr
    split
    · exact hp'
    · exact way_right f _ _ _ key _ hp'
theorem get_len (T : Txn) (key : Nat) : (T.get key).2.1.length ≤ 40 := by
  unfold Txn.get
  split
  · simp
  · dsimp only
    unfold M.treeGet
    split
    · simp
    · dsimp only
      split
      · simp
      · split
        · simp
        · rename_i sp hsp
          split
          · have hm := List.mem_of_getLast? hsp
            have hr := way_right 11 _ _ 1 key [] (fun t ht => by cases ht) sp hm
            obtain ⟨_, _, _, h4, _⟩ := right_bounds hr
            dsimp only
            rw [List.getD_eq_getElem?_getD]
            cases hq : sp.n.vals[(M.find sp.n key).1]? with
            | none => simp
            | some x => exact h4 x (List.mem_of_getElem? hq)
          · simp
theorem lease_Clock (tp sp dp : Nat) (T : Txn) (r0 : -9223372036854775808 ≤ T.root) (r1 : T.root < 9223372036854775808) : CS 17 [ptr tp] (TxnH tp sp dp T)
    fun v H' => v = .tuple #[int (M.clock T).2.1, int (M.clock T).2.2] ∧ H' = TxnH tp sp dp (M.clock T).1 := by
  refine CS.walk Tryz.func17 rfl Tryz.ntmps17 rfl fun c R => ?_
  (repeat (first | refine W.ctl rfl ?_ | refine W.op rfl rfl rfl rfl ?_ | refine W.skip rfl rfl ?_ | refine W.fld rfl rfl rfl rfl rfl ?_ | refine W.ld rfl rfl rfl rfl rfl ?_))
  refine W.call (lease_key 9 0 4) rfl rfl rfl rfl Tryz.call55 ⟨rfl, rfl, rfl, trivial⟩ ?_
  rintro _ _ ⟨rfl, rfl⟩
  rw [emp_sep]
  refine W.call (txn_Get tp sp dp T M.clockKey r0 r1) rfl rfl rfl rfl Tryz.call39 ⟨rfl, rfl, trivial⟩ ?_
  rintro _ _ ⟨rfl, rfl⟩
  have hlen := get_len T M.clockKey
  obtain ⟨G, hG⟩ : ∃ G, T.get M.clockKey = G := ⟨_, rfl⟩
  have e0 : M.clock T = if G.2.2 = false then (G.1, 0, G.1.e) else if (M.take G.2.1 4).2.2 ≠ 0 ∨ (M.take G.2.1 4).2.1 ≠ [] ∨ ((M.take G.2.1 4).1 : Int) > 268435455 then (G.1, 0, 2) else (G.1, ((M.take G.2.1 4).1 : Int), 0) := by rw [M.clock, hG]
  rw [hG] at hlen ⊢
  obtain ⟨T', v, ok⟩ := G
  dsimp only at e0 hlen ⊢
  cases ok with
  | false =>
    rw [if_pos rfl] at e0
    simp only [TxnH, sep_assoc']
    (repeat (first | refine W.ctl rfl ?_ | refine W.op rfl rfl rfl rfl ?_ | refine W.skip rfl rfl ?_ | refine W.fld rfl rfl rfl rfl rfl ?_ | refine W.ld rfl rfl rfl rfl rfl ?_))
    refine W.call (txn_Err tp sp T'.root T'.e T'.over) rfl rfl rfl rfl Tryz.call38 ⟨rfl, trivial⟩ ?_
    rintro _ _ ⟨rfl, rfl⟩
    (repeat (first | refine W.ctl rfl ?_ | refine W.op rfl rfl rfl rfl ?_ | refine W.skip rfl rfl ?_ | refine W.fld rfl rfl rfl rfl rfl ?_ | refine W.ld rfl rfl rfl rfl rfl ?_))
    rw [e0]
    exact W.ret2 (.inr rfl) rfl rfl rfl _ ⟨rfl, rfl⟩ Imp.all
  | true =>
    rw [if_neg (by simp)] at e0
    (repeat (first | refine W.ctl rfl ?_ | refine W.op rfl rfl rfl rfl ?_ | refine W.skip rfl rfl ?_ | refine W.fld rfl rfl rfl rfl rfl ?_ | refine W.ld rfl rfl rfl rfl rfl ?_))
    refine W.call (num_Take v 4 (by omega) (by omega) (by omega)) rfl rfl rfl rfl Tryz.call56 ⟨rfl, rfl, trivial⟩ ?_
    rintro _ _ ⟨rfl, rfl⟩
    rw [emp_sep]
    (repeat (first | refine W.ctl rfl ?_ | refine W.op rfl rfl rfl rfl ?_ | refine W.skip rfl rfl ?_ | refine W.fld rfl rfl rfl rfl rfl ?_ | refine W.ld rfl rfl rfl rfl rfl ?_))
    by_cases k1 : (M.take v 4).2.2 ≠ 0
    · refine W.yes rfl rfl rfl rfl k1 ?_
      (repeat (first | refine W.ctl rfl ?_ | refine W.op rfl rfl rfl rfl ?_ | refine W.skip rfl rfl ?_ | refine W.fld rfl rfl rfl rfl rfl ?_ | refine W.ld rfl rfl rfl rfl rfl ?_))
      rw [e0, if_pos (.inl k1)]
      exact W.ret2 (.inr rfl) rfl rfl rfl _ ⟨rfl, rfl⟩ Imp.all
    refine W.no rfl rfl rfl rfl k1 ?_
    (repeat (first | refine W.ctl rfl ?_ | refine W.op rfl rfl rfl rfl ?_ | refine W.skip rfl rfl ?_ | refine W.fld rfl rfl rfl rfl rfl ?_ | refine W.ld rfl rfl rfl rfl rfl ?_))
    refine W.sne (s := (M.take v 4).2.1) (u := []) rfl rfl rfl rfl rfl rfl ?_
    by_cases k2 : (M.take v 4).2.1 ≠ []
    · rw [decide_eq_true k2]
      (repeat (first | refine W.ctl rfl ?_ | refine W.op rfl rfl rfl rfl ?_ | refine W.skip rfl rfl ?_ | refine W.fld rfl rfl rfl rfl rfl ?_ | refine W.ld rfl rfl rfl rfl rfl ?_))
      rw [e0, if_pos (.inr (.inl k2))]
      exact W.ret2 (.inr rfl) rfl rfl rfl _ ⟨rfl, rfl⟩ Imp.all
    rw [decide_eq_false k2]
    (repeat (first | refine W.ctl rfl ?_ | refine W.op rfl rfl rfl rfl ?_ | refine W.skip rfl rfl ?_ | refine W.fld rfl rfl rfl rfl rfl ?_ | refine W.ld rfl rfl rfl rfl rfl ?_))
    by_cases k3 : (268435455 : Int) < ((M.take v 4).1 : Nat)
    · refine W.yes rfl rfl rfl rfl k3 ?_
      (repeat (first | refine W.ctl rfl ?_ | refine W.op rfl rfl rfl rfl ?_ | refine W.skip rfl rfl ?_ | refine W.fld rfl rfl rfl rfl rfl ?_ | refine W.ld rfl rfl rfl rfl rfl ?_))
      rw [e0, if_pos (.inr (.inr k3))]
      exact W.ret2 (.inr rfl) rfl rfl rfl _ ⟨rfl, rfl⟩ Imp.all
    refine W.no rfl rfl rfl rfl k3 ?_
    (repeat (first | refine W.ctl rfl ?_ | refine W.op rfl rfl rfl rfl ?_ | refine W.skip rfl rfl ?_ | refine W.fld rfl rfl rfl rfl rfl ?_ | refine W.ld rfl rfl rfl rfl rfl ?_))
    refine W.cv rfl rfl rfl rfl rfl (wrap_i64 (by omega) (by omega)) ?_
    (repeat (first | refine W.ctl rfl ?_ | refine W.op rfl rfl rfl rfl ?_ | refine W.skip rfl rfl ?_ | refine W.fld rfl rfl rfl rfl rfl ?_ | refine W.ld rfl rfl rfl rfl rfl ?_))
    rw [e0, if_neg (by rintro (h | h | h) <;> contradiction)]
    exact W.ret2 (.inr rfl) rfl rfl rfl _ ⟨rfl, rfl⟩ Imp.all
theorem clock_le (T : Txn) : 0 ≤ (M.clock T).2.1 ∧ (M.clock T).2.1 ≤ 268435455 := by
  unfold M.clock
  dsimp only
  split
  · simp
  split
  · simp
  · rename_i h
    dsimp only
    omega
theorem clockKey_lt : M.clockKey < 18446744073709551616 := by decide
theorem lease_Tick (tp sp dp : Nat) (T : Txn) (n : Int) (r0 : -9223372036854775808 ≤ T.root) (r1 : T.root < 9223372036854775808) (r2 : -9223372036854775808 ≤ (M.clock T).1.root) (r3 : (M.clock T).1.root < 9223372036854775808) (n0 : -9223372036854775808 ≤ n) (n1 : n < 9223372036854775808) : CS 16 [ptr tp, int n] (TxnH tp sp dp T)
    fun v H' => v = .tuple #[int (M.tick T n).2.1, int (M.tick T n).2.2] ∧ H' = TxnH tp sp dp (M.tick T n).1 := by
  refine CS.walk Tryz.func16 rfl Tryz.ntmps16 rfl fun c R => ?_
  simp only [TxnH, sep_assoc']
  (repeat (first | refine W.ctl rfl ?_ | refine W.op rfl rfl rfl rfl ?_ | refine W.skip rfl rfl ?_ | refine W.fld rfl rfl rfl rfl rfl ?_ | refine W.ld rfl rfl rfl rfl rfl ?_))
  refine W.call (txn_Err tp sp T.root T.e T.over) rfl rfl rfl rfl Tryz.call38 ⟨rfl, trivial⟩ ?_
  rintro _ _ ⟨rfl, rfl⟩
  (repeat (first | refine W.ctl rfl ?_ | refine W.op rfl rfl rfl rfl ?_ | refine W.skip rfl rfl ?_ | refine W.fld rfl rfl rfl rfl rfl ?_ | refine W.ld rfl rfl rfl rfl rfl ?_))
  by_cases h1 : T.e ≠ 0
  · refine W.yes rfl rfl rfl rfl h1 ?_
    (repeat (first | refine W.ctl rfl ?_ | refine W.op rfl rfl rfl rfl ?_ | refine W.skip rfl rfl ?_ | refine W.fld rfl rfl rfl rfl rfl ?_ | refine W.ld rfl rfl rfl rfl rfl ?_))
    have e : M.tick T n = (T, 0, T.e) := by rw [M.tick, if_pos h1]
    rw [e]
    refine W.ret2 (.inr rfl) rfl rfl rfl _ ⟨rfl, rfl⟩ ?_
    simp only [sep_assoc']
    exact Imp.all
  refine W.no rfl rfl rfl rfl h1 ?_
  (repeat (first | refine W.ctl rfl ?_ | refine W.op rfl rfl rfl rfl ?_ | refine W.skip rfl rfl ?_ | refine W.fld rfl rfl rfl rfl rfl ?_ | refine W.ld rfl rfl rfl rfl rfl ?_))
  by_cases h2 : n < 0
  · refine W.yes rfl rfl rfl rfl h2 ?_
    (repeat (first | refine W.ctl rfl ?_ | refine W.op rfl rfl rfl rfl ?_ | refine W.skip rfl rfl ?_ | refine W.fld rfl rfl rfl rfl rfl ?_ | refine W.ld rfl rfl rfl rfl rfl ?_))
    have e : M.tick T n = (T, 0, 1) := by rw [M.tick, if_neg h1, if_pos h2]
    rw [e]
    refine W.ret2 (.inr rfl) rfl rfl rfl _ ⟨rfl, rfl⟩ ?_
    simp only [sep_assoc']
    exact Imp.all
  refine W.no rfl rfl rfl rfl h2 ?_
  (repeat (first | refine W.ctl rfl ?_ | refine W.op rfl rfl rfl rfl ?_ | refine W.skip rfl rfl ?_ | refine W.fld rfl rfl rfl rfl rfl ?_ | refine W.ld rfl rfl rfl rfl rfl ?_))
  have hc := clock_le T
  obtain ⟨C, hC⟩ : ∃ C, M.clock T = C := ⟨_, rfl⟩
  have e0 : M.tick T n = if C.2.2 ≠ 0 then (C.1, 0, C.2.2) else if n > 268435455 - C.2.1 then (C.1, 0, 12) else
      if (C.1.put M.clockKey (M.put (C.2.1 + n).toNat 4).1).2 = false then ((C.1.put M.clockKey (M.put (C.2.1 + n).toNat 4).1).1, 0, (C.1.put M.clockKey (M.put (C.2.1 + n).toNat 4).1).1.e) else ((C.1.put M.clockKey (M.put (C.2.1 + n).toNat 4).1).1, C.2.1 + n, 0) := by
    rw [M.tick, if_neg h1, if_neg h2, hC]
  have hcl := lease_Clock tp sp dp T r0 r1
  rw [hC] at hc r2 r3 hcl
  obtain ⟨T', now, ce⟩ := C
  dsimp only at hc r2 r3 hcl e0 ⊢
  refine W.call hcl rfl rfl rfl rfl Tryz.call17 ⟨rfl, trivial⟩ ?_
  rintro _ _ ⟨rfl, rfl⟩
  simp only [TxnH, sep_assoc']
  (repeat (first | refine W.ctl rfl ?_ | refine W.op rfl rfl rfl rfl ?_ | refine W.skip rfl rfl ?_ | refine W.fld rfl rfl rfl rfl rfl ?_ | refine W.ld rfl rfl rfl rfl rfl ?_))
  by_cases h3 : ce ≠ 0
  · refine W.yes rfl rfl rfl rfl h3 ?_
    (repeat (first | refine W.ctl rfl ?_ | refine W.op rfl rfl rfl rfl ?_ | refine W.skip rfl rfl ?_ | refine W.fld rfl rfl rfl rfl rfl ?_ | refine W.ld rfl rfl rfl rfl rfl ?_))
    rw [e0, if_pos h3]
    refine W.ret2 (.inr rfl) rfl rfl rfl _ ⟨rfl, rfl⟩ ?_
    simp only [sep_assoc']
    exact Imp.all
  refine W.no rfl rfl rfl rfl h3 ?_
  (repeat (first | refine W.ctl rfl ?_ | refine W.op rfl rfl rfl rfl ?_ | refine W.skip rfl rfl ?_ | refine W.fld rfl rfl rfl rfl rfl ?_ | refine W.ld rfl rfl rfl rfl rfl ?_))
  refine W.ar (r := 268435455 - now) rfl rfl rfl rfl rfl rfl rfl (wrap_i64 (by omega) (by omega)) ?_
  by_cases h4 : 268435455 - now < n
  · refine W.yes rfl rfl rfl rfl h4 ?_
    (repeat (first | refine W.ctl rfl ?_ | refine W.op rfl rfl rfl rfl ?_ | refine W.skip rfl rfl ?_ | refine W.fld rfl rfl rfl rfl rfl ?_ | refine W.ld rfl rfl rfl rfl rfl ?_))
    rw [e0, if_neg h3, if_pos h4]
    refine W.ret2 (.inr rfl) rfl rfl rfl _ ⟨rfl, rfl⟩ ?_
    simp only [sep_assoc']
    exact Imp.all
  refine W.no rfl rfl rfl rfl h4 ?_
  rw [if_neg h3, if_neg h4] at e0
  (repeat (first | refine W.ctl rfl ?_ | refine W.op rfl rfl rfl rfl ?_ | refine W.skip rfl rfl ?_ | refine W.fld rfl rfl rfl rfl rfl ?_ | refine W.ld rfl rfl rfl rfl rfl ?_))
  obtain ⟨m, hm⟩ : ∃ m : Nat, now + n = m := ⟨(now + n).toNat, by omega⟩
  rw [hm, Int.toNat_natCast] at e0
  refine W.ar (r := (m : Int)) rfl rfl rfl rfl rfl rfl (congrArg some hm) (wrap_i64 (by omega) (by omega)) ?_
  refine W.cv rfl rfl rfl rfl rfl (wrap_u64 (by omega) (by omega)) ?_
  refine W.call (num_Put m 4 (by omega) (by omega) (by omega)) rfl rfl rfl rfl Tryz.call54 ⟨rfl, rfl, trivial⟩ ?_
  rintro _ _ ⟨rfl, rfl⟩
  rw [emp_sep]
  (repeat (first | refine W.ctl rfl ?_ | refine W.op rfl rfl rfl rfl ?_ | refine W.skip rfl rfl ?_ | refine W.fld rfl rfl rfl rfl rfl ?_ | refine W.ld rfl rfl rfl rfl rfl ?_))
  refine W.call (lease_key 9 0 4) rfl rfl rfl rfl Tryz.call55 ⟨rfl, rfl, rfl, trivial⟩ ?_
  rintro _ _ ⟨rfl, rfl⟩
  rw [emp_sep]
  (repeat (first | refine W.ctl rfl ?_ | refine W.op rfl rfl rfl rfl ?_ | refine W.skip rfl rfl ?_ | refine W.fld rfl rfl rfl rfl rfl ?_ | refine W.ld rfl rfl rfl rfl rfl ?_))
  have hpl : (M.put m 4).1.length < 9223372036854775808 := by
    unfold M.put
    split
    · rename_i h; simp [M.be_length]
    · simp
  refine W.call (txn_Put tp sp dp T' M.clockKey (M.put m 4).1 r2 r3 clockKey_lt hpl) rfl rfl rfl rfl Tryz.call37 ⟨rfl, rfl, rfl, trivial⟩ ?_
  rintro _ _ ⟨rfl, rfl⟩
  obtain ⟨P, hP⟩ : ∃ P, T'.put M.clockKey (M.put m 4).1 = P := ⟨_, rfl⟩
  rw [hP] at e0 ⊢
  obtain ⟨T2, ok⟩ := P
  dsimp only at e0 ⊢
  simp only [TxnH, sep_assoc']
  cases ok with
  | false =>
    (repeat (first | refine W.ctl rfl ?_ | refine W.op rfl rfl rfl rfl ?_ | refine W.skip rfl rfl ?_ | refine W.fld rfl rfl rfl rfl rfl ?_ | refine W.ld rfl rfl rfl rfl rfl ?_))
    refine W.call (txn_Err tp sp T2.root T2.e T2.over) rfl rfl rfl rfl Tryz.call38 ⟨rfl, trivial⟩ ?_
    rintro _ _ ⟨rfl, rfl⟩
    (repeat (first | refine W.ctl rfl ?_ | refine W.op rfl rfl rfl rfl ?_ | refine W.skip rfl rfl ?_ | refine W.fld rfl rfl rfl rfl rfl ?_ | refine W.ld rfl rfl rfl rfl rfl ?_))
    rw [e0, if_pos rfl]
    refine W.ret2 (.inr rfl) rfl rfl rfl _ ⟨rfl, rfl⟩ ?_
    simp only [sep_assoc']
    exact Imp.all
  | true =>
    (repeat (first | refine W.ctl rfl ?_ | refine W.op rfl rfl rfl rfl ?_ | refine W.skip rfl rfl ?_ | refine W.fld rfl rfl rfl rfl rfl ?_ | refine W.ld rfl rfl rfl rfl rfl ?_))
    refine W.ar (r := (m : Int)) rfl rfl rfl rfl rfl rfl (congrArg some hm) (wrap_i64 (by omega) (by omega)) ?_
    (repeat (first | refine W.ctl rfl ?_ | refine W.op rfl rfl rfl rfl ?_ | refine W.skip rfl rfl ?_ | refine W.fld rfl rfl rfl rfl rfl ?_ | refine W.ld rfl rfl rfl rfl rfl ?_))
    rw [e0, if_neg (by simp)]
    refine W.ret2 (.inr rfl) rfl rfl rfl _ ⟨rfl, rfl⟩ ?_
    simp only [sep_assoc']
    exact Imp.all
end Go.Proofs.YtbdhhedfplkidaaGreat
/- Beginnings: a new disk, a store that is formatted. -/
namespace Go.Proofs.YtbdhhedfplkidaaGreat
open Go
open M (Str Store Disk DiskOk)
set_option maxHeartbeats 1000000
set_option maxRecDepth 2000
theorem SL.below {c w w' : World} {R : HProp} (h : SL c R w) (hb : RowKit.Below w.heap.size w w') : SL c R w' := by
  obtain ⟨hp, q, s⟩ := h.heap
  refine ⟨hb.os.trans h.os, hb.tape.trans h.tape, hb.output.trans h.output, hp, q, fun k x hx => ?_⟩
  have h0 := s k x hx
  rw [hb.block k (Array.getElem?_eq_some_iff.1 h0).1]; exact h0
theorem repeatL_one (x : UInt8) : ∀ n, Lib.repeatL [x] n = List.replicate n x
  | 0 => rfl
  | n + 1 => by
    simp only [Lib.repeatL, List.replicate_succ, repeatL_one x n]; rfl
theorem strings_Repeat1 (n : Nat) (hn : n ≤ 1000000) : CS 100 [str [0], int n] emp fun v H' => v = str (List.replicate n 0) ∧ H' = emp := by
  intro c R w hs
  refine (Tryz.strings_Repeat ⟨#[0]⟩ n w (by omega) (by simp [ByteArray.size]; omega)).mono ?_
  rintro e w' ⟨rfl, hb⟩
  refine ⟨_, _, ⟨rfl, rfl⟩, ?_, hs.below hb⟩
  rw [show (⟨#[0]⟩ : ByteArray).data.toList = [0] from rfl, repeatL_one]; rfl
theorem bits_Mul1 (x y : Nat) (hx : x < 18446744073709551616) (hy : y < 18446744073709551616) : CS 139 [u64 x, u64 y] emp fun v H' => v = .tuple #[u64 (x * y / 18446744073709551616), u64 (x * y % 18446744073709551616)] ∧ H' = emp := by
  intro c R w hs
  refine (Tryz.bits_Mul x y hx hy w).mono ?_
  rintro e w' ⟨rfl, rfl⟩
  exact ⟨_, _, ⟨rfl, rfl⟩, rfl, hs⟩
theorem bits_New : CS 102 [int 640] emp fun v H' => v = str M.noneUsed ∧ H' = emp := by
  refine CS.walk Tryz.func102 rfl Tryz.ntmps102 rfl fun c R => ?_
  (repeat (first | refine W.ctl rfl ?_ | refine W.op rfl rfl rfl rfl ?_ | refine W.skip rfl rfl ?_ | refine W.fld rfl rfl rfl rfl rfl ?_ | refine W.ld rfl rfl rfl rfl rfl ?_))
  refine W.mx rfl rfl rfl rfl rfl rfl ?_
  refine W.mn rfl rfl rfl rfl rfl rfl ?_
  refine W.ar (r := 648) rfl rfl rfl rfl rfl rfl rfl (wrap_i64 (by omega) (by omega)) ?_
  refine W.ar (r := 647) rfl rfl rfl rfl rfl rfl rfl (wrap_i64 (by omega) (by omega)) ?_
  refine W.bin (i := 647) rfl rfl rfl rfl rfl rfl (fun w => M.bin_quo _ 647 8 w (by decide) (by omega)) ?_
  refine W.call (strings_Repeat1 80 (by omega)) rfl rfl rfl rfl Tryz.call100 ⟨rfl, rfl, trivial⟩ ?_
  rintro _ _ ⟨rfl, rfl⟩
  (repeat (first | refine W.ctl rfl ?_ | refine W.op rfl rfl rfl rfl ?_ | refine W.skip rfl rfl ?_ | refine W.fld rfl rfl rfl rfl rfl ?_ | refine W.ld rfl rfl rfl rfl rfl ?_))
  exact W.ret1 (.inr rfl) rfl rfl _ ⟨rfl, rfl⟩ Imp.all
theorem repeat_step (z v : Value) (n k j : Nat) (hk : k + j ≤ n) : setAll (List.replicate k v ++ List.replicate (n - k) z) k (List.replicate j v) = List.replicate (k + j) v ++ List.replicate (n - (k + j)) z := by
  rw [setAll_eq _ _ _ (by simp; omega)]
  simp only [List.length_replicate]
  rw [List.take_left' (by simp), List.drop_append, List.drop_replicate, List.drop_replicate, List.replicate_append_replicate]
  simp only [List.length_replicate]
  rw [show k - (k + j) = 0 by omega, List.replicate_zero, List.nil_append]
  congr 2; omega
theorem slices_Repeat (g n : Nat) (s : Str) (hn : n ≤ 640) (h0 : 1 ≤ n) : CS 101 [.slice (some ⟨g, 0, none⟩) 1 1, int n] (row g 9 [str s])
    fun v H' => ∃ b, v = .slice (some ⟨b, 0, none⟩) n n ∧ H' = row b 9 (List.replicate n (str s)) := by
  refine CS.walk Tryz.func101 rfl Tryz.ntmps101 rfl fun c R => ?_
  (repeat (first | refine W.ctl rfl ?_ | refine W.op rfl rfl rfl rfl ?_ | refine W.skip rfl rfl ?_ | refine W.fld rfl rfl rfl rfl rfl ?_ | refine W.ld rfl rfl rfl rfl rfl ?_))
  refine W.no rfl rfl rfl rfl (by omega : ¬ (n : Int) < 0) ?_
  (repeat (first | refine W.ctl rfl ?_ | refine W.op rfl rfl rfl rfl ?_ | refine W.skip rfl rfl ?_ | refine W.fld rfl rfl rfl rfl rfl ?_ | refine W.ld rfl rfl rfl rfl rfl ?_))
  refine W.len rfl rfl rfl rfl rfl ?_
  refine W.cv rfl rfl rfl rfl rfl (wrap_u64 (by omega) (by omega)) ?_
  (repeat (first | refine W.ctl rfl ?_ | refine W.op rfl rfl rfl rfl ?_ | refine W.skip rfl rfl ?_ | refine W.fld rfl rfl rfl rfl rfl ?_ | refine W.ld rfl rfl rfl rfl rfl ?_))
  refine W.cv rfl rfl rfl rfl rfl (wrap_u64 (by omega) (by omega)) ?_
  refine W.call (bits_Mul1 1 n (by omega) (by omega)) rfl rfl rfl rfl Tryz.call139 ⟨rfl, rfl, trivial⟩ ?_
  rintro _ _ ⟨rfl, rfl⟩
  rw [emp_sep, show 1 * n / 18446744073709551616 = 0 by omega, show 1 * n % 18446744073709551616 = n by omega]
  (repeat (first | refine W.ctl rfl ?_ | refine W.op rfl rfl rfl rfl ?_ | refine W.skip rfl rfl ?_ | refine W.fld rfl rfl rfl rfl rfl ?_ | refine W.ld rfl rfl rfl rfl rfl ?_))
  refine W.no rfl rfl rfl rfl (by simp) ?_
  (repeat (first | refine W.ctl rfl ?_ | refine W.op rfl rfl rfl rfl ?_ | refine W.skip rfl rfl ?_ | refine W.fld rfl rfl rfl rfl rfl ?_ | refine W.ld rfl rfl rfl rfl rfl ?_))
  refine W.no rfl rfl rfl rfl (by omega) ?_
  (repeat (first | refine W.ctl rfl ?_ | refine W.op rfl rfl rfl rfl ?_ | refine W.skip rfl rfl ?_ | refine W.fld rfl rfl rfl rfl rfl ?_ | refine W.ld rfl rfl rfl rfl rfl ?_))
  refine W.cv rfl rfl rfl rfl rfl (wrap_i64 (by omega) (by omega)) ?_
  refine W.mks (m := n) rfl rfl rfl rfl rfl rfl (by omega) (by omega) fun b => ?_
  (repeat (first | refine W.ctl rfl ?_ | refine W.op rfl rfl rfl rfl ?_ | refine W.skip rfl rfl ?_ | refine W.fld rfl rfl rfl rfl rfl ?_ | refine W.ld rfl rfl rfl rfl rfl ?_))
  refine W.cpy (news := [str s]) (fun c w hs j u hj => ?_) rfl rfl rfl rfl rfl rfl (by simp; omega) (by simp; rfl) (by simp; omega) ?_
  · have hs2 := hs
    rw [sep_left_comm'] at hs2
    rw [hs2.rcell]; simpa using hj
  have e0 := repeat_step (.string { data := #[] }) (str s) n 0 1 (by omega)
  simp only [List.replicate_zero, List.nil_append, Nat.sub_zero, Nat.zero_add, List.replicate_one] at e0
  rw [e0]
  (repeat (first | refine W.ctl rfl ?_ | refine W.op rfl rfl rfl rfl ?_ | refine W.skip rfl rfl ?_ | refine W.fld rfl rfl rfl rfl rfl ?_ | refine W.ld rfl rfl rfl rfl rfl ?_))
  refine W.loop (σ := Nat) (fun k => 1 ≤ k ∧ k ≤ n) (fun k => [(7, .slice (some ⟨b, 0, none⟩) n n), (8, int k)]) (fun k => row b 9 (List.replicate k (str s) ++ List.replicate (n - k) (.string { data := #[] })) • R) (fun k => n - k) 1 ⟨by omega, h0⟩ ⟨rfl, rfl, trivial⟩ (by rw [List.replicate_one]; exact Imp.all) ?_
  rintro k ⟨k1, k2⟩
  (repeat (first | refine W.ctl rfl ?_ | refine W.op rfl rfl rfl rfl ?_ | refine W.skip rfl rfl ?_ | refine W.fld rfl rfl rfl rfl rfl ?_ | refine W.ld rfl rfl rfl rfl rfl ?_))
  refine W.len rfl rfl rfl rfl rfl ?_
  by_cases h : (k : Int) < n
  · refine W.yes rfl rfl rfl rfl h ?_
    (repeat (first | refine W.ctl rfl ?_ | refine W.op rfl rfl rfl rfl ?_ | refine W.skip rfl rfl ?_ | refine W.fld rfl rfl rfl rfl rfl ?_ | refine W.ld rfl rfl rfl rfl rfl ?_))
    refine W.anyh (f := 3) (fun _ => true) [0, 1, 2, 3, 4, 5, 6] (by kernel_rfl) (by kernel_rfl) (by kernel_rfl) (by kernel_rfl) rfl emp (Imp.drop _) ?_
    (repeat (first | refine W.ctl rfl ?_ | refine W.op rfl rfl rfl rfl ?_ | refine W.skip rfl rfl ?_ | refine W.fld rfl rfl rfl rfl rfl ?_ | refine W.ld rfl rfl rfl rfl rfl ?_))
    refine W.slf rfl rfl rfl rfl rfl rfl (by omega) (by omega) (by omega) ?_
    (repeat (first | refine W.ctl rfl ?_ | refine W.op rfl rfl rfl rfl ?_ | refine W.skip rfl rfl ?_ | refine W.fld rfl rfl rfl rfl rfl ?_ | refine W.ld rfl rfl rfl rfl rfl ?_))
    refine W.slt rfl rfl rfl rfl rfl rfl (by omega) (by omega) ?_
    refine W.tdn ?_
    refine W.ald1 7 (by kernel_rfl) rfl ?_
    refine W.cpy (news := List.replicate (min k (n - k)) (str s)) (fun c w hs j u hj => ?_) rfl rfl rfl rfl rfl rfl (by simp) (fun u hu => by rw [List.eq_of_mem_replicate hu]; rfl) (by simp; omega) ?_
    · have hlt := (List.getElem?_eq_some_iff.1 hj).1
      rw [hs.rcell, Nat.zero_add, List.getElem?_append_left (by simp at hlt ⊢; omega)]
      simp only [List.length_replicate] at hlt
      rw [List.getElem?_replicate] at hj ⊢
      rw [if_pos (by omega)] at hj ⊢
      exact hj
    simp only [List.length_replicate, Int.toNat_natCast, Nat.mul_one, Nat.zero_add]
    rw [repeat_step _ _ _ _ _ (by omega)]
    refine W.aft (Imp.drop _) ?_
    refine W.ald1 8 (by kernel_rfl) rfl ?_
    refine W.ar (r := ((k + min k (n - k) : Nat) : Int)) rfl rfl rfl rfl rfl rfl (congrArg some (by omega)) (wrap_i64 (by omega) (by omega)) ?_
    refine W.aft (Imp.drop _) ?_
    refine W.ald1 9 (by kernel_rfl) rfl ?_
    (repeat (first | refine W.ctl rfl ?_ | refine W.op rfl rfl rfl rfl ?_ | refine W.skip rfl rfl ?_))
    refine W.aft (Imp.drop _) (W.adn (by kernel_rfl) ?_)
    (repeat (first | refine W.ctl rfl ?_ | refine W.op rfl rfl rfl rfl ?_ | refine W.skip rfl rfl ?_ | refine W.fld rfl rfl rfl rfl rfl ?_ | refine W.ld rfl rfl rfl rfl rfl ?_))
    exact W.again (k + min k (n - k)) ⟨by omega, by omega⟩ (by omega) ⟨rfl, rfl, trivial⟩ Imp.all
  · refine W.no rfl rfl rfl rfl h ?_
    obtain rfl : k = n := by omega
    rw [Nat.sub_self, List.replicate_zero, List.append_nil]
    (repeat (first | refine W.ctl rfl ?_ | refine W.op rfl rfl rfl rfl ?_ | refine W.skip rfl rfl ?_ | refine W.fld rfl rfl rfl rfl rfl ?_ | refine W.ld rfl rfl rfl rfl rfl ?_))
    exact W.ret1 (.inr rfl) rfl rfl _ ⟨b, rfl, rfl⟩ Imp.all
theorem new_ok (n : Nat) (h0 : 8 ≤ n) (h1 : n ≤ 640) : DiskOk (M.Disk.new n) := ⟨by simpa [M.Disk.new] using h0, by simpa [M.Disk.new] using h1, fun s hs => by rw [List.eq_of_mem_replicate hs]; simp, by simp [M.Disk.new], by simp [M.Disk.new], rfl, by simp [M.Disk.new], fun x hx => by simp [M.Disk.new] at hx⟩
theorem disk_New (n : Nat) (h0 : 8 ≤ n) (h1 : n ≤ 640) : CS 52 [int n] emp fun v H' => ∃ dp, v = .tuple #[ptr dp, int 0] ∧ H' = DiskP dp (M.Disk.new n) := by
  refine CS.walk Tryz.func52 rfl Tryz.ntmps52 rfl fun c R => ?_
  rw [emp_sep]
  (repeat (first | refine W.ctl rfl ?_ | refine W.op rfl rfl rfl rfl ?_ | refine W.skip rfl rfl ?_ | refine W.fld rfl rfl rfl rfl rfl ?_ | refine W.ld rfl rfl rfl rfl rfl ?_))
  refine W.no rfl rfl rfl rfl (by omega : ¬ (n : Int) < 8) ?_
  (repeat (first | refine W.ctl rfl ?_ | refine W.op rfl rfl rfl rfl ?_ | refine W.skip rfl rfl ?_ | refine W.fld rfl rfl rfl rfl rfl ?_ | refine W.ld rfl rfl rfl rfl rfl ?_))
  refine W.no rfl rfl rfl rfl (by omega : ¬ (640 : Int) < n) ?_
  (repeat (first | refine W.ctl rfl ?_ | refine W.op rfl rfl rfl rfl ?_ | refine W.skip rfl rfl ?_ | refine W.fld rfl rfl rfl rfl rfl ?_ | refine W.ld rfl rfl rfl rfl rfl ?_))
  refine W.call (strings_Repeat1 256 (by omega)) rfl rfl rfl rfl Tryz.call100 ⟨rfl, rfl, trivial⟩ ?_
  rintro _ _ ⟨rfl, rfl⟩
  rw [emp_sep]
  (repeat (first | refine W.ctl rfl ?_ | refine W.op rfl rfl rfl rfl ?_ | refine W.skip rfl rfl ?_ | refine W.fld rfl rfl rfl rfl rfl ?_ | refine W.ld rfl rfl rfl rfl rfl ?_))
  refine W.bsl (vs := [_]) rfl rfl rfl rfl ⟨rfl, rfl, trivial⟩ rfl rfl rfl fun g => ?_
  (repeat (first | refine W.ctl rfl ?_ | refine W.op rfl rfl rfl rfl ?_ | refine W.skip rfl rfl ?_ | refine W.fld rfl rfl rfl rfl rfl ?_ | refine W.ld rfl rfl rfl rfl rfl ?_))
  refine W.call (slices_Repeat g n (List.replicate 256 0) h1 (by omega)) rfl rfl rfl rfl Tryz.call101 ⟨rfl, rfl, trivial⟩ ?_
  rintro _ _ ⟨nb, rfl, rfl⟩
  refine W.mmk .i64 rfl rfl rfl rfl fun wb => ?_
  refine W.bld rfl rfl rfl rfl rfl ?_
  refine W.box rfl rfl rfl rfl rfl fun dp => ?_
  (repeat (first | refine W.ctl rfl ?_ | refine W.op rfl rfl rfl rfl ?_ | refine W.skip rfl rfl ?_ | refine W.fld rfl rfl rfl rfl rfl ?_ | refine W.ld rfl rfl rfl rfl rfl ?_))
  refine W.ret2 (.inr rfl) rfl rfl rfl _ ⟨dp, rfl, rfl⟩ ?_
  have e : Imp (row dp 183 [.slice (some ⟨nb, 0, none⟩) n n, .map (some wb), .slice none 0 0, int (-1), .bool false] • row nb 9 (List.replicate n (str (List.replicate 256 0))) • mapI .i64 wb []) (DiskP dp (M.Disk.new n)) := by
    have e := DiskP.mk0 (p := dp) nb wb (new_ok n h0 h1) rfl
    simp only [M.Disk.new, List.length_replicate, List.map_replicate, sep_emp'] at e
    exact e
  exact Imp.pack e Imp.all
/-- shadow.Format, when the head is laid. -/
theorem shadow_Format (dp : Nat) (D : Disk) (h : (M.format D).2 = 0) : CS 53 [ptr dp] (DiskP dp D) fun v H' => ∃ sp, v = .tuple #[ptr sp, int 0] ∧ H' = StoreP sp dp (M.over (M.format D).1 1 0 M.noneUsed) := by
  refine CS.walk Tryz.func53 rfl Tryz.ntmps53 rfl fun c R => ?_
  (repeat (first | refine W.ctl rfl ?_ | refine W.op rfl rfl rfl rfl ?_ | refine W.skip rfl rfl ?_ | refine W.fld rfl rfl rfl rfl rfl ?_ | refine W.ld rfl rfl rfl rfl rfl ?_))
  refine W.call bits_New rfl rfl rfl rfl Tryz.call102 ⟨rfl, trivial⟩ ?_
  rintro _ _ ⟨rfl, rfl⟩
  rw [emp_sep]
  refine W.bld rfl rfl rfl rfl rfl ?_
  refine W.alc rfl rfl rfl rfl fun hb => ?_
  refine W.sts rfl rfl rfl rfl rfl rfl ?_
  (repeat (first | refine W.ctl rfl ?_ | refine W.op rfl rfl rfl rfl ?_ | refine W.skip rfl rfl ?_ | refine W.fld rfl rfl rfl rfl rfl ?_ | refine W.ld rfl rfl rfl rfl rfl ?_))
  refine W.lds rfl rfl rfl rfl rfl ?_
  (repeat (first | refine W.ctl rfl ?_ | refine W.op rfl rfl rfl rfl ?_ | refine W.skip rfl rfl ?_))
  have hu : M.noneUsed.length = 80 := by simp [M.noneUsed]
  refine W.call (head_lay dp D 1 0 M.noneUsed (by omega) (by omega) (by omega) (by omega) (by omega)) rfl rfl rfl rfl Tryz.call98 ⟨rfl, rfl, trivial⟩ ?_
  rintro _ _ ⟨rfl, rfl⟩
  (repeat (first | refine W.ctl rfl ?_ | refine W.op rfl rfl rfl rfl ?_ | refine W.skip rfl rfl ?_ | refine W.fld rfl rfl rfl rfl rfl ?_ | refine W.ld rfl rfl rfl rfl rfl ?_))
  refine W.no rfl rfl rfl rfl (by simpa [M.format] using h) ?_
  (repeat (first | refine W.ctl rfl ?_ | refine W.op rfl rfl rfl rfl ?_ | refine W.skip rfl rfl ?_ | refine W.fld rfl rfl rfl rfl rfl ?_ | refine W.ld rfl rfl rfl rfl rfl ?_))
  refine W.lds rfl rfl rfl rfl rfl ?_
  refine W.call (shadow_over dp (M.headLay D 1 0 M.noneUsed).1 1 0 M.noneUsed (by omega) (by omega) (by omega) (by omega) hu) rfl rfl rfl rfl Tryz.call91 ⟨rfl, rfl, trivial⟩ ?_
  rintro _ _ ⟨sp, rfl, rfl⟩
  (repeat (first | refine W.ctl rfl ?_ | refine W.op rfl rfl rfl rfl ?_ | refine W.skip rfl rfl ?_ | refine W.fld rfl rfl rfl rfl rfl ?_ | refine W.ld rfl rfl rfl rfl rfl ?_))
  refine W.ret2 (.inr rfl) rfl rfl rfl _ ⟨sp, rfl, rfl⟩ ?_
  rw [M.format]
  exact Imp.all
end Go.Proofs.YtbdhhedfplkidaaGreat
/- Plain facts: what is written is read again. -/
namespace Go.Proofs.YtbdhhedfplkidaaGreat
open M (Str Store Disk Work)
theorem fromBe_append (a : Str) : ∀ b : Str, M.fromBe (a ++ b) = M.fromBe a * 256 ^ b.length + M.fromBe b := by
  have : ∀ (n : Nat) (b : Str), b.length = n → M.fromBe (a ++ b) = M.fromBe a * 256 ^ b.length + M.fromBe b := by
    intro n
    induction n with
    | zero => intro b h; have := List.eq_nil_of_length_eq_zero h; subst this; simp [M.fromBe]
    | succ n ih =>
      intro b h
      have hne : b ≠ [] := by intro e; subst e; simp at h
      rw [← List.dropLast_concat_getLast hne, ← List.append_assoc, M.fromBe_snoc, M.fromBe_snoc, ih b.dropLast (by simp [h])]
      simp only [List.length_append, List.length_singleton, Nat.pow_succ]
      rw [Nat.add_mul, Nat.mul_assoc, Nat.add_assoc]
  exact fun b => this _ b rfl
theorem fromBe_be : ∀ (s n : Nat), M.fromBe (M.be s n) = n % 256 ^ s
  | 0, n => by simp [M.be, M.fromBe, Nat.mod_one]
  | s + 1, n => by
    have e : 256 ^ (s + 1) = 256 * 256 ^ s := by rw [Nat.pow_succ, Nat.mul_comm]
    rw [M.be, M.fromBe_snoc, fromBe_be s (n / 256), UInt8.toNat_ofNat', e, Nat.mod_mul]
    have : n % 256 % 2 ^ 8 = n % 256 := Nat.mod_mod _ _
    rw [this]
    generalize n / 256 % 256 ^ s = x
    omega
theorem take_be (s n : Nat) (rest : Str) (hs : 1 ≤ s) (hs8 : s ≤ 8) (hn : n < 256 ^ s) : M.take (M.be s n ++ rest) s = (n, rest, 0) := by
  have hl := M.be_length s n
  rw [M.take, if_neg (by omega), if_neg (by simp only [List.length_append, hl]; omega), Int.toNat_natCast, List.take_left' hl, List.drop_left' hl, fromBe_be, Nat.mod_eq_of_lt hn]
theorem take_text (v rest : Str) (h : v.length ≤ 255) : M.takeText (UInt8.ofNat v.length :: (v ++ rest)) = (v, rest, 0) := by
  have hn : (UInt8.ofNat v.length).toNat = v.length := by rw [UInt8.toNat_ofNat']; exact Nat.mod_eq_of_lt (by omega)
  simp only [M.takeText, hn]
  rw [if_neg (by simp; omega)]
  simp
theorem opens_seal (kind : Nat) (text : Str) (h1 : 1 ≤ kind) (h2 : kind ≤ 15) (h3 : text.length ≤ 240) : M.sealP kind text = (M.sealBody kind text ++ M.be 4 (M.sum (M.sealBody kind text)), 0) ∧ (M.sealP kind text).1.length = 256 ∧ M.opens (M.sealP kind text).1 = ((kind : Int), text, 0) := by
  have hl := M.sealBody_length (kind : Int) text h3
  have e : M.sealP kind text = (M.sealBody kind text ++ M.be 4 (M.sum (M.sealBody kind text)), 0) := by rw [M.sealP, if_neg (by omega)]
  have hlen : (M.sealP kind text).1.length = 256 := by rw [e]; simp only [List.length_append, hl, M.be_length]
  refine ⟨e, hlen, ?_⟩
  have h0 : (M.sealP kind text).1.getD 0 0 = UInt8.ofNat kind := by rw [e]; simp [M.sealBody]
  have h1' : (M.sealP kind text).1.getD 1 0 = UInt8.ofNat text.length := by rw [e]; simp [M.sealBody]
  have k0 : (UInt8.ofNat kind).toNat = kind := by rw [UInt8.toNat_ofNat']; exact Nat.mod_eq_of_lt (by omega)
  have k1 : (UInt8.ofNat text.length).toNat = text.length := by rw [UInt8.toNat_ofNat']; exact Nat.mod_eq_of_lt (by omega)
  have htake : (M.sealP kind text).1.take 252 = M.sealBody kind text := by rw [e]; exact List.take_left' hl
  have hdrop : (M.sealP kind text).1.drop 252 = M.be 4 (M.sum (M.sealBody kind text)) := by rw [e]; exact List.drop_left' hl
  have htext : ((M.sealP kind text).1.drop 2).take text.length = text := by
    rw [e]; simp [M.sealBody]
  have hsum : M.fromBe (M.be 4 (M.sum (M.sealBody kind text))) = M.sum (M.sealBody kind text) := by
    rw [fromBe_be]; exact Nat.mod_eq_of_lt (M.sum_u32 _)
  rw [M.opens, if_neg (by omega), htake, hdrop, hsum, if_neg (by simp), h0, h1', k0, k1]
  dsimp only
  rw [Nat.min_eq_left (by omega), htext, if_pos ⟨by rw [e], rfl⟩]
/-! a node's text -/
theorem dloop_nil (leaf : Bool) : ∀ (k : Nat) (s : M.Dec), s.b = [] → M.dloop leaf k s = s
  | 0, _, _ => rfl
  | k + 1, s, h => by rw [M.dloop, if_neg (by simp [h])]
theorem dloop_leaf : ∀ (keys : List Nat) (vals : List Str) (k : Nat) (ks : List Nat) (vs : List Str) (ds : List Int), keys.length = vals.length → keys.length ≤ k → (∀ x ∈ keys, x < 18446744073709551616) → (∀ v ∈ vals, v.length ≤ 255) →
    M.dloop true k ⟨ks, vs, ds, (List.zipWith M.encK keys vals).flatten, false⟩ = ⟨ks ++ keys, vs ++ vals, ds, [], false⟩
  | [], [], k, ks, vs, ds, _, _, _, _ => by rw [dloop_nil _ _ _ rfl]; simp
  | [], _ :: _, _, _, _, _, h, _, _, _ => by simp at h
  | _ :: _, [], _, _, _, _, h, _, _, _ => by simp at h
  | key :: keys, v :: vals, 0, _, _, _, _, h, _, _ => by simp at h
  | key :: keys, v :: vals, k + 1, ks, vs, ds, h, hk, hx, hv => by
    have hkey := hx key (by simp)
    have hvl := hv v (by simp)
    have e : (List.zipWith M.encK (key :: keys) (v :: vals)).flatten = M.be 8 key ++ (UInt8.ofNat v.length :: (v ++ (List.zipWith M.encK keys vals).flatten)) := by
      simp [M.encK, List.zipWith_cons_cons]
    have t1 : M.take (M.be 8 key ++ (UInt8.ofNat v.length :: (v ++ (List.zipWith M.encK keys vals).flatten))) 8 = (key, UInt8.ofNat v.length :: (v ++ (List.zipWith M.encK keys vals).flatten), 0) := take_be 8 key (UInt8.ofNat v.length :: (v ++ (List.zipWith M.encK keys vals).flatten)) (by omega) (by omega) (by omega)
    have t2 := take_text v (List.zipWith M.encK keys vals).flatten hvl
    rw [M.dloop, if_pos ⟨by rw [e]; simp, rfl⟩]
    have hstep : M.dstep true ⟨ks, vs, ds, (List.zipWith M.encK (key :: keys) (v :: vals)).flatten, false⟩ = ⟨ks ++ [key], vs ++ [v], ds, (List.zipWith M.encK keys vals).flatten, false⟩ := by
      rw [e]
      simp [M.dstep, M.Dec.key, M.Dec.val, t1, t2]
    rw [hstep, dloop_leaf keys vals k _ _ _ (by simpa using h) (by simpa using hk) (fun x h => hx x (by simp [h])) (fun x h => hv x (by simp [h]))]
    simp
theorem dloop_branch : ∀ (keys : List Nat) (kids : List Int) (k : Nat) (ks : List Nat) (vs : List Str) (ds : List Int), keys.length = kids.length → keys.length ≤ k → (∀ x ∈ keys, x < 18446744073709551616) → (∀ d ∈ kids, 0 ≤ d ∧ d < 65536) →
    M.dloop false k ⟨ks, vs, ds, (List.zipWith M.encB keys kids).flatten, false⟩ = ⟨ks ++ keys, vs, ds ++ kids, [], false⟩
  | [], [], k, ks, vs, ds, _, _, _, _ => by rw [dloop_nil _ _ _ rfl]; simp
  | [], _ :: _, _, _, _, _, h, _, _, _ => by simp at h
  | _ :: _, [], _, _, _, _, h, _, _, _ => by simp at h
  | key :: keys, d :: kids, 0, _, _, _, _, h, _, _ => by simp at h
  | key :: keys, d :: kids, k + 1, ks, vs, ds, h, hk, hx, hv => by
    have hkey := hx key (by simp)
    obtain ⟨d0, d1⟩ := hv d (by simp)
    obtain ⟨d, rfl⟩ := Int.eq_ofNat_of_zero_le d0
    have e : (List.zipWith M.encB (key :: keys) ((d : Int) :: kids)).flatten = M.be 8 key ++ (M.be 2 d ++ (List.zipWith M.encB keys kids).flatten) := by
      simp [M.encB, List.zipWith_cons_cons]
    have t1 : M.take (M.be 8 key ++ (M.be 2 d ++ (List.zipWith M.encB keys kids).flatten)) 8 = (key, M.be 2 d ++ (List.zipWith M.encB keys kids).flatten, 0) := take_be 8 key (M.be 2 d ++ (List.zipWith M.encB keys kids).flatten) (by omega) (by omega) (by omega)
    have t2 : M.take (M.be 2 d ++ (List.zipWith M.encB keys kids).flatten) 2 = (d, (List.zipWith M.encB keys kids).flatten, 0) := take_be 2 d (List.zipWith M.encB keys kids).flatten (by omega) (by omega) (by omega)
    have hne : M.be 8 key ++ (M.be 2 d ++ (List.zipWith M.encB keys kids).flatten) ≠ [] := fun hh => by
      have := congrArg List.length hh
      simp only [List.length_append, M.be_length, List.length_nil] at this
      omega
    rw [M.dloop, if_pos ⟨by rw [e]; exact hne, rfl⟩]
    have hstep : M.dstep false ⟨ks, vs, ds, (List.zipWith M.encB (key :: keys) ((d : Int) :: kids)).flatten, false⟩ = ⟨ks ++ [key], vs, ds ++ [(d : Int)], (List.zipWith M.encB keys kids).flatten, false⟩ := by
      rw [e]
      simp [M.dstep, M.Dec.key, M.Dec.kid, t1, t2]
    rw [hstep, dloop_branch keys kids k _ _ _ (by simpa using h) (by simpa using hk) (fun x h => hx x (by simp [h])) (fun x h => hv x (by simp [h]))]
    simp
theorem flatten_ge {α β : Type} (f : α → β → Str) (hf : ∀ a b, 1 ≤ (f a b).length) : ∀ (xs : List α) (ys : List β), xs.length ≤ ys.length → xs.length ≤ (List.zipWith f xs ys).flatten.length
  | [], _, _ => by simp
  | _ :: _, [], h => by simp at h
  | x :: xs, y :: ys, h => by
    have := flatten_ge f hf xs ys (by simpa using h)
    have := hf x y
    simp only [List.zipWith_cons_cons, List.flatten_cons, List.length_append, List.length_cons]; omega
theorem decode_eq {s rest : Str} {first : Nat} {D : M.Dec} (leaf : Bool) (ht : M.take s 1 = (first, rest, 0)) (hf : first = if leaf then 1 else 2)
    (hD : M.dloop leaf s.length (if leaf then ⟨[], [], [], rest, false⟩ else (⟨[], [], [], rest, false⟩ : M.Dec).kid) = D) (hb : D.bad = false) (hr : M.right ⟨leaf, D.keys, D.vals, D.kids⟩ = true) : M.decode s = (⟨leaf, D.keys, D.vals, D.kids⟩, 0) := by
  unfold M.decode
  have hl : decide (first = 1) = leaf := by rw [hf]; cases leaf <;> rfl
  simp only [ht, hl, ne_eq, not_true_eq_false, decide_false, Bool.false_eq_true, false_or]
  rw [if_neg (by rw [hf]; cases leaf <;> simp), hD, if_neg (by simp [hb, hr])]
theorem decode_encode {N : M.Node} (h : M.right N = true) (hk : KB N) : M.encode N = (M.encBody N, 0) ∧ M.decode (M.encBody N) = (N, 0) := by
  obtain ⟨q1, q2, q3, q4, q5, q6⟩ := right_bounds h
  refine ⟨by rw [M.encode, if_neg (by simp [h])], ?_⟩
  obtain ⟨leaf, keys, vals, kids⟩ := N
  dsimp only at q1 q2 q3 q4 q5 q6
  cases leaf with
  | true =>
    simp only [if_true] at q2 q3
    have hkids : kids = [] := List.eq_nil_of_length_eq_zero q3
    subst hkids
    have e : M.encBody ⟨true, keys, vals, []⟩ = M.be 1 1 ++ (List.zipWith M.encK keys vals).flatten := by simp [M.encBody, M.be]
    have t := take_be 1 1 (List.zipWith M.encK keys vals).flatten (by omega) (by omega) (by omega)
    have hfl := flatten_ge M.encK (fun a b => by simp [M.encK, M.be_length]; omega) keys vals (by omega)
    have dl := dloop_leaf keys vals (M.be 1 1 ++ (List.zipWith M.encK keys vals).flatten).length [] [] [] (by omega) (by simp only [List.length_append, M.be_length]; omega) hk (fun v hv => by have := q4 v hv; omega)
    rw [e]
    simp only [List.nil_append] at dl
    exact decode_eq true t rfl dl rfl h
  | false =>
    simp only [Bool.false_eq_true, if_false] at q2 q3
    have hvals : vals = [] := List.eq_nil_of_length_eq_zero q2
    subst hvals
    obtain ⟨d, kids, rfl⟩ : ∃ d l, kids = d :: l := by
      cases kids with
      | nil => simp at q3
      | cons d l => exact ⟨d, l, rfl⟩
    have hd := q5 d (by simp)
    obtain ⟨d, rfl⟩ := Int.eq_ofNat_of_zero_le (show 0 ≤ d by omega)
    have e : M.encBody ⟨false, keys, [], (d : Int) :: kids⟩ = M.be 1 2 ++ (M.be 2 d ++ (List.zipWith M.encB keys kids).flatten) := by simp [M.encBody, M.be]
    have t := take_be 1 2 (M.be 2 d ++ (List.zipWith M.encB keys kids).flatten) (by omega) (by omega) (by omega)
    have t2 := take_be 2 d (List.zipWith M.encB keys kids).flatten (by omega) (by omega) (by omega)
    have hfl := flatten_ge M.encB (fun a b => by simp [M.encB, M.be_length]) keys kids (by simp at q3; omega)
    have dl := dloop_branch keys kids (M.be 1 2 ++ (M.be 2 d ++ (List.zipWith M.encB keys kids).flatten)).length [] [] [(d : Int)] (by simp at q3; omega) (by simp only [List.length_append, M.be_length]; omega) hk (fun v hv => by have := q5 v (by simp [hv]); omega)
    rw [e]
    simp only [List.nil_append, List.singleton_append] at dl
    have t2' : M.take (M.be 2 d ++ (List.zipWith M.encB keys kids).flatten) 2 = (d, (List.zipWith M.encB keys kids).flatten, 0) := t2
    have ek : (⟨[], [], [], M.be 2 d ++ (List.zipWith M.encB keys kids).flatten, false⟩ : M.Dec).kid = ⟨[], [], [(d : Int)], (List.zipWith M.encB keys kids).flatten, false⟩ := by simp [M.Dec.kid, t2']
    rw [← ek] at dl
    exact decode_eq false t rfl dl rfl h
theorem encK_sum : ∀ (keys : List Nat) (vals : List Str), keys.length = vals.length → (List.zipWith M.encK keys vals).flatten.length = 9 * keys.length + (vals.map List.length).sum
  | [], [], _ => rfl
  | [], _ :: _, h => by simp at h
  | _ :: _, [], h => by simp at h
  | k :: keys, v :: vals, h => by
    have := encK_sum keys vals (by simpa using h)
    simp only [List.zipWith_cons_cons, List.flatten_cons, List.length_append, this, M.encK, M.be_length, List.length_cons, List.map_cons, List.sum_cons]; omega
theorem encB_sum : ∀ (keys : List Nat) (kids : List Int), keys.length = kids.length → (List.zipWith M.encB keys kids).flatten.length = 10 * keys.length
  | [], [], _ => rfl
  | [], _ :: _, h => by simp at h
  | _ :: _, [], h => by simp at h
  | k :: keys, v :: vals, h => by
    have := encB_sum keys vals (by simpa using h)
    simp only [List.zipWith_cons_cons, List.flatten_cons, List.length_append, this, M.encB, M.be_length, List.length_cons]; omega
theorem right_size {N : M.Node} (h : M.right N = true) : M.nsize N ≤ 240 := by
  simp only [M.right, Bool.and_eq_true] at h
  exact of_decide_eq_true h.2
theorem encBody_len {N : M.Node} (h : M.right N = true) : (M.encBody N).length = M.nsize N := by
  obtain ⟨q1, q2, q3, q4, q5, q6⟩ := right_bounds h
  unfold M.encBody M.nsize
  cases hl : N.leaf with
  | true =>
    rw [hl, if_pos rfl] at q2
    simp only [if_true, List.length_cons, encK_sum _ _ q2.symm]; omega
  | false =>
    rw [hl, if_neg (by simp)] at q3
    have : N.keys.length = N.kids.tail.length := by simp; omega
    simp only [Bool.false_eq_true, if_false, List.length_cons, List.length_append, M.be_length, encB_sum _ _ this]; omega
end Go.Proofs.YtbdhhedfplkidaaGreat
/- Plain facts: a store that is well; its nodes are read and written. -/
namespace Go.Proofs.YtbdhhedfplkidaaGreat
open M (Str Store Disk Work Spot)
/-- The power is there, and stays. -/
structure Hl (S : Store) : Prop where
  down : S.down = false
  gone : S.d.gone = false
  fuse : S.d.fuse = -1
/-- Page number at' is the node n. -/
structure Pn (S : Store) (at' : Int) (n : M.Node) : Prop where
  lo : 2 ≤ at'
  hi : at' < S.size
  page : S.d.now.getD at'.toNat [] = (M.sealP 2 (M.encBody n)).1
  right : M.right n = true
  kb : KB n
/-- The store with a node laid on a page. -/
def putN (S : Store) (at' : Int) (n : M.Node) : Store := { S with d := (S.d.write at' (M.sealP 2 (M.encBody n)).1).1 }
theorem told_zero (S : Store) : S.told 0 = S := by
  unfold Store.told
  rw [show ((0 : Int) == 5) = false from rfl, Bool.or_false]
theorem enc_seal {n : M.Node} (h : M.right n = true) : M.sealP 2 (M.encBody n) = (M.sealBody 2 (M.encBody n) ++ M.be 4 (M.sum (M.sealBody 2 (M.encBody n))), 0) ∧ (M.sealP 2 (M.encBody n)).1.length = 256 ∧ M.opens (M.sealP 2 (M.encBody n)).1 = (2, M.encBody n, 0) :=
  opens_seal 2 (M.encBody n) (by omega) (by omega) (by rw [encBody_len h]; exact right_size h)
theorem store_read {S : Store} {at' : Int} {n : M.Node} (hl : Hl S) (h : Pn S at' n) : S.read at' = (S, 2, M.encBody n, 0) := by
  have hs := h.hi
  unfold Store.size at hs
  have hr : M.pageRead S.d at' = (2, M.encBody n, 0) := by
    have h2 := h.lo
    have hd : S.d.read at' = ((M.sealP 2 (M.encBody n)).1, 0) := by
      unfold Disk.read
      rw [if_neg (by simp [hl.gone]), if_neg (by omega), h.page]
    unfold M.pageRead
    rw [hd]
    exact (enc_seal h.right).2.2
  have h2 := h.lo
  have h3 := h.hi
  unfold Store.read
  rw [hl.down]
  simp only [Bool.false_eq_true, if_false]
  rw [if_neg (by omega), hr]
  simp only [told_zero]
theorem node_read_ok {X : Work} {at' deep : Int} {n : M.Node} (hl : Hl X.s) (h : Pn X.s at' n) (he : X.e = 0) (hr : X.read < 640) (hd : deep ≤ 10) : X.node at' deep = ({ X with read := X.read + 1 }, n) := by
  obtain ⟨h1, h2⟩ := decode_encode h.right h.kb
  obtain ⟨S, rd, e⟩ := X
  dsimp only at hl h he hr ⊢
  subst he
  unfold Work.node
  dsimp only
  rw [if_neg (by omega), store_read hl h]
  dsimp only
  have hf : ({ s := S, read := rd + 1, e := 0 } : Work).fail 0 = { s := S, read := rd + 1, e := 0 } := by unfold Work.fail; rfl
  rw [hf, h2]
  dsimp only
  rw [if_neg (by simp), if_neg (by simp; omega)]
theorem disk_write_ok {d : Disk} {n : Int} {s : Str} (hg : d.gone = false) (hf : d.fuse = -1) (h0 : 0 ≤ n) (h1 : n < d.now.length) (hs : s.length = 256) : (d.write n s).2 = 0 ∧ (d.write n s).1.now = d.now.set n.toNat s ∧ (d.write n s).1.gone = false ∧ (d.write n s).1.fuse = -1 := by
  unfold Disk.write
  rw [if_neg (by simp [hg]), if_neg (by omega), if_neg (by omega), if_neg (by omega)]
  dsimp only
  refine ⟨rfl, ?_, ?_, ?_⟩
  · split <;> rfl
  · split <;> simp [hg]
  · split <;> (show max (-1) (d.fuse - 1) = -1; rw [hf]; decide)
theorem write_node_ok {X : Work} {at' : Int} {n : M.Node} (hl : Hl X.s) (hf : at' ∈ X.s.fresh) (h0 : 2 ≤ at') (h1 : at' < X.s.size) (hr : M.right n = true) (hk : KB n) (he : X.e = 0) : X.write at' n = { X with s := putN X.s at' n } := by
  obtain ⟨e1, e2, e3⟩ := enc_seal hr
  obtain ⟨d1, d2⟩ := decode_encode hr hk
  obtain ⟨S, rd, e⟩ := X
  dsimp only at hl hf h1 he ⊢
  subst he
  unfold Store.size at h1
  have hw := disk_write_ok (n := at') (s := (M.sealP 2 (M.encBody n)).1) hl.gone hl.fuse (by omega) (by omega) e2
  have hp : M.pageWrite S.d at' 2 (M.encBody n) = ((S.d.write at' (M.sealP 2 (M.encBody n)).1).1, 0) := by
    unfold M.pageWrite
    dsimp only
    rw [show (M.sealP 2 (M.encBody n)).2 = 0 by rw [e1], if_neg (by simp)]
    exact Prod.ext rfl hw.1
  have hs : S.write at' 2 (M.encBody n) = (putN S at' n, 0) := by
    unfold Store.write
    rw [if_neg (by simp [hl.down]), if_neg (by simpa using hf), hp]
    simp only [told_zero]
    rfl
  unfold Work.write
  rw [if_neg (by rw [d1]; simp), show (M.encode n).1 = M.encBody n by rw [d1], hs]
  unfold Work.fail
  rfl
theorem putN_hl {S : Store} {at' : Int} {n : M.Node} (hl : Hl S) (h0 : 2 ≤ at') (h1 : at' < S.size) (hr : M.right n = true) : Hl (putN S at' n) := by
  unfold Store.size at h1
  have hw := disk_write_ok (n := at') (s := (M.sealP 2 (M.encBody n)).1) hl.gone hl.fuse (by omega) (by omega) (enc_seal hr).2.1
  exact ⟨hl.down, hw.2.2.1, hw.2.2.2⟩
theorem putN_now {S : Store} {at' : Int} {n : M.Node} (hl : Hl S) (h0 : 2 ≤ at') (h1 : at' < S.size) (hr : M.right n = true) : (putN S at' n).d.now = S.d.now.set at'.toNat (M.sealP 2 (M.encBody n)).1 := by
  unfold Store.size at h1
  exact (disk_write_ok (n := at') (s := (M.sealP 2 (M.encBody n)).1) hl.gone hl.fuse (by omega) (by omega) (enc_seal hr).2.1).2.1
theorem putN_size {S : Store} {at' : Int} {n : M.Node} (hl : Hl S) (h0 : 2 ≤ at') (h1 : at' < S.size) (hr : M.right n = true) : (putN S at' n).size = S.size := by
  unfold Store.size
  rw [putN_now hl h0 h1 hr, List.length_set]
theorem putN_same {S : Store} {at' : Int} {n : M.Node} (hl : Hl S) (h0 : 2 ≤ at') (h1 : at' < S.size) (hr : M.right n = true) (hk : KB n) : Pn (putN S at' n) at' n := by
  refine ⟨h0, by rw [putN_size hl h0 h1 hr]; exact h1, ?_, hr, hk⟩
  rw [putN_now hl h0 h1 hr]
  unfold Store.size at h1
  rw [List.getD_eq_getElem?_getD, List.getElem?_set_self (by omega)]; rfl
theorem putN_other {S : Store} {at' b : Int} {n m : M.Node} (hl : Hl S) (h0 : 2 ≤ at') (h1 : at' < S.size) (hr : M.right n = true) (h : Pn S b m) (hne : b ≠ at') : Pn (putN S at' n) b m := by
  refine ⟨h.lo, by rw [putN_size hl h0 h1 hr]; exact h.hi, ?_, h.right, h.kb⟩
  have := h.lo
  rw [putN_now hl h0 h1 hr, List.getD_eq_getElem?_getD, List.getElem?_set_ne (by omega), ← List.getD_eq_getElem?_getD]
  exact h.page
end Go.Proofs.YtbdhhedfplkidaaGreat
/- Plain facts: pages taken, nodes laid; a store that is formatted. -/
namespace Go.Proofs.YtbdhhedfplkidaaGreat
open M (Str Store Disk Work Spot Txn)
theorem takeFrom_cases (S : Store) : ∀ (k : Nat) (n : Int), (∃ m, n ≤ m ∧ m < n + k ∧ M.has S.used m = false ∧ m ∉ S.fresh ∧ S.takeFrom k n = ({ S with fresh := S.fresh ++ [m] }, m, 0)) ∨
    (S.takeFrom k n = (S, 0, 4) ∧ ∀ m, n ≤ m → m < n + k → M.has S.used m = true ∨ m ∈ S.fresh)
  | 0, n => .inr ⟨rfl, fun m h1 h2 => by omega⟩
  | k + 1, n => by
    unfold Store.takeFrom
    by_cases h : M.has S.used n = false ∧ n ∉ S.fresh
    · left
      rw [if_pos h]
      exact ⟨n, by omega, by omega, h.1, h.2, rfl⟩
    · rw [if_neg h]
      rcases takeFrom_cases S k (n + 1) with ⟨m, h1, h2, h3, h4, h5⟩ | ⟨h1, h2⟩
      · exact .inl ⟨m, by omega, by omega, h3, h4, h5⟩
      · refine .inr ⟨h1, fun m h3 h4 => ?_⟩
        by_cases hm : m = n
        · subst hm
          by_cases hf : m ∈ S.fresh
          · exact .inr hf
          · left
            cases hh : M.has S.used m with
            | true => rfl
            | false => exact absurd ⟨hh, hf⟩ h
        · exact h2 m (by omega) (by omega)
theorem take_cases {S : Store} (hl : Hl S) (h8 : 2 ≤ S.size) : (∃ m, 2 ≤ m ∧ m < S.size ∧ M.has S.used m = false ∧ m ∉ S.fresh ∧ S.take = ({ S with fresh := S.fresh ++ [m] }, m, 0)) ∨
    (S.take = (S, 0, 4) ∧ ∀ m, 2 ≤ m → m < S.size → M.has S.used m = true ∨ m ∈ S.fresh) := by
  unfold Store.take
  rw [if_neg (by simp [hl.down])]
  rcases takeFrom_cases S (S.size - 2).toNat 2 with ⟨m, h1, h2, h3, h4, h5⟩ | ⟨h1, h2⟩
  · exact .inl ⟨m, h1, by omega, h3, h4, h5⟩
  · exact .inr ⟨h1, fun m h3 h4 => h2 m h3 (by omega)⟩
theorem fail_zero (X : Work) (h : X.e = 0) : X.fail 0 = X := by
  obtain ⟨S, rd, e⟩ := X
  dsimp only at h
  subst h
  rfl
theorem fresh_ok {X : Work} {n : M.Node} (hl : Hl X.s) (h8 : 2 ≤ X.s.size) (hr : M.right n = true) (hk : KB n) (he : X.e = 0) (hroom : ∃ m, 2 ≤ m ∧ m < X.s.size ∧ M.has X.s.used m = false ∧ m ∉ X.s.fresh) :
    ∃ m, 2 ≤ m ∧ m < X.s.size ∧ M.has X.s.used m = false ∧ m ∉ X.s.fresh ∧ X.fresh n = ({ X with s := putN { X.s with fresh := X.s.fresh ++ [m] } m n }, m) := by
  rcases take_cases hl h8 with ⟨m, h1, h2, h3, h4, h5⟩ | ⟨_, h6⟩
  · refine ⟨m, h1, h2, h3, h4, ?_⟩
    unfold Work.fresh
    rw [h5]
    dsimp only
    rw [fail_zero _ (by exact he)]
    rw [if_neg (by simpa using he)]
    rw [write_node_ok (X := { X with s := { X.s with fresh := X.s.fresh ++ [m] } }) ⟨hl.down, hl.gone, hl.fuse⟩ (by simp) h1 h2 hr hk he]
  · obtain ⟨m, h1, h2, h3, h4⟩ := hroom
    rcases h6 m h1 h2 with h | h
    · rw [h3] at h; cases h
    · exact absurd h h4
theorem lay_fresh_ok {X : Work} {at' : Int} {n : M.Node} (hl : Hl X.s) (hf : at' ∈ X.s.fresh) (h0 : 2 ≤ at') (h1 : at' < X.s.size) (hr : M.right n = true) (hk : KB n) (he : X.e = 0) : X.lay at' n = ({ X with s := putN X.s at' n }, at') := by
  unfold Work.lay
  rw [if_pos hf, write_node_ok hl hf h0 h1 hr hk he]
theorem none_has (n : Int) : M.has M.noneUsed n = false := by
  unfold M.has
  have : (M.noneUsed.getD (n.toNat / 8) 0).toNat = 0 := by
    rw [M.noneUsed, List.getD_eq_getElem?_getD, List.getElem?_replicate]
    split <;> rfl
  rw [this]
  simp
/-- A store that was formatted, and nothing of it is used. -/
structure Fm (n : Nat) (S : Store) : Prop where
  hl : Hl S
  size : S.size = n
  used : S.used = M.noneUsed
  fresh : S.fresh = []
  given : S.given = []
  root : S.root = 0
  gen : S.gen = 1
theorem new_len (n : Nat) : (M.Disk.new n).now.length = n := List.length_replicate
theorem format_fm (n : Nat) (h0 : 8 ≤ n) (h1 : n ≤ 640) : (M.format (M.Disk.new n)).2 = 0 ∧ Fm n (M.over (M.format (M.Disk.new n)).1 1 0 M.noneUsed) ∧ Fm n (M.over (M.format (M.Disk.new n)).1 1 0 M.noneUsed).rollback := by
  have hlen : (M.headText 1 0 M.noneUsed).length = 88 := by rw [headText_len]; simp [M.noneUsed]
  obtain ⟨e1, e2, _⟩ := opens_seal 1 (M.headText 1 0 M.noneUsed) (by omega) (by omega) (by omega)
  obtain ⟨w1, w2, w3, w4⟩ := disk_write_ok (d := M.Disk.new n) (n := 1) (s := (M.sealP 1 (M.headText 1 0 M.noneUsed)).1) rfl rfl (by omega) (by rw [new_len]; omega) e2
  have hp : M.pageWrite (M.Disk.new n) ((1 : Int) % 2) 1 (M.headText 1 0 M.noneUsed) = (((M.Disk.new n).write 1 (M.sealP 1 (M.headText 1 0 M.noneUsed)).1).1, 0) := by
    unfold M.pageWrite
    dsimp only
    rw [show (M.sealP 1 (M.headText 1 0 M.noneUsed)).2 = 0 by rw [show M.sealP 1 (M.headText 1 0 M.noneUsed) = _ from e1], if_neg (by simp)]
    exact Prod.ext rfl w1
  obtain ⟨d, hd⟩ : ∃ d, ((M.Disk.new n).write 1 (M.sealP 1 (M.headText 1 0 M.noneUsed)).1).1 = d := ⟨_, rfl⟩
  rw [hd] at hp w2 w3 w4
  have hf : M.format (M.Disk.new n) = ({ d with was := [], order := [] }, 0) := by
    unfold M.format M.headLay
    rw [hp]
    dsimp only
    rw [if_neg (by simp)]
    unfold Disk.sync
    rw [if_neg (by simp [w3])]
  have hsz : d.now.length = n := by rw [w2, List.length_set, new_len]
  rw [hf]
  exact ⟨rfl, ⟨⟨rfl, w3, w4⟩, by simp [Store.size, hsz], rfl, rfl, rfl, rfl, rfl⟩, ⟨⟨rfl, w3, w4⟩, by simp [Store.size, Store.rollback, hsz], rfl, rfl, rfl, rfl, rfl⟩⟩
end Go.Proofs.YtbdhhedfplkidaaGreat
/- The blocks that were there at the call: they are read, and stay. -/
namespace Go.Proofs.YtbdhhedfplkidaaGreat
open Go
/-- All blocks of a world. -/
def oldH (W : World) : HProp := fun h => ∀ b, h b = W.heap[b]?
theorem SL.old (W : World) : SL W (oldH W • emp) W := by
  rw [sep_emp']
  exact ⟨rfl, rfl, rfl, fun b => W.heap[b]?, fun _ => rfl, fun b o h => h⟩
theorem SL.old_below {W w' : World} {R : HProp} (h : SL W (oldH W • R) w') : RowKit.Below W.heap.size W w' := by
  have h2 := h.imp (Imp.left _ _)
  obtain ⟨hp, p, s⟩ := h2.heap
  have key : ∀ k, k < W.heap.size → w'.heap[k]? = W.heap[k]? := fun k hk => by
    have e : W.heap[k]? = some W.heap[k] := Array.getElem?_eq_getElem hk
    rw [e]
    exact s k _ (by rw [p k, e])
  refine ⟨h.os, h.tape, h.output, ?_, key⟩
  rcases Nat.lt_or_ge w'.heap.size W.heap.size with hlt | hge
  · have := key w'.heap.size hlt
    rw [Array.getElem?_eq_none (Nat.le_refl _), Array.getElem?_eq_getElem hlt] at this
    cases this
  · exact hge
theorem SL.old_cell {c W w : World} {H R : HProp} [hp : Pick H (oldH W) R] (h : SL c H w) {p : Addr} {v : Value} (hv : W.cell? p = some v) : w.cell? p = some v := by
  rw [hp.eq] at h
  have h2 := h.imp (Imp.left _ _)
  obtain ⟨hh, q, s⟩ := h2.heap
  unfold World.cell? at hv ⊢
  cases hb : W.heap[p.block]? with
  | none => rw [hb] at hv; simp at hv
  | some o => rw [s p.block o (by rw [q p.block, hb])]; rw [hb] at hv; exact hv
section
variable {c : World} {Q : Exit → Act → World → Prop} {n : Nat} {l : List (Nat × Value)} {H R : HProp} {ks : List Kn}
variable {q q1 q2 : Md} {all : Array Oper} {o : Oper} {rest : List Oper} {d : Nat} {v : Value}
/-- &xs[i] -/
theorem W.idxg [hNL : NL q1 q2] {t e : TypeId} {x y : Operand} {z : Value} {s : Nat} {ag : Bool} {p : Addr} {m cp : Nat} {kd : IntKind} {i : Int} (hg : o.guard = none) (hd : o.dst = some d) (hn : Nat.blt d n = true) (ho : o.op = .indexAddr t x y) [ht : TD t (.slice e)] [ti : TI e z s ag]
    (hx : ev l x = some (.slice (some p) m cp)) (hy : ev l y = some (.int kd i)) (h0 : 0 ≤ i) (h1 : i < m)
    (k : WS c Q n (.ops q2 all rest ks) ((d, .pointer (some (p.add (i.toNat * s)))) :: l) H) : WS c Q n (.ops q1 all (o :: rest) ks) l H := by
  refine W.val hg hd hn (fun a w hf _ => ?_) k
  simp [execOp, ho, hf.eval hx, hf.eval hy, Instr.indexAt, run_underlying ht.eq, asIntOf, h0, h1, ti.size]
/-- A load of a cell of a block that was there. -/
theorem W.ldo [hNL : NL q1 q2] {t : TypeId} {x : Operand} {z : Value} {p : Addr} (W0 : World) (hg : o.guard = none) (hd : o.dst = some d) (hn : Nat.blt d n = true) (ho : o.op = .load t x) [ti : TI t z 1 false]
    (hx : ev l x = some (.pointer (some p))) [hp : Pick H (oldH W0) R] (hv : W0.cell? p = some v) (k : WS c Q n (.ops q2 all rest ks) ((d, v) :: l) H) : WS c Q n (.ops q1 all (o :: rest) ks) l H := by
  refine W.val hg hd hn (fun a w hf hs => ?_) k
  have h := hs.old_cell hv
  simp [execOp, ho, hf.eval hx, Instr.loadAt, Instr.sureAddr, loadVar, ti.agg, h]
end
end Go.Proofs.YtbdhhedfplkidaaGreat
/- Plain facts: sorted lists of keys and values; where a key stands. -/
namespace Go.Proofs.YtbdhhedfplkidaaGreat
open M (Str Store Disk Work Spot)
/-! keys that rise -/
theorem rising_pairwise : ∀ {l : List Nat}, M.rising l = true → l.Pairwise (· < ·)
  | [], _ => List.Pairwise.nil
  | [a], _ => List.pairwise_singleton _ _
  | a :: b :: l, h => by
    simp only [M.rising, Bool.and_eq_true, decide_eq_true_eq] at h
    have ih := rising_pairwise h.2
    refine List.Pairwise.cons (fun x hx => ?_) ih
    rcases List.mem_cons.1 hx with rfl | hx
    · exact h.1
    · exact Nat.lt_trans h.1 (List.rel_of_pairwise_cons ih hx)
theorem pairwise_rising : ∀ {l : List Nat}, l.Pairwise (· < ·) → M.rising l = true
  | [], _ => rfl
  | [a], _ => rfl
  | a :: b :: l, h => by
    simp only [M.rising, Bool.and_eq_true, decide_eq_true_eq]
    exact ⟨List.rel_of_pairwise_cons h (by simp), pairwise_rising (List.Pairwise.of_cons h)⟩
theorem pw_lt {l : List Nat} (h : l.Pairwise (· < ·)) {i j : Nat} (hij : i < j) (hj : j < l.length) : l[i]'(by omega) < l[j] := List.pairwise_iff_getElem.1 h i j (by omega) hj hij
/-! where a key stands -/
theorem ploop_spec {keys : List Nat} (hs : keys.Pairwise (· < ·)) (key : Nat) : ∀ (f lo hi : Nat), lo ≤ hi → hi ≤ keys.length → hi - lo ≤ f → (∀ j, j < lo → ∀ x, keys[j]? = some x → x < key) → (∀ j, hi ≤ j → ∀ x, keys[j]? = some x → key ≤ x) →
    ∃ r, M.ploop keys key f lo hi = r ∧ r ≤ keys.length ∧ (∀ j, j < r → ∀ x, keys[j]? = some x → x < key) ∧ (∀ j, r ≤ j → ∀ x, keys[j]? = some x → key ≤ x)
  | 0, lo, hi, h1, h2, h3, h4, h5 => ⟨lo, rfl, by omega, h4, fun j hj => h5 j (by omega)⟩
  | f + 1, lo, hi, h1, h2, h3, h4, h5 => by
    unfold M.ploop
    by_cases hlt : lo < hi
    · rw [if_pos hlt]
      have hm : (lo + hi) / 2 < keys.length := by omega
      have hg : keys.getD ((lo + hi) / 2) 0 = keys[(lo + hi) / 2] := by simp [List.getD_eq_getElem?_getD, hm]
      have below : ∀ j, j < (lo + hi) / 2 → ∀ x, keys[j]? = some x → x < keys[(lo + hi) / 2] := fun j hj x hx => by
        obtain ⟨hjl, rfl⟩ := List.getElem?_eq_some_iff.1 hx
        exact pw_lt hs hj hm
      have above : ∀ j, (lo + hi) / 2 < j → ∀ x, keys[j]? = some x → keys[(lo + hi) / 2] < x := fun j hj x hx => by
        obtain ⟨hjl, rfl⟩ := List.getElem?_eq_some_iff.1 hx
        exact pw_lt hs hj hjl
      rw [hg]
      by_cases he : keys[(lo + hi) / 2] = key
      · rw [if_pos he]
        refine ⟨_, rfl, by omega, fun j hj x hx => he ▸ below j hj x hx, fun j hj x hx => ?_⟩
        rcases Nat.eq_or_lt_of_le hj with rfl | hj
        · rw [List.getElem?_eq_getElem hm] at hx; simp at hx; omega
        · have := above j hj x hx; omega
      · rw [if_neg he]
        by_cases hk : keys[(lo + hi) / 2] < key
        · rw [if_pos hk]
          refine ploop_spec hs key f _ _ (by omega) h2 (by omega) (fun j hj x hx => ?_) h5
          rcases Nat.lt_or_ge j ((lo + hi) / 2) with hj' | hj'
          · have := below j hj' x hx; omega
          · obtain rfl : j = (lo + hi) / 2 := by omega
            rw [List.getElem?_eq_getElem hm] at hx; simp at hx; omega
        · rw [if_neg hk]
          refine ploop_spec hs key f _ _ (by omega) (by omega) (by omega) h4 (fun j hj x hx => ?_)
          rcases Nat.eq_or_lt_of_le hj with rfl | hj
          · rw [List.getElem?_eq_getElem hm] at hx; simp at hx; omega
          · have := above j hj x hx; omega
    · rw [if_neg hlt]
      obtain rfl : lo = hi := by omega
      exact ⟨lo, rfl, h2, h4, h5⟩
structure PlaceSpec (keys : List Nat) (key : Nat) : Prop where
  le : (M.place keys key).1 ≤ keys.length
  below : ∀ x ∈ keys.take (M.place keys key).1, x < key
  above : ∀ x ∈ keys.drop (M.place keys key).1, key ≤ x
  there : (M.place keys key).2 = true ↔ keys[(M.place keys key).1]? = some key
theorem place_spec {keys : List Nat} (hs : keys.Pairwise (· < ·)) (key : Nat) : PlaceSpec keys key := by
  obtain ⟨r, h1, h2, h3, h4⟩ := ploop_spec hs key keys.length 0 keys.length (by omega) (by omega) (by omega) (fun j hj => by omega) (fun j hj x hx => by have := (List.getElem?_eq_some_iff.1 hx).1; omega)
  have e : M.place keys key = (r, decide (keys[r]? = some key)) := by rw [M.place, h1]
  refine ⟨by rw [e]; exact h2, fun x hx => ?_, fun x hx => ?_, by rw [e]; simp⟩
  · rw [e] at hx
    obtain ⟨j, hj, rfl⟩ := List.mem_iff_getElem.1 hx
    simp only [List.length_take] at hj
    exact h3 j (by omega) _ (by rw [List.getElem_take]; exact List.getElem?_eq_getElem (by omega))
  · rw [e] at hx
    obtain ⟨j, hj, rfl⟩ := List.mem_iff_getElem.1 hx
    simp only [List.length_drop] at hj
    exact h4 (r + j) (by omega) _ (by rw [List.getElem_drop]; exact List.getElem?_eq_getElem (by omega))
/-! a map as a sorted list -/
abbrev KV := List (Nat × Str)
def Srt (l : KV) : Prop := l.Pairwise fun a b => a.1 < b.1
def ins (k : Nat) (v : Str) : KV → KV
  | [] => [(k, v)]
  | (a, b) :: l => if k < a then (k, v) :: (a, b) :: l else if k = a then (k, v) :: l else (a, b) :: ins k v l
def look (k : Nat) : KV → Option Str
  | [] => none
  | (a, b) :: l => if k = a then some b else look k l
theorem ins_front (k : Nat) (v : Str) : ∀ (l m : KV), (∀ x ∈ l, x.1 < k) → ins k v (l ++ m) = l ++ ins k v m
  | [], _, _ => rfl
  | (a, b) :: l, m, h => by
    have h1 := h (a, b) (by simp)
    dsimp only at h1
    simp only [List.cons_append, ins]
    rw [if_neg (by omega), if_neg (by omega), ins_front k v l m (fun x hx => h x (by simp [hx]))]
theorem ins_back (k : Nat) (v : Str) : ∀ (l m : KV), (∀ x ∈ m, k < x.1) → ins k v (l ++ m) = ins k v l ++ m
  | [], [], _ => rfl
  | [], (a, b) :: m, h => by
    have h1 := h (a, b) (by simp)
    dsimp only at h1
    simp only [List.nil_append, ins]
    rw [if_pos h1]; rfl
  | (a, b) :: l, m, h => by
    simp only [List.cons_append, ins]
    split
    · rfl
    split
    · rfl
    · rw [ins_back k v l m h]; rfl
theorem ins_there (k : Nat) (v w : Str) (m : KV) : ins k v ((k, w) :: m) = (k, v) :: m := by simp [ins]
theorem ins_not (k : Nat) (v : Str) (m : KV) (h : ∀ x ∈ m, k < x.1) : ins k v m = (k, v) :: m := by
  have := ins_back k v [] m h
  simpa [ins] using this
theorem look_front (k : Nat) : ∀ (l m : KV), (∀ x ∈ l, x.1 ≠ k) → look k (l ++ m) = look k m
  | [], _, _ => rfl
  | (a, b) :: l, m, h => by
    have h1 := h (a, b) (by simp)
    dsimp only at h1
    simp only [List.cons_append, look]
    rw [if_neg (fun e => h1 e.symm), look_front k l m (fun x hx => h x (by simp [hx]))]
theorem look_none (k : Nat) : ∀ (l : KV), (∀ x ∈ l, x.1 ≠ k) → look k l = none
  | [], _ => rfl
  | (a, b) :: l, h => by
    have h1 := h (a, b) (by simp)
    dsimp only at h1
    simp only [look]
    rw [if_neg (fun e => h1 e.symm), look_none k l (fun x hx => h x (by simp [hx]))]
theorem look_back (k : Nat) : ∀ (l m : KV), (∀ x ∈ m, x.1 ≠ k) → look k (l ++ m) = look k l
  | [], m, h => look_none k m h
  | (a, b) :: l, m, h => by
    simp only [List.cons_append, look]
    split
    · rfl
    · exact look_back k l m h
theorem mem_ins {k : Nat} {v : Str} : ∀ {l : KV} {x : Nat × Str}, x ∈ ins k v l → x = (k, v) ∨ x ∈ l
  | [], x, h => by simp [ins] at h; exact .inl h
  | (a, b) :: l, x, h => by
    simp only [ins] at h
    split at h
    · rcases List.mem_cons.1 h with h | h
      · exact .inl h
      · exact .inr h
    split at h
    · rcases List.mem_cons.1 h with h | h
      · exact .inl h
      · exact .inr (by simp [h])
    · rcases List.mem_cons.1 h with h | h
      · exact .inr (by simp [h])
      · rcases mem_ins h with h | h
        · exact .inl h
        · exact .inr (by simp [h])
theorem ins_srt {k : Nat} {v : Str} : ∀ {l : KV}, Srt l → Srt (ins k v l)
  | [], _ => List.pairwise_singleton _ _
  | (a, b) :: l, h => by
    simp only [ins]
    have hl := List.Pairwise.of_cons h
    split
    · rename_i hk
      refine List.Pairwise.cons (fun x hx => ?_) h
      rcases List.mem_cons.1 hx with rfl | hx
      · exact hk
      · exact Nat.lt_trans hk (List.rel_of_pairwise_cons h hx)
    split
    · rename_i hk
      subst hk
      exact List.Pairwise.cons (fun x hx => List.rel_of_pairwise_cons h hx) hl
    · refine List.Pairwise.cons (fun x hx => ?_) (ins_srt hl)
      rcases mem_ins hx with rfl | hx
      · dsimp only; omega
      · exact List.rel_of_pairwise_cons h hx
theorem ins_len {k : Nat} {v : Str} : ∀ {l : KV}, l.length ≤ (ins k v l).length ∧ (ins k v l).length ≤ l.length + 1
  | [] => by simp [ins]
  | (a, b) :: l => by
    simp only [ins]
    have := ins_len (k := k) (v := v) (l := l)
    split
    · simp
    split
    · simp
    · simp; omega
theorem ins_ne {k : Nat} {v : Str} {l : KV} : ins k v l ≠ [] := by
  cases l with
  | nil => simp [ins]
  | cons p l => obtain ⟨a, b⟩ := p; simp only [ins]; split <;> (try split) <;> simp
theorem look_ins_same (k : Nat) (v : Str) : ∀ (l : KV), look k (ins k v l) = some v
  | [] => by simp [ins, look]
  | (a, b) :: l => by
    simp only [ins]
    split
    · simp [look]
    split
    · simp [look]
    · rename_i h1 h2
      simp only [look]
      rw [if_neg h2, look_ins_same k v l]
theorem look_ins_other {k j : Nat} (v : Str) (h : j ≠ k) : ∀ (l : KV), look j (ins k v l) = look j l
  | [] => by simp [ins, look, h]
  | (a, b) :: l => by
    simp only [ins]
    split
    · simp [look, h]
    split
    · rename_i h2
      subst h2
      simp [look, h]
    · simp only [look]
      split
      · rfl
      · exact look_ins_other v h l
end Go.Proofs.YtbdhhedfplkidaaGreat
/- Plain facts: leaves and branches changed and split: what they hold, and that they are right. -/
namespace Go.Proofs.YtbdhhedfplkidaaGreat
open M (Str Store Disk Work Spot)
theorem right_mk {n : M.Node} (h1 : n.vals.length = if n.leaf then n.keys.length else 0) (h2 : n.kids.length = if n.leaf then 0 else n.keys.length + 1) (h3 : n.keys.Pairwise (· < ·)) (h4 : ∀ v ∈ n.vals, v.length ≤ 40)
    (h5 : ∀ k ∈ n.kids, 2 ≤ k ∧ k < 640) (h6 : n.leaf = true → 0 < n.keys.length) (h7 : M.nsize n ≤ 240) : M.right n = true := by
  simp only [M.right, M.plain, Bool.and_eq_true, beq_iff_eq, List.all_eq_true, decide_eq_true_eq, Bool.or_eq_true, Bool.not_eq_true']
  refine ⟨⟨⟨⟨⟨⟨h1, h2⟩, pairwise_rising h3⟩, h4⟩, h5⟩, ?_⟩, h7⟩
  cases hl : n.leaf with
  | true => exact .inr (h6 hl)
  | false => exact .inl rfl
theorem right_rise {n : M.Node} (h : M.right n = true) : n.keys.Pairwise (· < ·) := by
  simp only [M.right, M.plain, Bool.and_eq_true] at h
  exact rising_pairwise h.1.1.1.1.2
/-! a leaf -/
abbrev lkv (n : M.Node) : KV := n.keys.zip n.vals
theorem zip_fst {α β : Type} : ∀ {l : List α} {m : List β}, l.length = m.length → (l.zip m).map (·.1) = l
  | [], [], _ => rfl
  | a :: l, b :: m, h => by simp [zip_fst (l := l) (m := m) (by simpa using h)]
  | [], _ :: _, h => by simp at h
  | _ :: _, [], h => by simp at h
theorem srt_keys {l : KV} : Srt l ↔ (l.map (·.1)).Pairwise (· < ·) := by rw [Srt, List.pairwise_map]
theorem lkv_srt {n : M.Node} (h : n.keys.Pairwise (· < ·)) (hv : n.vals.length = n.keys.length) : Srt (lkv n) := by
  rw [srt_keys, zip_fst hv.symm]; exact h
theorem zip_take_drop {α β : Type} : ∀ (l : List α) (m : List β) (i : Nat), l.zip m = (l.take i).zip (m.take i) ++ (l.drop i).zip (m.drop i)
  | _, _, 0 => by simp
  | [], _, _ + 1 => by simp
  | _ :: _, [], _ + 1 => by simp
  | a :: l, b :: m, i + 1 => by simp [← zip_take_drop l m i]
theorem laid_nat {α : Type} (xs ys : List α) (i g : Nat) (h : i ≤ xs.length) : M.laid xs i g ys = xs.take i ++ (ys ++ xs.drop (i + g)) := by
  simp only [M.laid, List.append_assoc]
  rw [show (min (i : Int) xs.length).toNat = i by omega]
  congr 2
  by_cases h2 : i + g ≤ xs.length
  · rw [show (min (min (i : Int) xs.length + g) xs.length).toNat = i + g by omega]
  · rw [show (min (min (i : Int) xs.length + g) xs.length).toNat = xs.length by omega, List.drop_length, List.drop_eq_nil_of_le (by omega)]
theorem nput_kv {n : M.Node} {key : Nat} {value : Str} (hl : n.leaf = true) (hs : n.keys.Pairwise (· < ·)) (hv : n.vals.length = n.keys.length) :
    lkv (M.nput n key value) = ins key value (lkv n) ∧ (M.nput n key value).vals.length = (M.nput n key value).keys.length ∧ (M.nput n key value).leaf = true ∧ (M.nput n key value).kids = [] := by
  have hp := place_spec hs key
  obtain ⟨i, hi⟩ : ∃ i, (M.place n.keys key).1 = i := ⟨_, rfl⟩
  obtain ⟨t, ht⟩ : ∃ t, (M.place n.keys key).2 = t := ⟨_, rfl⟩
  obtain ⟨h1, h2, h3, h4⟩ := hp
  rw [hi] at h1 h2 h3 h4
  rw [ht] at h4
  rw [nput_leaf hl, hi, ht]
  dsimp only
  have hlaid1 := laid_nat n.keys [key] i (if t = true then 1 else 0) h1
  have hlaid2 := laid_nat n.vals [value] i (if t = true then 1 else 0) (by omega)
  refine ⟨?_, laid_len _ _ _ _ _ _ hv rfl, rfl, rfl⟩
  rw [show lkv ⟨true, M.laid n.keys i ((if t = true then 1 else 0 : Nat) : Int) [key], M.laid n.vals i ((if t = true then 1 else 0 : Nat) : Int) [value], []⟩ = (M.laid n.keys i ((if t = true then 1 else 0 : Nat) : Int) [key]).zip (M.laid n.vals i ((if t = true then 1 else 0 : Nat) : Int) [value]) from rfl, hlaid1, hlaid2,
    List.zip_append (by simp; omega), show lkv n = (n.keys.take i).zip (n.vals.take i) ++ (n.keys.drop i).zip (n.vals.drop i) from zip_take_drop _ _ _]
  rw [ins_front key value _ _ (fun x hx => h2 x.1 (List.of_mem_zip hx).1)]
  congr 1
  cases t with
  | true =>
    have hk := h4.1 rfl
    obtain ⟨hil, hik⟩ := List.getElem?_eq_some_iff.1 hk
    rw [List.drop_eq_getElem_cons hil, List.drop_eq_getElem_cons (show i < n.vals.length by omega), hik]
    simp only [if_true, List.zip_cons_cons, List.cons_append, List.nil_append]
    rw [ins_there]
  | false =>
    simp only [Bool.false_eq_true, if_false, Nat.add_zero, List.cons_append, List.nil_append, List.zip_cons_cons]
    rw [ins_not]
    intro x hx
    have hm := (List.of_mem_zip hx).1
    have hge := h3 x.1 hm
    rcases Nat.eq_or_lt_of_le hge with he | he
    · exfalso
      obtain ⟨j, hj, hjx⟩ := List.mem_iff_getElem.1 hm
      simp only [List.length_drop] at hj
      rw [List.getElem_drop] at hjx
      rcases Nat.eq_zero_or_pos j with h0 | h0
      · subst h0
        have : (false : Bool) = true := h4.2 (by rw [List.getElem?_eq_getElem (by omega)]; simp only [Nat.add_zero] at hjx; rw [hjx, ← he])
        cases this
      · have := pw_lt hs (show i < i + j by omega) (by omega)
        have h5 := h3 n.keys[i] (List.mem_iff_getElem.2 ⟨0, by simp; omega, by rw [List.getElem_drop]; simp⟩)
        omega
    · exact he
theorem nsize_leaf {n : M.Node} (hl : n.leaf = true) : M.nsize n = 1 + 9 * n.keys.length + (n.vals.map List.length).sum := by
  rw [M.nsize, if_pos hl]; omega
theorem nsize_branch {n : M.Node} (hl : n.leaf = false) (hk : n.kids.length = n.keys.length + 1) : M.nsize n = 3 + 10 * n.keys.length := by
  rw [M.nsize, if_neg (by simp [hl]), hk]; omega
theorem splitAt_spec (n : M.Node) : ∀ f k, ∃ r, M.splitAt n f k = r ∧ k ≤ r ∧ r ≤ k + f ∧ (k < r → M.nsize (M.nfront n (r - 1)) < M.nsize n / 2) ∧ (r < k + f → M.nsize n / 2 ≤ M.nsize (M.nfront n r))
  | 0, k => ⟨k, rfl, by omega, by omega, fun h => by omega, fun h => by omega⟩
  | f + 1, k => by
    unfold M.splitAt
    by_cases h : M.nsize (M.nfront n k) < M.nsize n / 2
    · rw [if_pos h]
      obtain ⟨r, h1, h2, h3, h4, h5⟩ := splitAt_spec n f (k + 1)
      refine ⟨r, h1, by omega, by omega, fun _ => ?_, fun hr => h5 (by omega)⟩
      rcases Nat.eq_or_lt_of_le h2 with he | he
      · subst he; simpa using h
      · exact h4 he
    · rw [if_neg h]
      exact ⟨k, rfl, by omega, by omega, fun hh => by omega, fun _ => by omega⟩
theorem sum_take_succ (l : List Str) (k : Nat) : ((l.take (k + 1)).map List.length).sum ≤ ((l.take k).map List.length).sum + (match l[k]? with | some v => v.length | none => 0) := by
  rw [List.take_add_one]
  cases l[k]? with
  | none => simp
  | some v => simp
theorem sum_take_drop (l : List Str) (k : Nat) : ((l.take k).map List.length).sum + ((l.drop k).map List.length).sum = (l.map List.length).sum := by
  rw [← List.sum_append, ← List.map_append, List.take_append_drop]
/-- A leaf that is too great by one key at most: its split. -/
theorem split_leaf {n : M.Node} (hl : n.leaf = true) (hv : n.vals.length = n.keys.length) (h40 : ∀ v ∈ n.vals, v.length ≤ 40) (hbig : 240 < M.nsize n) (hmost : M.nsize n ≤ 289) :
    ∃ k, 1 ≤ k ∧ k < n.keys.length ∧ M.nsplit n = (⟨true, n.keys.take k, n.vals.take k, []⟩, n.keys.getD k 0, ⟨true, n.keys.drop k, n.vals.drop k, []⟩, true) ∧
      M.nsize ⟨true, n.keys.take k, n.vals.take k, []⟩ ≤ 240 ∧ M.nsize ⟨true, n.keys.drop k, n.vals.drop k, []⟩ ≤ 240 := by
  have hsum := sum_le (l := n.vals) h40
  have hsz := nsize_leaf hl
  have hlen : 2 ≤ n.keys.length := by omega
  obtain ⟨r, h1, h2, h3, h4, h5⟩ := splitAt_spec n (n.keys.length - 2) 1
  have hf : ∀ k, M.nfront n k = ⟨true, n.keys.take k, n.vals.take k, []⟩ := fun k => by rw [M.nfront, if_pos hl]
  have hb : ∀ k, M.nback n k = ⟨true, n.keys.drop k, n.vals.drop k, []⟩ := fun k => by rw [M.nback, if_pos hl]
  have hr : r < n.keys.length := by omega
  have szf : ∀ k, k ≤ n.keys.length → M.nsize ⟨true, n.keys.take k, n.vals.take k, []⟩ = 1 + 9 * k + ((n.vals.take k).map List.length).sum := fun k hk => by
    rw [nsize_leaf rfl]; simp only [List.length_take]; congr 2; omega
  have szb : M.nsize ⟨true, n.keys.drop r, n.vals.drop r, []⟩ = 1 + 9 * (n.keys.length - r) + ((n.vals.drop r).map List.length).sum := by
    rw [nsize_leaf rfl]; simp only [List.length_drop]
  have htd := sum_take_drop n.vals r
  refine ⟨r, h2, hr, ?_, ?_, ?_⟩
  · rw [M.nsplit]
    simp only [hl, if_true, Int.sub_zero]
    rw [if_neg (by omega), show ((n.keys.length : Int) - 1 - 1).toNat = n.keys.length - 2 by omega, h1, hf, hb]
  · rw [szf r (by omega)]
    rcases Nat.eq_or_lt_of_le h2 with he | he
    · subst he
      have := sum_le (l := n.vals.take 1) (fun v hv => h40 v (List.mem_of_mem_take hv))
      simp only [List.length_take] at this
      omega
    · have h6 := h4 he
      rw [hf, szf (r - 1) (by omega)] at h6
      have h7 := sum_take_succ n.vals (r - 1)
      rw [show r - 1 + 1 = r by omega, List.getElem?_eq_getElem (show r - 1 < n.vals.length by omega)] at h7
      have h8 := h40 _ (List.getElem_mem (show r - 1 < n.vals.length by omega))
      dsimp only at h7
      omega
  · rw [szb]
    rcases Nat.lt_or_ge r (1 + (n.keys.length - 2)) with he | he
    · have h6 := h5 he
      rw [hf, szf r (by omega)] at h6
      omega
    · have h9 : n.keys.length - r = 1 := by omega
      have := sum_le (l := n.vals.drop r) (fun v hv => h40 v (List.mem_of_mem_drop hv))
      simp only [List.length_drop, hv, h9] at this
      omega
/-- A branch that is too great by one key: its split. -/
theorem split_branch {n : M.Node} (hl : n.leaf = false) (hk : n.kids.length = n.keys.length + 1) (hbig : 240 < M.nsize n) (hmost : M.nsize n ≤ 250) :
    ∃ k, 1 ≤ k ∧ k + 1 < n.keys.length ∧ M.nsplit n = (⟨false, n.keys.take k, [], n.kids.take (k + 1)⟩, n.keys.getD k 0, ⟨false, n.keys.drop (k + 1), [], n.kids.drop (k + 1)⟩, true) ∧
      M.nsize ⟨false, n.keys.take k, [], n.kids.take (k + 1)⟩ ≤ 240 ∧ M.nsize ⟨false, n.keys.drop (k + 1), [], n.kids.drop (k + 1)⟩ ≤ 240 := by
  have hsz := nsize_branch hl hk
  have hlen : n.keys.length = 24 := by omega
  obtain ⟨r, h1, h2, h3, h4, h5⟩ := splitAt_spec n 21 1
  have hf : ∀ k, M.nfront n k = ⟨false, n.keys.take k, [], n.kids.take (k + 1)⟩ := fun k => by rw [M.nfront, if_neg (by simp [hl])]
  have hb : ∀ k, M.nback n k = ⟨false, n.keys.drop (k + 1), [], n.kids.drop (k + 1)⟩ := fun k => by rw [M.nback, if_neg (by simp [hl])]
  have szf : ∀ k, k ≤ n.keys.length → M.nsize ⟨false, n.keys.take k, [], n.kids.take (k + 1)⟩ = 3 + 10 * k := fun k hk' => by
    rw [nsize_branch rfl (by simp only [List.length_take]; omega)]; simp only [List.length_take]; omega
  have szb : ∀ k, k < n.keys.length → M.nsize ⟨false, n.keys.drop (k + 1), [], n.kids.drop (k + 1)⟩ = 3 + 10 * (n.keys.length - (k + 1)) := fun k hk' => by
    rw [nsize_branch rfl (by simp only [List.length_drop]; omega)]; simp only [List.length_drop]
  refine ⟨r, h2, by omega, ?_, ?_, ?_⟩
  · rw [M.nsplit]
    simp only [hl, Bool.false_eq_true, if_false]
    rw [if_neg (by omega), show ((n.keys.length : Int) - 1 - 1 - 1).toNat = 21 by omega, h1, hf, hb]
  · rw [szf r (by omega)]; omega
  · rw [szb r (by omega)]; omega
end Go.Proofs.YtbdhhedfplkidaaGreat
/- Plain facts: steps of a store: which pages are taken and given, and which nodes stay. -/
namespace Go.Proofs.YtbdhhedfplkidaaGreat
open M (Str Store Disk Work Spot)
structure Good (S : Store) : Prop where
  hl : Hl S
  size : 8 ≤ S.size
  most : S.size ≤ 640
  nd : S.fresh.Nodup
  free : ∀ p ∈ S.fresh, M.has S.used p = false
  rng : ∀ p ∈ S.fresh, 2 ≤ p ∧ p < S.size
  giv : ∀ p ∈ S.given, M.has S.used p = true
  len : S.used.length = 80
  gnd : S.given.Nodup
/-- What counts is as it was. -/
structure Base (S S2 : Store) : Prop where
  good : Good S2
  size : S2.size = S.size
  used : S2.used = S.used
  root : S2.root = S.root
  gen : S2.gen = S.gen
  head : ∀ i : Nat, i < 2 → S2.d.now.getD i [] = S.d.now.getD i []
  kept : ∀ b n, Pn S b n → M.has S.used b = true → Pn S2 b n
/-- The pages A became the pages B; at most k pages were taken. -/
structure Step (S S2 : Store) (A B : List Int) (k : Int) : Prop where
  base : Base S S2
  fresh : ∀ p, p ∈ S2.fresh ↔ (p ∈ S.fresh ∧ p ∉ A) ∨ (p ∈ B ∧ M.has S.used p = false)
  given : ∀ p, p ∈ S2.given ↔ p ∈ S.given ∨ (p ∈ A ∧ M.has S.used p = true ∧ p ∉ B)
  nd : B.Nodup
  new : ∀ p ∈ B, p ∈ A ∨ (p ∉ S.fresh ∧ M.has S.used p = false)
  keep : ∀ b n, Pn S b n → b ∈ S.fresh → b ∉ A → Pn S2 b n
  left : S.left ≤ S2.left + k
/-- Pages that may be given. -/
structure Own (S : Store) (A : List Int) : Prop where
  nd : A.Nodup
  own : ∀ p ∈ A, p ∈ S.fresh ∨ (M.has S.used p = true ∧ p ∉ S.given)
theorem Own.have {S : Store} {A : List Int} (h : Own S A) : ∀ p ∈ A, p ∈ S.fresh ∨ M.has S.used p = true := fun p hp => (h.own p hp).imp id (·.1)
theorem base_refl {S : Store} (g : Good S) : Base S S := ⟨g, rfl, rfl, rfl, rfl, fun _ _ => rfl, fun _ _ h _ => h⟩
theorem Base.trans {S S2 S3 : Store} (h : Base S S2) (h' : Base S2 S3) : Base S S3 :=
  ⟨h'.good, h'.size.trans h.size, h'.used.trans h.used, h'.root.trans h.root, h'.gen.trans h.gen, fun i hi => (h'.head i hi).trans (h.head i hi), fun b n hp hu => h'.kept b n (h.kept b n hp hu) (by rw [h.used]; exact hu)⟩
theorem step_refl {S : Store} (g : Good S) : Step S S [] [] 0 :=
  ⟨base_refl g, by simp, by simp, by simp, by simp, fun _ _ h _ _ => h, by omega⟩
theorem Step.weak {S S2 : Store} {A B : List Int} {k k' : Int} (h : Step S S2 A B k) (hk : k ≤ k') : Step S S2 A B k' :=
  ⟨h.base, h.fresh, h.given, h.nd, h.new, h.keep, by have := h.left; omega⟩
theorem Step.perm {S S2 : Store} {A B A' B' : List Int} {k : Int} (h : Step S S2 A B k) (ha : ∀ p, p ∈ A ↔ p ∈ A') (hb : B.Perm B') : Step S S2 A' B' k :=
  ⟨h.base, fun p => by rw [h.fresh p, ha p, hb.mem_iff], fun p => by rw [h.given p, ha p, hb.mem_iff], hb.nodup_iff.1 h.nd, fun p hp => by rw [← ha p]; exact h.new p (hb.mem_iff.2 hp), fun b n h1 h2 h3 => h.keep b n h1 h2 (by rw [ha b]; exact h3), h.left⟩
theorem Step.frame {S S2 : Store} {A B : List Int} {k : Int} (h : Step S S2 A B k) (g : Good S) {R : List Int} (hn : R.Nodup) (ho : ∀ p ∈ R, p ∈ S.fresh ∨ M.has S.used p = true) (hd : ∀ p ∈ R, p ∉ A) : Step S S2 (A ++ R) (B ++ R) k := by
  have hb : ∀ p ∈ R, p ∉ B := fun p hp hpb => by
    rcases h.new p hpb with h1 | ⟨h1, h2⟩
    · exact hd p hp h1
    · rcases ho p hp with h3 | h3
      · exact h1 h3
      · rw [h2] at h3; cases h3
  refine ⟨h.base, fun p => ?_, fun p => ?_, ?_, fun p hp => ?_, fun b n h1 h2 h3 => h.keep b n h1 h2 (fun hh => h3 (by simp [hh])), h.left⟩
  · rw [h.fresh p]
    simp only [List.mem_append, not_or]
    constructor
    · rintro (⟨h1, h2⟩ | ⟨h1, h2⟩)
      · by_cases hr : p ∈ R
        · exact .inr ⟨.inr hr, g.free p h1⟩
        · exact .inl ⟨h1, h2, hr⟩
      · exact .inr ⟨.inl h1, h2⟩
    · rintro (⟨h1, h2, h3⟩ | ⟨h1 | h1, h2⟩)
      · exact .inl ⟨h1, h2⟩
      · exact .inr ⟨h1, h2⟩
      · rcases ho p h1 with h4 | h4
        · exact .inl ⟨h4, hd p h1⟩
        · rw [h2] at h4; cases h4
  · rw [h.given p]
    simp only [List.mem_append, not_or]
    constructor
    · rintro (h1 | ⟨h1, h2, h3⟩)
      · exact .inl h1
      · exact .inr ⟨.inl h1, h2, h3, fun h4 => hd p h4 h1⟩
    · rintro (h1 | ⟨h1 | h1, h2, h3, h4⟩)
      · exact .inl h1
      · exact .inr ⟨h1, h2, h3⟩
      · exact absurd h1 h4
  · exact List.nodup_append.2 ⟨h.nd, hn, fun a ha b hb' => by rintro rfl; exact hb a hb' ha⟩
  · rcases List.mem_append.1 hp with hp | hp
    · exact (h.new p hp).imp (fun h => by simp [h]) id
    · exact .inl (by simp [hp])
theorem Step.comp {S S2 S3 : Store} {A B A' B' : List Int} {k k' : Int} (h : Step S S2 A B k) (h' : Step S2 S3 A' B' k') (h1 : ∀ p ∈ A', p ∉ B) (h2 : ∀ p ∈ A', p ∉ A) : Step S S3 (A ++ A') (B ++ B') (k + k') := by
  have hu := h.base.used
  refine ⟨h.base.trans h'.base, fun p => ?_, fun p => ?_, ?_, fun p hp => ?_, fun b n h3 h4 h5 => ?_, by have := h.left; have := h'.left; omega⟩
  · rw [h'.fresh p, h.fresh p, hu]
    simp only [List.mem_append, not_or]
    constructor
    · rintro (⟨⟨h3, h4⟩ | ⟨h3, h4⟩, h5⟩ | ⟨h3, h4⟩)
      · exact .inl ⟨h3, h4, h5⟩
      · exact .inr ⟨.inl h3, h4⟩
      · exact .inr ⟨.inr h3, h4⟩
    · rintro (⟨h3, h4, h5⟩ | ⟨h3 | h3, h4⟩)
      · exact .inl ⟨.inl ⟨h3, h4⟩, h5⟩
      · exact .inl ⟨.inr ⟨h3, h4⟩, fun h5 => h1 p h5 h3⟩
      · exact .inr ⟨h3, h4⟩
  · rw [h'.given p, h.given p, hu]
    simp only [List.mem_append, not_or]
    constructor
    · rintro ((h3 | ⟨h3, h4, h5⟩) | ⟨h3, h4, h5⟩)
      · exact .inl h3
      · refine .inr ⟨.inl h3, h4, h5, fun h6 => ?_⟩
        rcases h'.new p h6 with h7 | ⟨_, h7⟩
        · exact h2 p h7 h3
        · rw [hu, h4] at h7; cases h7
      · exact .inr ⟨.inr h3, h4, h1 p h3, h5⟩
    · rintro (h3 | ⟨h3 | h3, h4, h5, h6⟩)
      · exact .inl (.inl h3)
      · exact .inl (.inr ⟨h3, h4, h5⟩)
      · exact .inr ⟨h3, h4, h6⟩
  · refine List.nodup_append.2 ⟨h.nd, h'.nd, fun a ha b hb => ?_⟩
    rintro rfl
    rcases h'.new a hb with h7 | ⟨h7, h8⟩
    · exact h1 a h7 ha
    · exact h7 ((h.fresh a).2 (.inr ⟨ha, by rw [hu] at h8; exact h8⟩))
  · rcases List.mem_append.1 hp with hp | hp
    · exact (h.new p hp).imp (fun h => by simp [h]) id
    · rcases h'.new p hp with h3 | ⟨h3, h4⟩
      · exact .inl (by simp [h3])
      · by_cases hA : p ∈ A
        · exact .inl (by simp [hA])
        · exact .inr ⟨fun h5 => h3 ((h.fresh p).2 (.inl ⟨h5, hA⟩)), by rw [hu] at h4; exact h4⟩
  · simp only [List.mem_append, not_or] at h5
    exact h'.keep b n (h.keep b n h3 h4 h5.1) ((h.fresh b).2 (.inl ⟨h4, h5.1⟩)) h5.2
theorem Own.step {S S2 : Store} {A B : List Int} {k : Int} (h : Own S A) (g : Good S) (s : Step S S2 A B k) : Own S2 B := by
  refine ⟨s.nd, fun p hp => ?_⟩
  cases hu : M.has S.used p with
  | false => exact .inl ((s.fresh p).2 (.inr ⟨hp, hu⟩))
  | true =>
    refine .inr ⟨by rw [s.base.used]; exact hu, fun hg => ?_⟩
    rcases s.new p hp with h1 | ⟨_, h1⟩
    · rcases h.own p h1 with h2 | ⟨_, h2⟩
      · have := g.free p h2; rw [hu] at this; cases this
      · rcases (s.given p).1 hg with h3 | ⟨_, _, h3⟩
        · exact h2 h3
        · exact h3 hp
    · rw [hu] at h1; cases h1
theorem Own.other {S S2 : Store} {A B R : List Int} {k : Int} (h : Own S R) (s : Step S S2 A B k) (hd : ∀ p ∈ R, p ∉ A) : Own S2 R := by
  refine ⟨h.nd, fun p hp => ?_⟩
  rcases h.own p hp with h1 | ⟨h1, h2⟩
  · exact .inl ((s.fresh p).2 (.inl ⟨h1, hd p hp⟩))
  · refine .inr ⟨by rw [s.base.used]; exact h1, fun hg => ?_⟩
    rcases (s.given p).1 hg with h3 | ⟨h3, _⟩
    · exact h2 h3
    · exact hd p hp h3
theorem Own.left {S : Store} {A R : List Int} (h : Own S (A ++ R)) : Own S A := ⟨(List.nodup_append.1 h.nd).1, fun p hp => h.own p (by simp [hp])⟩
theorem Own.right {S : Store} {A R : List Int} (h : Own S (A ++ R)) : Own S R := ⟨(List.nodup_append.1 h.nd).2.1, fun p hp => h.own p (by simp [hp])⟩
theorem Own.apart {S : Store} {A R : List Int} (h : Own S (A ++ R)) : ∀ p ∈ R, p ∉ A := fun p hp hpa => (List.nodup_append.1 h.nd).2.2 p hpa p hp rfl
theorem Own.perm {S : Store} {A R : List Int} (h : Own S A) (hp : A.Perm R) : Own S R := ⟨hp.nodup_iff.1 h.nd, fun p h1 => h.own p (hp.mem_iff.2 h1)⟩
/-! how many bits -/
theorem has_shift (x : UInt8) (b : Str) (i : Nat) : M.has (x :: b) ((i + 8 : Nat) : Int) = M.has b i := by
  unfold M.has
  rw [show ((i + 8 : Nat) : Int).toNat = i + 8 by omega, show ((i : Nat) : Int).toNat = i by omega, show (i + 8) / 8 = i / 8 + 1 by omega, show (i + 8) % 8 = i % 8 by omega]
  simp only [List.getD_cons_succ, List.length_cons]
  congr 2
  simp
theorem has_head (x : UInt8) (b : Str) (i : Nat) (h : i < 8) : M.has (x :: b) (i : Int) = x.toNat.testBit i := by
  unfold M.has
  rw [show ((i : Nat) : Int).toNat = i by omega, show i / 8 = 0 by omega, show i % 8 = i by omega]
  simp
theorem count_filter : ∀ b : Str, M.count b = ((List.range (8 * b.length)).filter fun i => M.has b (i : Nat)).length
  | [] => by simp [M.count]
  | x :: b => by
    have ih := count_filter b
    rw [show 8 * (x :: b).length = 8 + 8 * b.length by simp; omega, List.range_add, List.filter_append, List.length_append, List.filter_map, List.length_map]
    have e1 : (List.filter (fun i : Nat => M.has (x :: b) (i : Int)) (List.range 8)) = List.filter (fun i => x.toNat.testBit i) (List.range 8) := by
      apply List.filter_congr
      intro i hi
      exact has_head x b i (by simpa using hi)
    have e2 : (fun i : Nat => M.has (x :: b) (i : Int)) ∘ (fun i => 8 + i) = fun i : Nat => M.has b (i : Int) := by
      funext i
      simp only [Function.comp]
      rw [← has_shift x b i, Nat.add_comm 8 i]
    rw [e1, e2, ← ih]
    simp [M.count]
theorem nodup_sub : ∀ (l : List Int) (m : List Nat), l.Nodup → (∀ x ∈ l, ∃ i ∈ m, x = (i : Int)) → l.length ≤ m.length
  | [], _, _, _ => by simp
  | x :: l, m, hn, h => by
    obtain ⟨i, hi, rfl⟩ := h x (by simp)
    have hx := List.nodup_cons.1 hn
    have := nodup_sub l (m.erase i) hx.2 (fun y hy => by
      obtain ⟨j, hj, rfl⟩ := h y (by simp [hy])
      refine ⟨j, (List.mem_erase_of_ne ?_).2 hj, rfl⟩
      rintro rfl
      exact hx.1 hy)
    rw [List.length_erase_of_mem hi] at this
    have := List.length_pos_of_mem hi
    simp only [List.length_cons]; omega
theorem has_range {b : Str} {p : Int} (h : M.has b p = true) : 0 ≤ p ∧ p.toNat < 8 * b.length := by
  unfold M.has at h
  simp only [Bool.and_eq_true, decide_eq_true_eq] at h
  omega
theorem count_ge {b : Str} {l : List Int} (hn : l.Nodup) (h : ∀ p ∈ l, M.has b p = true) : l.length ≤ M.count b := by
  rw [count_filter]
  refine nodup_sub l _ hn (fun p hp => ⟨p.toNat, ?_, by have := has_range (h p hp); omega⟩)
  have := has_range (h p hp)
  simp only [List.mem_filter, List.mem_range]
  exact ⟨this.2, by rw [show ((p.toNat : Nat) : Int) = p by omega]; exact h p hp⟩
theorem nodup_subset : ∀ {l m : List Int}, l.Nodup → (∀ x ∈ l, x ∈ m) → l.length ≤ m.length
  | [], _, _, _ => by simp
  | x :: l, m, hn, h => by
    have hx := List.nodup_cons.1 hn
    have hi := h x (by simp)
    have := nodup_subset (l := l) (m := m.erase x) hx.2 (fun y hy => (List.mem_erase_of_ne (by rintro rfl; exact hx.1 hy)).2 (h y (by simp [hy])))
    rw [List.length_erase_of_mem hi] at this
    have := List.length_pos_of_mem hi
    simp only [List.length_cons]; omega
/-- Where there is room there is a page. -/
theorem left_room {S : Store} (g : Good S) (h : 1 ≤ S.left) : ∃ m, 2 ≤ m ∧ m < S.size ∧ M.has S.used m = false ∧ m ∉ S.fresh := by
  by_cases hx : ∃ m, 2 ≤ m ∧ m < S.size ∧ M.has S.used m = false ∧ m ∉ S.fresh
  · exact hx
  exfalso
  have h8 := g.size
  obtain ⟨L, hL⟩ : ∃ L : List Int, L = ((List.range (S.size - 2).toNat).map fun i : Nat => (i : Int) + 2) := ⟨_, rfl⟩
  have hLn : L.Nodup := by
    rw [hL]
    exact List.pairwise_map.2 (List.Pairwise.imp (fun h e => h (by omega)) List.nodup_range)
  have hLl : L.length = (S.size - 2).toNat := by rw [hL]; simp
  have hLm : ∀ m ∈ L, 2 ≤ m ∧ m < S.size := fun m hm => by
    rw [hL] at hm
    obtain ⟨i, hi, rfl⟩ := List.mem_map.1 hm
    simp at hi; omega
  have h1 := count_ge (b := S.used) (l := L.filter (fun m => M.has S.used m)) (hLn.filter _) (fun p hp => by simpa using (List.mem_filter.1 hp).2)
  have h2 : (L.filter (fun m => !M.has S.used m)).length ≤ S.fresh.length := by
    refine nodup_subset (hLn.filter _) (fun p hp => ?_)
    have hp' := List.mem_filter.1 hp
    have hr := hLm p hp'.1
    by_cases hf : p ∈ S.fresh
    · exact hf
    · exact absurd ⟨p, hr.1, hr.2, by simpa using hp'.2, hf⟩ hx
  have h3 : L.length = (L.filter (fun m => M.has S.used m)).length + (L.filter (fun m => !M.has S.used m)).length := by
    rw [← List.countP_eq_length_filter, ← List.countP_eq_length_filter, List.length_eq_countP_add_countP (fun m => M.has S.used m)]
    congr 2
    funext m; cases M.has S.used m <;> rfl
  unfold Store.left at h
  omega
/-! one page -/
theorem putN_same' {S : Store} {at' : Int} {n : M.Node} : (putN S at' n).used = S.used ∧ (putN S at' n).fresh = S.fresh ∧ (putN S at' n).given = S.given ∧ (putN S at' n).root = S.root ∧ (putN S at' n).gen = S.gen := ⟨rfl, rfl, rfl, rfl, rfl⟩
theorem putN_head {S : Store} {at' : Int} {n : M.Node} (hl : Hl S) (h0 : 2 ≤ at') (h1 : at' < S.size) (hr : M.right n = true) (i : Nat) (hi : i < 2) : (putN S at' n).d.now.getD i [] = S.d.now.getD i [] := by
  rw [putN_now hl h0 h1 hr, List.getD_eq_getElem?_getD, List.getElem?_set_ne (by omega), ← List.getD_eq_getElem?_getD]
theorem pn_d {S S2 : Store} {b : Int} {n : M.Node} (hp : Pn S b n) (h : S2.d = S.d) : Pn S2 b n := by
  refine ⟨hp.lo, ?_, by rw [h]; exact hp.page, hp.right, hp.kb⟩
  have := hp.hi
  unfold Store.size at this ⊢
  rw [h]; exact this
/-- A page is taken, and a node laid on it. -/
theorem take_step {S : Store} {n : M.Node} {m : Int} (g : Good S) (h1 : 2 ≤ m) (h2 : m < S.size) (h3 : M.has S.used m = false) (h4 : m ∉ S.fresh) (hr : M.right n = true) (hk : KB n) :
    Step S (putN { S with fresh := S.fresh ++ [m] } m n) [] [m] 1 ∧ Pn (putN { S with fresh := S.fresh ++ [m] } m n) m n := by
  have hl' : Hl { S with fresh := S.fresh ++ [m] } := ⟨g.hl.down, g.hl.gone, g.hl.fuse⟩
  have hsz : ({ S with fresh := S.fresh ++ [m] } : Store).size = S.size := rfl
  have hs2 : (putN { S with fresh := S.fresh ++ [m] } m n).size = S.size := by rw [putN_size hl' h1 (by rw [hsz]; exact h2) hr]; rfl
  have hkeep : ∀ b k, Pn S b k → b ≠ m → Pn (putN { S with fresh := S.fresh ++ [m] } m n) b k := fun b k hp hb => putN_other hl' h1 (by rw [hsz]; exact h2) hr (pn_d hp rfl) hb
  have hnd : (S.fresh ++ [m]).Nodup := List.nodup_append.2 ⟨g.nd, by simp, fun a ha b hb => by simp at hb; subst hb; rintro rfl; exact h4 ha⟩
  refine ⟨⟨⟨⟨putN_hl hl' h1 (by rw [hsz]; exact h2) hr, by rw [hs2]; exact g.size, by rw [hs2]; exact g.most, hnd, ?_, ?_, g.giv, g.len, g.gnd⟩, hs2, rfl, rfl, rfl, fun i hi => putN_head hl' h1 (by rw [hsz]; exact h2) hr i hi, ?_⟩, ?_, ?_, by simp, ?_, ?_, ?_⟩, putN_same hl' h1 (by rw [hsz]; exact h2) hr hk⟩
  · intro p hp
    rcases List.mem_append.1 hp with hp | hp
    · exact g.free p hp
    · simp at hp; subst hp; exact h3
  · intro p hp
    rw [hs2]
    rcases List.mem_append.1 hp with hp | hp
    · exact g.rng p hp
    · simp at hp; subst hp; exact ⟨h1, h2⟩
  · intro b k hp hu
    exact hkeep b k hp (by rintro rfl; rw [h3] at hu; cases hu)
  · intro p
    show p ∈ S.fresh ++ [m] ↔ _
    simp only [List.mem_append, List.mem_singleton, List.not_mem_nil, not_false_eq_true, and_true]
    constructor
    · rintro (h | rfl)
      · exact .inl h
      · exact .inr ⟨rfl, h3⟩
    · rintro (h | ⟨rfl, _⟩)
      · exact .inl h
      · exact .inr rfl
  · intro p
    show p ∈ S.given ↔ _
    simp
  · intro p hp
    simp at hp; subst hp
    exact .inr ⟨h4, h3⟩
  · intro b k hp hb _
    exact hkeep b k hp (by rintro rfl; exact h4 hb)
  · unfold Store.left
    rw [hs2]
    show _ ≤ S.size - 2 - ↑(M.count S.used) - ((S.fresh ++ [m]).length : Int) + 1
    simp only [List.length_append, List.length_singleton]; omega
theorem fail_four (X : Work) (h : X.e = 0) : X.fail 4 = { X with e := 4 } := by
  unfold Work.fail
  rw [if_pos h]
theorem fresh_step {X : Work} {n : M.Node} (g : Good X.s) (he : X.e = 0) (hr : M.right n = true) (hk : KB n) :
    (∃ S2 m, X.fresh n = ({ X with s := S2 }, m) ∧ Step X.s S2 [] [m] 1 ∧ Pn S2 m n) ∨ ((X.fresh n).1.e = 4 ∧ Base X.s (X.fresh n).1.s ∧ X.s.left < 1) := by
  by_cases hroom : ∃ m, 2 ≤ m ∧ m < X.s.size ∧ M.has X.s.used m = false ∧ m ∉ X.s.fresh
  · obtain ⟨m, h1, h2, h3, h4, h5⟩ := fresh_ok g.hl (by have := g.size; omega) hr hk he hroom
    exact .inl ⟨_, m, h5, take_step g h1 h2 h3 h4 hr hk⟩
  · right
    have hleft : X.s.left < 1 := by
      by_cases h : 1 ≤ X.s.left
      · exact absurd (left_room g h) hroom
      · omega
    rcases take_cases g.hl (by have := g.size; omega) with ⟨m, h1, h2, h3, h4, _⟩ | ⟨h5, _⟩
    · exact absurd ⟨m, h1, h2, h3, h4⟩ hroom
    · have e : X.fresh n = ({ X with e := 4 }, 0) := by
        unfold Work.fresh
        rw [h5]
        dsimp only
        rw [show ({ X with s := X.s } : Work) = X from rfl, fail_four X he, if_pos (by simp)]
      rw [e]
      exact ⟨rfl, base_refl g, hleft⟩
theorem step_give {S : Store} {p : Int} (g : Good S) (ho : Own S [p]) : ∃ S2, S.give p = (S2, 0) ∧ Step S S2 [p] [] 0 ∧ S2.d = S.d := by
  rcases ho.own p (by simp) with hf | ⟨hu, hg⟩
  · refine ⟨{ S with fresh := S.fresh.erase p }, by unfold Store.give; rw [if_neg (by simp [g.hl.down]), if_pos hf], ?_, rfl⟩
    have hm : ∀ q, q ∈ S.fresh.erase p ↔ q ∈ S.fresh ∧ q ≠ p := fun q => by rw [g.nd.mem_erase_iff]; exact ⟨fun h => ⟨h.2, h.1⟩, fun h => ⟨h.2, h.1⟩⟩
    refine ⟨⟨⟨⟨g.hl.down, g.hl.gone, g.hl.fuse⟩, g.size, g.most, g.nd.erase p, fun q hq => g.free q ((hm q).1 hq).1, fun q hq => g.rng q ((hm q).1 hq).1, g.giv, g.len, g.gnd⟩, rfl, rfl, rfl, rfl, fun _ _ => rfl, fun b n hp _ => pn_d hp rfl⟩, fun q => ?_, fun q => ?_, by simp, by simp, fun b n hp _ _ => pn_d hp rfl, ?_⟩
    · show q ∈ S.fresh.erase p ↔ _
      rw [hm q]; simp
    · show q ∈ S.given ↔ _
      constructor
      · exact .inl
      · rintro (h | ⟨h1, h2, _⟩)
        · exact h
        · simp at h1; subst h1
          have := g.free q hf; rw [h2] at this; cases this
    · unfold Store.left
      show _ ≤ S.size - 2 - ↑(M.count S.used) - ((S.fresh.erase p).length : Int) + 0
      have := List.length_erase_of_mem hf
      omega
  · have hnf : p ∉ S.fresh := fun h => by have := g.free p h; rw [hu] at this; cases this
    refine ⟨{ S with given := S.given ++ [p] }, by unfold Store.give; rw [if_neg (by simp [g.hl.down]), if_neg hnf, if_pos ⟨hu, hg⟩], ?_, rfl⟩
    refine ⟨⟨⟨⟨g.hl.down, g.hl.gone, g.hl.fuse⟩, g.size, g.most, g.nd, g.free, g.rng, fun q hq => ?_, g.len, List.nodup_append.2 ⟨g.gnd, by simp, fun a ha b hb => by simp at hb; subst hb; rintro rfl; exact hg ha⟩⟩, rfl, rfl, rfl, rfl, fun _ _ => rfl, fun b n hp _ => pn_d hp rfl⟩, fun q => ?_, fun q => ?_, by simp, by simp, fun b n hp _ _ => pn_d hp rfl, ?_⟩
    · rcases List.mem_append.1 hq with hq | hq
      · exact g.giv q hq
      · simp at hq; subst hq; exact hu
    · show q ∈ S.fresh ↔ _
      constructor
      · exact fun h => .inl ⟨h, by rintro h1; simp at h1; subst h1; exact hnf h⟩
      · rintro (⟨h, _⟩ | ⟨h, _⟩)
        · exact h
        · simp at h
    · show q ∈ S.given ++ [p] ↔ _
      simp only [List.mem_append, List.mem_singleton, List.not_mem_nil, not_false_eq_true, and_true]
      constructor
      · rintro (h | rfl)
        · exact .inl h
        · exact .inr ⟨rfl, hu⟩
      · rintro (h | ⟨rfl, _⟩)
        · exact .inl h
        · exact .inr rfl
    · unfold Store.left
      show _ ≤ S.size - 2 - ↑(M.count S.used) - (S.fresh.length : Int) + 0
      omega
/-- A node is laid that has changed. -/
theorem lay_step {X : Work} {at' : Int} {n : M.Node} (g : Good X.s) (he : X.e = 0) (ho : Own X.s [at']) (h0 : 2 ≤ at') (h1 : at' < X.s.size) (hr : M.right n = true) (hk : KB n) :
    (∃ S2 m, X.lay at' n = ({ X with s := S2 }, m) ∧ Step X.s S2 [at'] [m] 1 ∧ Pn S2 m n) ∨ ((X.lay at' n).1.e = 4 ∧ Base X.s (X.lay at' n).1.s ∧ X.s.left < 1) := by
  by_cases hf : at' ∈ X.s.fresh
  · refine .inl ⟨_, at', lay_fresh_ok g.hl hf h0 h1 hr hk he, ?_, putN_same g.hl h0 h1 hr hk⟩
    have hs2 := putN_size g.hl h0 h1 hr
    refine ⟨⟨⟨putN_hl g.hl h0 h1 hr, by rw [hs2]; exact g.size, by rw [hs2]; exact g.most, g.nd, g.free, by rw [hs2]; exact g.rng, g.giv, g.len, g.gnd⟩, hs2, rfl, rfl, rfl, fun i hi => putN_head g.hl h0 h1 hr i hi, fun b k hp hu => ?_⟩, fun p => ?_, fun p => ?_, by simp, by simp, fun b k hp _ hb => putN_other g.hl h0 h1 hr hp (by simpa using hb), ?_⟩
    · refine putN_other g.hl h0 h1 hr hp ?_
      rintro rfl
      have := g.free b hf; rw [hu] at this; cases this
    · show p ∈ X.s.fresh ↔ _
      simp only [List.mem_singleton]
      constructor
      · intro h
        by_cases hp : p = at'
        · subst hp; exact .inr ⟨rfl, g.free p hf⟩
        · exact .inl ⟨h, hp⟩
      · rintro (⟨h, _⟩ | ⟨rfl, _⟩)
        · exact h
        · exact hf
    · show p ∈ X.s.given ↔ _
      simp only [List.mem_singleton]
      constructor
      · exact .inl
      · rintro (h | ⟨h2, _, h3⟩)
        · exact h
        · exact absurd h2 h3
    · unfold Store.left
      rw [hs2]
      show _ ≤ X.s.size - 2 - ↑(M.count X.s.used) - (X.s.fresh.length : Int) + 1
      omega
  · obtain ⟨S1, hg, hs, hd⟩ := step_give g ho
    have e : X.lay at' n = ({ X with s := S1 } : Work).fresh n := by
      unfold Work.lay
      rw [if_neg hf, hg]
      dsimp only
      rw [fail_zero _ (by exact he), if_neg (by simpa using he)]
    rw [e]
    rcases fresh_step (X := { X with s := S1 }) (n := n) hs.base.good he hr hk with ⟨S2, m, h2, h3, h4⟩ | ⟨h2, h3, h4⟩
    · exact .inl ⟨S2, m, h2, by simpa using hs.comp h3 (by simp) (by simp), h4⟩
    · refine .inr ⟨h2, hs.base.trans h3, ?_⟩
      have := hs.left
      dsimp only at h4
      omega
end Go.Proofs.YtbdhhedfplkidaaGreat
/- Plain facts: a tree, as what it holds. -/
namespace Go.Proofs.YtbdhhedfplkidaaGreat
open M (Str Store Disk Work Spot)
abbrev TP := Int → KV → List Int → Prop
/-- Kids, with a key between each two. -/
def KidsT (T : TP) : List Nat → List Int → KV → List Int → Prop
  | [], [c], kvs, pgs => T c kvs pgs
  | k :: ks, c :: cs, kvs, pgs => ∃ l1 p1 l2 p2, T c l1 p1 ∧ KidsT T ks cs l2 p2 ∧ (∀ x ∈ l1, x.1 < k) ∧ (∀ x ∈ l2, k ≤ x.1) ∧ kvs = l1 ++ l2 ∧ pgs = p1 ++ p2
  | _, _, _, _ => False
/-- Kids, with a key behind each. -/
def KidsL (T : TP) : List Nat → List Int → KV → List Int → Prop
  | [], [], kvs, pgs => kvs = [] ∧ pgs = []
  | k :: ks, c :: cs, kvs, pgs => ∃ l1 p1 l2 p2, T c l1 p1 ∧ KidsL T ks cs l2 p2 ∧ (∀ x ∈ l1, x.1 < k) ∧ (∀ x ∈ l2, k ≤ x.1) ∧ kvs = l1 ++ l2 ∧ pgs = p1 ++ p2
  | _, _, _, _ => False
def Tree (S : Store) : Nat → TP
  | 0, at', kvs, pgs => ∃ n, Pn S at' n ∧ n.leaf = true ∧ kvs = lkv n ∧ pgs = [at']
  | h + 1, at', kvs, pgs => ∃ n cs, Pn S at' n ∧ n.leaf = false ∧ n.keys ≠ [] ∧ KidsT (Tree S h) n.keys n.kids kvs cs ∧ pgs = at' :: cs
theorem kids_mono {T T' : TP} : ∀ {ks : List Nat} {cs : List Int} {kvs : KV} {pgs : List Int}, KidsT T ks cs kvs pgs → (∀ c l p, T c l p → (∀ x ∈ p, x ∈ pgs) → T' c l p) → KidsT T' ks cs kvs pgs
  | [], [c], kvs, pgs, h, f => f c kvs pgs h (fun _ h => h)
  | k :: ks, c :: cs, kvs, pgs, ⟨l1, p1, l2, p2, h1, h2, h3, h4, e1, e2⟩, f =>
    ⟨l1, p1, l2, p2, f c l1 p1 h1 (fun x hx => by subst e2; simp [hx]), kids_mono h2 (fun c l p h hs => f c l p h (fun x hx => by subst e2; simp [hs x hx])), h3, h4, e1, e2⟩
theorem kidsL_mono {T T' : TP} : ∀ {ks : List Nat} {cs : List Int} {kvs : KV} {pgs : List Int}, KidsL T ks cs kvs pgs → (∀ c l p, T c l p → (∀ x ∈ p, x ∈ pgs) → T' c l p) → KidsL T' ks cs kvs pgs
  | [], [], kvs, pgs, h, f => h
  | k :: ks, c :: cs, kvs, pgs, ⟨l1, p1, l2, p2, h1, h2, h3, h4, e1, e2⟩, f =>
    ⟨l1, p1, l2, p2, f c l1 p1 h1 (fun x hx => by subst e2; simp [hx]), kidsL_mono h2 (fun c l p h hs => f c l p h (fun x hx => by subst e2; simp [hs x hx])), h3, h4, e1, e2⟩
/-- A tree whose pages are kept. -/
theorem tree_keep {S S2 : Store} : ∀ {h : Nat} {at' : Int} {kvs : KV} {pgs : List Int}, Tree S h at' kvs pgs → (∀ b ∈ pgs, ∀ n, Pn S b n → Pn S2 b n) → Tree S2 h at' kvs pgs
  | 0, at', kvs, pgs, ⟨n, h1, h2, h3, h4⟩, f => ⟨n, f at' (by subst h4; simp) n h1, h2, h3, h4⟩
  | h + 1, at', kvs, pgs, ⟨n, cs, h1, h2, h3, h4, h5⟩, f =>
    ⟨n, cs, f at' (by subst h5; simp) n h1, h2, h3, kids_mono h4 (fun c l p ht hs => tree_keep ht (fun b hb => f b (by subst h5; simp [hs b hb]))), h5⟩
/-- What each kid is. -/
structure Fact (T : TP) : Prop where
  ne : ∀ {c l p}, T c l p → l ≠ []
  srt : ∀ {c l p}, T c l p → Srt l
  kb : ∀ {c l p}, T c l p → ∀ x ∈ l, x.1 < 18446744073709551616
  vb : ∀ {c l p}, T c l p → ∀ x ∈ l, x.2.length ≤ 40
  pages : ∀ {c l p}, T c l p → p.length + 1 ≤ 2 * l.length
  at' : ∀ {c l p}, T c l p → c ∈ p
  rng : ∀ {c l p}, T c l p → ∀ x ∈ p, 2 ≤ x ∧ x < 640
theorem srt_append {l m : KV} (h1 : Srt l) (h2 : Srt m) (k : Nat) (h3 : ∀ x ∈ l, x.1 < k) (h4 : ∀ x ∈ m, k ≤ x.1) : Srt (l ++ m) :=
  List.pairwise_append.2 ⟨h1, h2, fun a ha b hb => Nat.lt_of_lt_of_le (h3 a ha) (h4 b hb)⟩
theorem kids_len {T : TP} : ∀ {ks : List Nat} {cs : List Int} {kvs : KV} {pgs : List Int}, KidsT T ks cs kvs pgs → cs.length = ks.length + 1
  | [], [c], kvs, pgs, h => rfl
  | k :: ks, c :: cs, kvs, pgs, ⟨l1, p1, l2, p2, h1, h2, h3, h4, e1, e2⟩ => by simp [kids_len h2]
theorem kidsL_len {T : TP} : ∀ {ks : List Nat} {cs : List Int} {kvs : KV} {pgs : List Int}, KidsL T ks cs kvs pgs → cs.length = ks.length
  | [], [], kvs, pgs, h => rfl
  | k :: ks, c :: cs, kvs, pgs, ⟨l1, p1, l2, p2, h1, h2, h3, h4, e1, e2⟩ => by simp [kidsL_len h2]
theorem kids_ne {T : TP} (F : Fact T) : ∀ {ks : List Nat} {cs : List Int} {kvs : KV} {pgs : List Int}, KidsT T ks cs kvs pgs → kvs ≠ []
  | [], [c], kvs, pgs, h => F.ne h
  | k :: ks, c :: cs, kvs, pgs, ⟨l1, p1, l2, p2, h1, h2, h3, h4, e1, e2⟩ => by have := F.ne h1; subst e1; simp [this]
theorem kids_fact {T : TP} (F : Fact T) : ∀ {ks : List Nat} {cs : List Int} {kvs : KV} {pgs : List Int}, KidsT T ks cs kvs pgs →
    Srt kvs ∧ (∀ x ∈ kvs, x.1 < 18446744073709551616) ∧ (∀ x ∈ kvs, x.2.length ≤ 40) ∧ pgs.length + ks.length + 1 ≤ 2 * kvs.length ∧ (∀ x ∈ pgs, 2 ≤ x ∧ x < 640) ∧ (∀ c ∈ cs, c ∈ pgs) ∧ (∀ k ∈ ks, ∃ x ∈ kvs, k ≤ x.1)
  | [], [c], kvs, pgs, h => ⟨F.srt h, F.kb h, F.vb h, by have := F.pages h; simpa using this, F.rng h, fun d hd => by simp at hd; subst hd; exact F.at' h, by simp⟩
  | k :: ks, c :: cs, kvs, pgs, ⟨l1, p1, l2, p2, h1, h2, h3, h4, e1, e2⟩ => by
    obtain ⟨a1, a2, a3, a4, a5, a6, a7⟩ := kids_fact F h2
    have b4 := F.pages h1
    subst e1 e2
    refine ⟨srt_append (F.srt h1) a1 k h3 h4, fun x hx => ?_, fun x hx => ?_, by simp; omega, fun x hx => ?_, fun d hd => ?_, fun j hj => ?_⟩
    · exact (List.mem_append.1 hx).elim (F.kb h1 x) (a2 x)
    · exact (List.mem_append.1 hx).elim (F.vb h1 x) (a3 x)
    · exact (List.mem_append.1 hx).elim (F.rng h1 x) (a5 x)
    · rcases List.mem_cons.1 hd with rfl | hd
      · simp [F.at' h1]
      · simp [a6 d hd]
    · rcases List.mem_cons.1 hj with rfl | hj
      · obtain ⟨x, hx⟩ := List.exists_mem_of_ne_nil _ (kids_ne F h2)
        exact ⟨x, by simp [hx], h4 x hx⟩
      · obtain ⟨x, hx, hh⟩ := a7 j hj
        exact ⟨x, by simp [hx], hh⟩
/-- The keys between rise. -/
theorem kids_rise {T : TP} (F : Fact T) : ∀ {ks : List Nat} {cs : List Int} {kvs : KV} {pgs : List Int}, KidsT T ks cs kvs pgs → ks.Pairwise (· < ·) ∧ (∀ a, (∀ x ∈ kvs, a ≤ x.1) → ∀ k ∈ ks, a < k)
  | [], [c], kvs, pgs, h => ⟨List.Pairwise.nil, by simp⟩
  | k :: ks, c :: cs, kvs, pgs, ⟨l1, p1, l2, p2, h1, h2, h3, h4, e1, e2⟩ => by
    obtain ⟨a1, a2⟩ := kids_rise F h2
    have hk := a2 k h4
    refine ⟨List.Pairwise.cons hk a1, fun a ha j hj => ?_⟩
    obtain ⟨x, hx⟩ := List.exists_mem_of_ne_nil _ (F.ne h1)
    have h5 := ha x (by subst e1; simp [hx])
    have h6 := h3 x hx
    rcases List.mem_cons.1 hj with rfl | hj
    · omega
    · have := hk j hj; omega
/-- Cut ahead of a kid, and put together again. -/
theorem kids_cut {T : TP} : ∀ {ks : List Nat} {cs : List Int} {kvs : KV} {pgs : List Int} (i : Nat), KidsT T ks cs kvs pgs → i ≤ ks.length →
    ∃ l1 p1 l2 p2, KidsL T (ks.take i) (cs.take i) l1 p1 ∧ KidsT T (ks.drop i) (cs.drop i) l2 p2 ∧ kvs = l1 ++ l2 ∧ pgs = p1 ++ p2 ∧ (∀ k ∈ ks.take i, ∀ x ∈ l2, k ≤ x.1)
  | ks, cs, kvs, pgs, 0, h, hi => ⟨[], [], kvs, pgs, ⟨rfl, rfl⟩, h, rfl, rfl, by simp⟩
  | k :: ks, c :: cs, kvs, pgs, i + 1, ⟨l1, p1, l2, p2, h1, h2, h3, h4, e1, e2⟩, hi => by
    obtain ⟨m1, q1, m2, q2, g1, g2, g3, g4, g5⟩ := kids_cut (T := T) i h2 (by simpa using hi)
    subst e1 e2 g3 g4
    refine ⟨l1 ++ m1, p1 ++ q1, m2, q2, ⟨l1, p1, m1, q1, h1, g1, h3, fun x hx => h4 x (by simp [hx]), rfl, rfl⟩, g2, by simp, by simp, fun j hj x hx => ?_⟩
    rw [List.take_succ_cons] at hj
    rcases List.mem_cons.1 hj with rfl | hj
    · exact h4 x (by simp [hx])
    · exact g5 j hj x hx
theorem kids_join {T : TP} : ∀ {ks1 ks2 : List Nat} {cs1 cs2 : List Int} {l1 l2 : KV} {p1 p2 : List Int}, KidsL T ks1 cs1 l1 p1 → KidsT T ks2 cs2 l2 p2 → (∀ k ∈ ks1, ∀ x ∈ l2, k ≤ x.1) → KidsT T (ks1 ++ ks2) (cs1 ++ cs2) (l1 ++ l2) (p1 ++ p2)
  | [], ks2, [], cs2, l1, l2, p1, p2, ⟨e1, e2⟩, h, _ => by subst e1 e2; simpa using h
  | k :: ks1, ks2, c :: cs1, cs2, l1, l2, p1, p2, ⟨m1, q1, m2, q2, h1, h2, h3, h4, e1, e2⟩, h, hb => by
    subst e1 e2
    refine ⟨m1, q1, m2 ++ l2, q2 ++ p2, h1, kids_join h2 h (fun j hj => hb j (by simp [hj])), h3, fun x hx => ?_, by simp, by simp⟩
    rcases List.mem_append.1 hx with hx | hx
    · exact h4 x hx
    · exact hb k (by simp) x hx
theorem kidsL_lt {T : TP} : ∀ {ks : List Nat} {cs : List Int} {kvs : KV} {pgs : List Int}, KidsL T ks cs kvs pgs → ∀ x ∈ kvs, ∃ k ∈ ks, x.1 < k
  | [], [], kvs, pgs, ⟨e1, _⟩, x, hx => by subst e1; simp at hx
  | k :: ks, c :: cs, kvs, pgs, ⟨m1, q1, m2, q2, h1, h2, h3, h4, e1, e2⟩, x, hx => by
    subst e1
    rcases List.mem_append.1 hx with hx | hx
    · exact ⟨k, by simp, h3 x hx⟩
    · obtain ⟨j, hj, h⟩ := kidsL_lt h2 x hx
      exact ⟨j, by simp [hj], h⟩
/-- Cut at a key. -/
theorem kids_halve {T : TP} (F : Fact T) {ks : List Nat} {cs : List Int} {kvs : KV} {pgs : List Int} {i : Nat} (h : KidsT T ks cs kvs pgs) (hi : i < ks.length) :
    ∃ l1 p1 l2 p2, KidsT T (ks.take i) (cs.take (i + 1)) l1 p1 ∧ KidsT T (ks.drop (i + 1)) (cs.drop (i + 1)) l2 p2 ∧ kvs = l1 ++ l2 ∧ pgs = p1 ++ p2 ∧ (∀ x ∈ l1, x.1 < ks[i]) ∧ (∀ x ∈ l2, ks[i] ≤ x.1) := by
  have hr := (kids_rise F h).1
  have hl := kids_len h
  obtain ⟨l1, p1, l2, p2, h1, h2, e1, e2, h3⟩ := kids_cut i h (by omega)
  rw [List.drop_eq_getElem_cons hi, List.drop_eq_getElem_cons (show i < cs.length by omega)] at h2
  obtain ⟨m1, q1, m2, q2, g1, g2, g3, g4, f1, f2⟩ := h2
  subst e1 e2 f1 f2
  refine ⟨l1 ++ m1, p1 ++ q1, m2, q2, ?_, g2, by simp, by simp, fun x hx => ?_, g4⟩
  · have := kids_join (ks2 := []) (cs2 := [cs[i]]) h1 g1 (fun k hk x hx => h3 k hk x (by simp [hx]))
    rw [List.append_nil] at this
    rw [List.take_add_one, List.getElem?_eq_getElem (show i < cs.length by omega)]
    exact this
  · rcases List.mem_append.1 hx with hx | hx
    · obtain ⟨k, hk, hh⟩ := kidsL_lt h1 x hx
      obtain ⟨j, hj, rfl⟩ := List.mem_iff_getElem.1 hk
      simp only [List.length_take] at hj
      rw [List.getElem_take] at hh
      have := pw_lt hr (show j < i by omega) hi
      omega
    · exact g3 x hx
/-- Two rows of kids, with a key between. -/
theorem kids_both {T : TP} : ∀ {ks1 ks2 : List Nat} {cs1 cs2 : List Int} {l1 l2 : KV} {p1 p2 : List Int} {mid : Nat}, KidsT T ks1 cs1 l1 p1 → KidsT T ks2 cs2 l2 p2 → (∀ x ∈ l1, x.1 < mid) → (∀ x ∈ l2, mid ≤ x.1) → (∀ k ∈ ks1, k ≤ mid) → KidsT T (ks1 ++ mid :: ks2) (cs1 ++ cs2) (l1 ++ l2) (p1 ++ p2)
  | [], ks2, [c], cs2, l1, l2, p1, p2, mid, h1, h2, h3, h4, _ => ⟨l1, p1, l2, p2, h1, h2, h3, h4, rfl, rfl⟩
  | k :: ks1, ks2, c :: cs1, cs2, l1, l2, p1, p2, mid, ⟨m1, q1, m2, q2, g1, g2, g3, g4, f1, f2⟩, h2, h3, h4, h5 => by
    subst f1 f2
    refine ⟨m1, q1, m2 ++ l2, q2 ++ p2, g1, kids_both g2 h2 (fun x hx => h3 x (by simp [hx])) h4 (fun j hj => h5 j (by simp [hj])), g3, fun x hx => ?_, by simp, by simp⟩
    rcases List.mem_append.1 hx with hx | hx
    · exact g4 x hx
    · exact Nat.le_trans (h5 k (by simp)) (h4 x hx)
/-! a tree's facts -/
theorem zip_snd {α β : Type} : ∀ {l : List α} {m : List β}, l.length = m.length → (l.zip m).map (·.2) = m
  | [], [], _ => rfl
  | a :: l, b :: m, h => by simp [zip_snd (l := l) (m := m) (by simpa using h)]
  | [], _ :: _, h => by simp at h
  | _ :: _, [], h => by simp at h
structure LeafOk (n : M.Node) : Prop where
  vals : n.vals.length = n.keys.length
  kids : n.kids = []
  ne : 0 < n.keys.length
  rise : n.keys.Pairwise (· < ·)
  v40 : ∀ v ∈ n.vals, v.length ≤ 40
  size : M.nsize n ≤ 240
theorem right_leaf {n : M.Node} (h : M.right n = true) (hl : n.leaf = true) : LeafOk n := by
  have hr := right_rise h
  simp only [M.right, M.plain, Bool.and_eq_true, beq_iff_eq, List.all_eq_true, decide_eq_true_eq, Bool.or_eq_true, Bool.not_eq_true', hl, if_true] at h
  exact ⟨h.1.1.1.1.1.1, List.length_eq_zero_iff.1 h.1.1.1.1.1.2, h.1.2.resolve_left (by simp), hr, h.1.1.1.2, h.2⟩
theorem leaf_right {n : M.Node} (hl : n.leaf = true) (h : LeafOk n) : M.right n = true := by
  have := h.vals
  have := h.kids
  exact right_mk (by rw [hl]; simpa) (by rw [hl]; simpa) h.rise h.v40 (by rw [h.kids]; simp) (fun _ => h.ne) h.size
theorem tree_fact (S : Store) (hs : S.size ≤ 640) : ∀ h, Fact (Tree S h)
  | 0 => by
    have key : ∀ {c l p}, Tree S 0 c l p → ∃ n, Pn S c n ∧ LeafOk n ∧ l = lkv n ∧ p = [c] := fun ⟨n, h1, h2, h3, h4⟩ => ⟨n, h1, right_leaf h1.right h2, h3, h4⟩
    refine ⟨fun h => ?_, fun h => ?_, fun h => ?_, fun h => ?_, fun h => ?_, fun h => ?_, fun h => ?_⟩ <;> obtain ⟨n, h1, h2, rfl, rfl⟩ := key h
    · intro e
      have e2 : (n.keys.zip n.vals).length = 0 := by rw [show n.keys.zip n.vals = [] from e]; rfl
      rw [List.length_zip, h2.vals, Nat.min_self] at e2
      have := h2.ne
      omega
    · exact lkv_srt h2.rise h2.vals
    · intro x hx; exact h1.kb _ (List.of_mem_zip hx).1
    · intro x hx; exact h2.v40 _ (List.of_mem_zip hx).2
    · rw [List.length_zip, h2.vals]; have := h2.ne; simp; omega
    · simp
    · intro x hx
      simp at hx; subst hx
      have := h1.lo; have := h1.hi; omega
  | h + 1 => by
    have F := tree_fact S hs h
    refine ⟨fun ht => ?_, fun ht => ?_, fun ht => ?_, fun ht => ?_, fun ht => ?_, fun ht => ?_, fun ht => ?_⟩ <;> obtain ⟨n, cs, h1, h2, h3, h4, rfl⟩ := ht
    · exact kids_ne F h4
    · exact (kids_fact F h4).1
    · exact (kids_fact F h4).2.1
    · exact (kids_fact F h4).2.2.1
    · have := (kids_fact F h4).2.2.2.1
      have := List.length_pos_iff.2 h3
      simp only [List.length_cons]; omega
    · simp
    · intro x hx
      rcases List.mem_cons.1 hx with rfl | hx
      · have := h1.lo; have := h1.hi; omega
      · exact (kids_fact F h4).2.2.2.2.1 x hx
theorem kids_pow {T : TP} {m : Nat} (F : ∀ {c l p}, T c l p → m ≤ l.length) : ∀ {ks : List Nat} {cs : List Int} {kvs : KV} {pgs : List Int}, KidsT T ks cs kvs pgs → m * (ks.length + 1) ≤ kvs.length
  | [], [c], kvs, pgs, h => by have := F h; simpa using this
  | k :: ks, c :: cs, kvs, pgs, ⟨l1, p1, l2, p2, h1, h2, h3, h4, e1, e2⟩ => by
    have a := F h1
    have b := kids_pow F h2
    subst e1
    rw [List.length_append, List.length_cons, Nat.mul_add m (ks.length + 1) 1]; omega
theorem tree_pow (S : Store) (hs : S.size ≤ 640) : ∀ h {c l p}, Tree S h c l p → 2 ^ h ≤ l.length
  | 0, c, l, p, ht => by
    have := List.length_pos_iff.2 ((tree_fact S hs 0).ne ht)
    rw [Nat.pow_zero]; exact this
  | h + 1, c, l, p, ⟨n, cs, h1, h2, h3, h4, _⟩ => by
    have a := kids_pow (m := 2 ^ h) (fun ht => tree_pow S hs h ht) h4
    have := List.length_pos_iff.2 h3
    have : 2 ^ h * 2 ≤ 2 ^ h * (n.keys.length + 1) := Nat.mul_le_mul_left _ (by omega)
    rw [Nat.pow_succ]; omega
theorem tree_low {S : Store} (hs : S.size ≤ 640) {h : Nat} {c : Int} {l : KV} {p : List Int} (ht : Tree S h c l p) (hl : l.length < 1024) : h ≤ 9 := by
  have := tree_pow S hs h ht
  by_cases hh : h ≤ 9
  · exact hh
  · have : 2 ^ 10 ≤ 2 ^ h := Nat.pow_le_pow_right (by omega) (by omega)
    omega
/-- A branch that holds kids is right. -/
theorem branch_right {T : TP} (F : Fact T) {ks : List Nat} {cs : List Int} {kvs : KV} {pgs : List Int} (h : KidsT T ks cs kvs pgs) (hs : ks.length ≤ 23) : M.right ⟨false, ks, [], cs⟩ = true ∧ KB ⟨false, ks, [], cs⟩ := by
  have hl := kids_len h
  obtain ⟨a1, a2, a3, a4, a5, a6, a7⟩ := kids_fact F h
  refine ⟨right_mk rfl (by simpa using hl) (kids_rise F h).1 (by simp) (fun c hc => a5 c (a6 c hc)) (by simp) ?_, fun k hk => ?_⟩
  · rw [nsize_branch rfl hl]; dsimp only; omega
  · obtain ⟨x, hx, hh⟩ := a7 k hk
    have := a2 x hx
    omega
end Go.Proofs.YtbdhhedfplkidaaGreat
/- Plain facts: a key with a value is put into a tree: what it holds then. -/
namespace Go.Proofs.YtbdhhedfplkidaaGreat
open M (Str Store Disk Work Spot)
theorem find_spec {n : M.Node} {key : Nat} (hl : n.leaf = false) (hs : n.keys.Pairwise (· < ·)) : (M.find n key).1 ≤ n.keys.length ∧ (∀ k ∈ n.keys.take (M.find n key).1, k ≤ key) ∧ (∀ k ∈ n.keys.drop (M.find n key).1, key < k) := by
  obtain ⟨h1, h2, h3, h4⟩ := place_spec hs key
  have e : (M.find n key).1 = if (M.place n.keys key).2 then (M.place n.keys key).1 + 1 else (M.place n.keys key).1 := by
    rw [M.find, if_neg (by simp [hl])]
  rw [e]
  obtain ⟨j, hj⟩ : ∃ j, (M.place n.keys key).1 = j := ⟨_, rfl⟩
  rw [hj] at h1 h2 h3 h4 ⊢
  cases ht : (M.place n.keys key).2 with
  | true =>
    obtain ⟨hjl, hjk⟩ := List.getElem?_eq_some_iff.1 (h4.1 ht)
    rw [if_pos rfl]
    refine ⟨by omega, fun k hk => ?_, fun k hk => ?_⟩
    · obtain ⟨i, hi, rfl⟩ := List.mem_iff_getElem.1 hk
      simp only [List.length_take] at hi
      rw [List.getElem_take]
      rcases Nat.eq_or_lt_of_le (show i ≤ j by omega) with rfl | hij
      · omega
      · have := pw_lt hs hij hjl; omega
    · obtain ⟨i, hi, rfl⟩ := List.mem_iff_getElem.1 hk
      simp only [List.length_drop] at hi
      rw [List.getElem_drop]
      have := pw_lt hs (show j < j + 1 + i by omega) (by omega)
      omega
  | false =>
    rw [if_neg (by simp)]
    refine ⟨h1, fun k hk => Nat.le_of_lt (h2 k hk), fun k hk => ?_⟩
    rcases Nat.eq_or_lt_of_le (h3 k hk) with rfl | h5
    · exfalso
      obtain ⟨i, hi, hik⟩ := List.mem_iff_getElem.1 hk
      simp only [List.length_drop] at hi
      rw [List.getElem_drop] at hik
      rcases Nat.eq_zero_or_pos i with rfl | h0
      · have := h4.2 (by rw [List.getElem?_eq_getElem (by omega)]; simpa using hik)
        rw [ht] at this; cases this
      · have := pw_lt hs (show j < j + i by omega) (by omega)
        have := h3 n.keys[j] (List.mem_iff_getElem.2 ⟨0, by simp; omega, by rw [List.getElem_drop]; simp⟩)
        omega
    · exact h5
/-- One kid of a row, and the rows with it changed. -/
structure Focus (T : TP) (ks : List Nat) (cs : List Int) (key : Nat) (i : Nat) (c : Int) (l1 l l2 : KV) (p1 p p2 : List Int) : Prop where
  kid : cs[i]? = some c
  tree : T c l p
  below : ∀ x ∈ l1, x.1 < key
  above : ∀ x ∈ l2, key < x.1
  one : ∀ (T' : TP) c' l' p', (∀ c l p, T c l p → (∀ x ∈ p, x ∈ p1 ++ p2) → T' c l p) → T' c' l' p' → (∀ x ∈ l', x ∈ l ∨ x.1 = key) → KidsT T' ks (cs.set i c') (l1 ++ l' ++ l2) (p1 ++ p' ++ p2)
  two : ∀ (T' : TP) c' l' p' c'' l'' p'' mid, (∀ c l p, T c l p → (∀ x ∈ p, x ∈ p1 ++ p2) → T' c l p) → T' c' l' p' → T' c'' l'' p'' → (∀ x ∈ l' ++ l'', x ∈ l ∨ x.1 = key) → (∀ x ∈ l', x.1 < mid) → (∀ x ∈ l'', mid ≤ x.1) → l'' ≠ [] → l' ≠ [] →
    KidsT T' (ks.take i ++ mid :: ks.drop i) (cs.take i ++ c' :: c'' :: cs.drop (i + 1)) (l1 ++ (l' ++ l'') ++ l2) (p1 ++ (p' ++ p'') ++ p2)
theorem kids_focus {T : TP} {ks : List Nat} {cs : List Int} {kvs : KV} {pgs : List Int} {key i : Nat} (h : KidsT T ks cs kvs pgs) (hi : i ≤ ks.length) (hlo : ∀ k ∈ ks.take i, k ≤ key) (hhi : ∀ k ∈ ks.drop i, key < k) :
    ∃ c l1 l l2 p1 p p2, kvs = l1 ++ l ++ l2 ∧ pgs = p1 ++ p ++ p2 ∧ Focus T ks cs key i c l1 l l2 p1 p p2 := by
  have hl := kids_len h
  obtain ⟨l1, p1, m2, q2, h1, h2, e1, e2, h3⟩ := kids_cut i h hi
  have hb : ∀ x ∈ l1, x.1 < key := fun x hx => by
    obtain ⟨k, hk, hh⟩ := kidsL_lt h1 x hx
    exact Nat.lt_of_lt_of_le hh (hlo k hk)
  have hset : ∀ c' : Int, cs.set i c' = cs.take i ++ c' :: cs.drop (i + 1) := fun c' => List.set_eq_take_append_cons_drop.trans (by rw [if_pos (by omega)])
  have hck : cs[i]? = some cs[i] := List.getElem?_eq_getElem (by omega)
  rw [List.drop_eq_getElem_cons (show i < cs.length by omega)] at h2
  subst e1 e2
  cases hd : ks.drop i with
  | nil =>
    rw [hd] at h2
    cases hc : cs.drop (i + 1) with
    | cons d ds => rw [hc] at h2; exact h2.elim
    | nil =>
      rw [hc] at h2
      refine ⟨cs[i], l1, m2, [], p1, q2, [], by simp, by simp, hck, h2, hb, by simp, ?_, ?_⟩
      · intro T' c' l' p' ho hc' hx
        rw [hset, hc]
        have := kids_join (ks2 := []) (cs2 := [c']) (kidsL_mono h1 (fun c l p h hs => ho c l p h (by simpa using hs))) hc' (fun k hk x hx' => by
          rcases hx x hx' with hm | hm
          · exact h3 k hk x hm
          · rw [hm]; exact hlo k hk)
        rw [← hd, List.take_append_drop] at this
        simpa using this
      · intro T' c' l' p' c'' l'' p'' mid ho hc' hc'' hx hm1 hm2 hn hn'
        rw [hc, hd]
        have := kids_join (ks2 := [mid]) (cs2 := [c', c'']) (l2 := l' ++ l'') (p2 := p' ++ p'') (kidsL_mono h1 (fun c l p h hs => ho c l p h (by simpa using hs))) ⟨l', p', l'', p'', hc', hc'', hm1, hm2, rfl, rfl⟩ (fun k hk x hx' => by
          rcases hx x hx' with hm | hm
          · exact h3 k hk x hm
          · rw [hm]; exact hlo k hk)
        simpa using this
  | cons k ks' =>
    rw [hd] at h2 hhi
    obtain ⟨l, p, l2, p2, g1, g2, g3, g4, f1, f2⟩ := h2
    subst f1 f2
    refine ⟨cs[i], l1, l, l2, p1, p, p2, by simp, by simp, hck, g1, hb, fun x hx => Nat.lt_of_lt_of_le (hhi k (by simp)) (g4 x hx), ?_, ?_⟩
    · intro T' c' l' p' ho hc' hx
      rw [hset]
      have := kids_join (ks2 := k :: ks') (cs2 := c' :: cs.drop (i + 1)) (l2 := l' ++ l2) (p2 := p' ++ p2) (kidsL_mono h1 (fun c l p h hs => ho c l p h (fun x hx => by simp [hs x hx])))
        ⟨l', p', l2, p2, hc', kids_mono g2 (fun c l p h hs => ho c l p h (fun x hx => by simp [hs x hx])), fun x hx' => by
          rcases hx x hx' with hm | hm
          · exact g3 x hm
          · rw [hm]; exact hhi k (by simp), g4, rfl, rfl⟩ (fun j hj x hx' => by
          rcases List.mem_append.1 hx' with hx' | hx'
          · rcases hx x hx' with hm | hm
            · exact h3 j hj x (by simp [hm])
            · rw [hm]; exact hlo j hj
          · exact h3 j hj x (by simp [hx']))
      rw [← hd, List.take_append_drop] at this
      simpa using this
    · intro T' c' l' p' c'' l'' p'' mid ho hc' hc'' hx hm1 hm2 hn hn'
      have hup : ∀ x ∈ l' ++ l'', x.1 < k := fun x hx' => by
        rcases hx x hx' with hm | hm
        · exact g3 x hm
        · rw [hm]; exact hhi k (by simp)
      have hmid : mid < k := by
        obtain ⟨x, hx'⟩ := List.exists_mem_of_ne_nil _ hn
        have := hm2 x hx'; have := hup x (by simp [hx']); omega
      rw [hd]
      have := kids_join (ks2 := mid :: k :: ks') (cs2 := c' :: c'' :: cs.drop (i + 1)) (l2 := l' ++ (l'' ++ l2)) (p2 := p' ++ (p'' ++ p2)) (kidsL_mono h1 (fun c l p h hs => ho c l p h (fun x hx => by simp [hs x hx])))
        ⟨l', p', l'' ++ l2, p'' ++ p2, hc', ⟨l'', p'', l2, p2, hc'', kids_mono g2 (fun c l p h hs => ho c l p h (fun x hx => by simp [hs x hx])), fun x hx' => hup x (by simp [hx']), g4, rfl, rfl⟩, hm1, fun x hx' => by
          rcases List.mem_append.1 hx' with hx' | hx'
          · exact hm2 x hx'
          · have := g4 x hx'; omega, rfl, rfl⟩ (fun j hj x hx' => by
          simp only [List.mem_append] at hx'
          rcases hx' with hx' | hx' | hx'
          · rcases hx x (by simp [hx']) with hm | hm
            · exact h3 j hj x (by simp [hm])
            · rw [hm]; exact hlo j hj
          · rcases hx x (by simp [hx']) with hm | hm
            · exact h3 j hj x (by simp [hm])
            · rw [hm]; exact hlo j hj
          · exact h3 j hj x (by simp [hx']))
      simpa using this
/-! a level laid -/
def Full (X : Work) (R : Work × Int) (k : Int) : Prop := R.1.e = 4 ∧ Base X.s R.1.s ∧ X.s.left < k
def contP : List Spot → Work → Int → Option (Nat × Int) → Work × Int
  | [], w, at', none => (w, at')
  | [], w, at', some (mid, o) => w.fresh ⟨false, [mid], [], [at', o]⟩
  | x :: A, w, at', none => M.putUp A w x.at' { x.n with kids := x.n.kids.set x.i at' }
  | x :: A, w, at', some (mid, o) => M.putUp A w x.at' (M.nhang { x.n with kids := x.n.kids.set x.i at' } x.i mid o)
theorem Full.later {X : Work} {S2 : Store} {A B : List Int} {R : Work × Int} {j k : Int} (s : Step X.s S2 A B j) (h : Full { X with s := S2 } R k) : Full X R (k + j) := by
  obtain ⟨h1, h2, h3⟩ := h
  refine ⟨h1, s.base.trans h2, ?_⟩
  have := s.left
  dsimp only at h3
  omega
theorem Full.more {X : Work} {R : Work × Int} {j k : Int} (h : Full X R j) (hk : j ≤ k) : Full X R k := ⟨h.1, h.2.1, by have := h.2.2; omega⟩
theorem level_one {X : Work} {at' : Int} {n : M.Node} (above : List Spot) (g : Good X.s) (he : X.e = 0) (ho : Own X.s [at']) (h0 : 2 ≤ at') (h1 : at' < X.s.size) (hr : M.right n = true) (hk : KB n) :
    (∃ S2 m, M.putUp above X at' n = contP above { X with s := S2 } m none ∧ Step X.s S2 [at'] [m] 1 ∧ Pn S2 m n) ∨ Full X (M.putUp above X at' n) 1 := by
  have hsz := right_size hr
  have e : M.splitQ n = (n, 0, M.Node.zero, false) := by unfold M.splitQ; rw [if_neg (by omega)]
  rw [putUp_eq, e]
  dsimp only
  rw [if_neg (by rintro ⟨h, _⟩; omega), if_neg (by simp)]
  rcases lay_step (n := n) g he ho h0 h1 hr hk with ⟨S2, m, h2, h3, h4⟩ | ⟨h2, h3, h4⟩
  · rw [h2]
    left
    refine ⟨S2, m, ?_, h3, h4⟩
    rw [if_neg (by simpa using he)]
    cases above <;> rfl
  · right
    rw [if_pos (by rw [h2]; decide)]
    exact ⟨h2, h3, h4⟩
theorem Step.pn {S S2 : Store} {A B : List Int} {k : Int} (s : Step S S2 A B k) {b : Int} {n : M.Node} (h : Pn S b n) (ho : b ∈ S.fresh ∨ M.has S.used b = true) (ha : b ∉ A) : Pn S2 b n := by
  rcases ho with ho | ho
  · exact s.keep b n h ho ha
  · exact s.base.kept b n h ho
theorem level_two {X : Work} {at' : Int} {n a b : M.Node} {mid : Nat} (above : List Spot) (g : Good X.s) (he : X.e = 0) (ho : Own X.s [at']) (h0 : 2 ≤ at') (h1 : at' < X.s.size) (hbig : 240 < M.nsize n) (hs : M.nsplit n = (a, mid, b, true)) (hra : M.right a = true) (hka : KB a) (hrb : M.right b = true) (hkb : KB b) :
    (∃ S2 m m2, M.putUp above X at' n = contP above { X with s := S2 } m (some (mid, m2)) ∧ Step X.s S2 [at'] [m, m2] 2 ∧ Pn S2 m a ∧ Pn S2 m2 b) ∨ Full X (M.putUp above X at' n) 2 := by
  have e : M.splitQ n = (a, mid, b, true) := by unfold M.splitQ; rw [if_pos (by omega), hs]
  rw [putUp_eq, e]
  dsimp only
  rw [if_neg (by rintro ⟨_, h⟩; cases h), if_pos rfl]
  rcases lay_step (n := a) g he ho h0 h1 hra hka with ⟨S2, m, h2, h3, h4⟩ | ⟨h2, h3, h4⟩
  · rw [h2]
    dsimp only
    rw [if_neg (by simpa using he)]
    rcases fresh_step (X := { X with s := S2 }) (n := b) h3.base.good he hrb hkb with ⟨S3, m2, h5, h6, h7⟩ | ⟨h5, h6, h7⟩
    · left
      rw [h5]
      dsimp only
      rw [if_neg (by simpa using he)]
      have hm := (Own.step ho g h3).have m (by simp)
      refine ⟨S3, m, m2, ?_, (h3.comp h6 (by simp) (by simp)).perm (by simp) (by simp), h6.pn h4 hm (by simp), h7⟩
      cases above <;> rfl
    · right
      rw [if_pos (by rw [h5]; decide)]
      exact (Full.later h3 ⟨h5, h6, h7⟩).more (by omega)
  · right
    rw [if_pos (by rw [h2]; decide)]
    exact ⟨h2, h3, by omega⟩
end Go.Proofs.YtbdhhedfplkidaaGreat
/- Plain facts: a key with a value is put into a tree: what it holds then. -/
namespace Go.Proofs.YtbdhhedfplkidaaGreat
open M (Str Store Disk Work Spot)
/-! sizes of leaves -/
def wt (l : KV) : Nat := (l.map fun x => 9 + x.2.length).sum
theorem wt_append (l m : KV) : wt (l ++ m) = wt l + wt m := by simp [wt]
theorem wt_zip : ∀ (l : List Nat) (m : List Str), m.length = l.length → wt (l.zip m) = 9 * l.length + (m.map List.length).sum
  | [], [], _ => rfl
  | a :: l, b :: m, h => by
    have := wt_zip l m (by simpa using h)
    simp only [wt, List.zip_cons_cons, List.map_cons, List.sum_cons, List.length_cons] at this ⊢
    omega
  | [], _ :: _, h => by simp at h
  | _ :: _, [], h => by simp at h
theorem nsize_wt {n : M.Node} (hl : n.leaf = true) (hv : n.vals.length = n.keys.length) : M.nsize n = 1 + wt (lkv n) := by
  rw [nsize_leaf hl, wt_zip _ _ hv]; omega
theorem wt_ins (k : Nat) (v : Str) : ∀ l : KV, wt (ins k v l) ≤ wt l + 9 + v.length
  | [] => by simp [ins, wt]
  | (a, b) :: l => by
    have ih := wt_ins k v l
    simp only [ins]
    split
    · simp [wt]; omega
    split
    · simp [wt]; omega
    · simp only [wt, List.map_cons, List.sum_cons] at ih ⊢; omega
structure BranchOk (n : M.Node) : Prop where
  vals : n.vals = []
  kids : n.kids.length = n.keys.length + 1
  most : n.keys.length ≤ 23
theorem right_branch {n : M.Node} (h : M.right n = true) (hl : n.leaf = false) : BranchOk n := by
  have hs := right_size h
  simp only [M.right, M.plain, Bool.and_eq_true, beq_iff_eq, hl, Bool.false_eq_true, if_false] at h
  have hk := h.1.1.1.1.1.2
  rw [nsize_branch hl hk] at hs
  exact ⟨List.length_eq_zero_iff.1 h.1.1.1.1.1.1, hk, by omega⟩
/-- What is put into a leaf. -/
theorem put_leaf {n : M.Node} {key : Nat} {value : Str} (hl : n.leaf = true) (h : LeafOk n) (hk : KB n) (hkey : key < 18446744073709551616) (hv : value.length ≤ 40) :
    lkv (M.nput n key value) = ins key value (lkv n) ∧ KB (M.nput n key value) ∧ (M.nput n key value).leaf = true ∧
    (M.right (M.nput n key value) = true ∨ ∃ a mid b, 240 < M.nsize (M.nput n key value) ∧ M.nsplit (M.nput n key value) = (a, mid, b, true) ∧ M.right a = true ∧ KB a ∧ M.right b = true ∧ KB b ∧ a.leaf = true ∧ b.leaf = true ∧ lkv (M.nput n key value) = lkv a ++ lkv b ∧ (∀ x ∈ lkv a, x.1 < mid) ∧ (∀ x ∈ lkv b, mid ≤ x.1)) := by
  obtain ⟨h1, h2, h3, h4⟩ := nput_kv (key := key) (value := value) hl h.rise h.vals
  have hs : Srt (lkv (M.nput n key value)) := by rw [h1]; exact ins_srt (lkv_srt h.rise h.vals)
  have hsz := nsize_wt h3 h2
  have hsz0 := nsize_wt hl h.vals
  have h240 := h.size
  have hw := wt_ins key value (lkv n)
  have hne : lkv (M.nput n key value) ≠ [] := by rw [h1]; exact ins_ne
  have hmem : ∀ x ∈ lkv (M.nput n key value), x = (key, value) ∨ x ∈ lkv n := fun x hx => mem_ins (by rw [← h1]; exact hx)
  have h40 : ∀ v ∈ (M.nput n key value).vals, v.length ≤ 40 := fun v hv' => by
    rw [← zip_snd (l := (M.nput n key value).keys) (m := (M.nput n key value).vals) h2.symm] at hv'
    obtain ⟨x, hx, rfl⟩ := List.mem_map.1 hv'
    rcases hmem x hx with rfl | hx
    · exact hv
    · exact h.v40 _ (List.of_mem_zip hx).2
  have hkb : KB (M.nput n key value) := fun k hk' => by
    rw [← zip_fst (l := (M.nput n key value).keys) (m := (M.nput n key value).vals) h2.symm] at hk'
    obtain ⟨x, hx, rfl⟩ := List.mem_map.1 hk'
    rcases hmem x hx with rfl | hx
    · exact hkey
    · exact hk _ (List.of_mem_zip hx).1
  have hrise : (M.nput n key value).keys.Pairwise (· < ·) := by
    rw [srt_keys, zip_fst h2.symm] at hs; exact hs
  generalize M.nput n key value = N at *
  refine ⟨h1, hkb, h3, ?_⟩
  by_cases hbig : M.nsize N ≤ 240
  · left
    refine leaf_right h3 ⟨h2, h4, ?_, hrise, h40, hbig⟩
    cases hkeys : N.keys with
    | nil => exact absurd (by rw [show lkv N = N.keys.zip N.vals from rfl, hkeys]; rfl) hne
    | cons a l => simp
  · right
    obtain ⟨k, k1, k2, hsp, sa, sb⟩ := split_leaf h3 h2 h40 (by omega) (by rw [hsz, h1]; omega)
    have hmid : N.keys.getD k 0 = N.keys[k] := by rw [List.getD_eq_getElem?_getD, List.getElem?_eq_getElem k2]; rfl
    refine ⟨_, _, _, by omega, hsp, leaf_right rfl ⟨by simp [h2], rfl, by simp; omega, hrise.sublist (List.take_sublist _ _), fun v hv => h40 v (List.mem_of_mem_take hv), sa⟩, fun x hx => hkb x (List.mem_of_mem_take hx),
      leaf_right rfl ⟨by simp [h2], rfl, by simp; omega, hrise.sublist (List.drop_sublist _ _), fun v hv => h40 v (List.mem_of_mem_drop hv), sb⟩, fun x hx => hkb x (List.mem_of_mem_drop hx), rfl, rfl, zip_take_drop _ _ _, fun x hx => ?_, fun x hx => ?_⟩
    · have hm := (List.of_mem_zip hx).1
      obtain ⟨j, hj, hjx⟩ := List.mem_iff_getElem.1 hm
      simp only [List.length_take] at hj
      rw [List.getElem_take] at hjx
      rw [hmid, ← hjx]
      exact pw_lt hrise (by omega) k2
    · have hm := (List.of_mem_zip hx).1
      obtain ⟨j, hj, hjx⟩ := List.mem_iff_getElem.1 hm
      simp only [List.length_drop] at hj
      rw [List.getElem_drop] at hjx
      rw [hmid, ← hjx]
      rcases Nat.eq_zero_or_pos j with rfl | h0
      · exact Nat.le_of_eq rfl
      · exact Nat.le_of_lt (pw_lt hrise (by omega) (by omega))
/-! the way down -/
def Path (S : Store) (key : Nat) : Nat → Int → KV → List Int → List Spot → Prop
  | 0, at', kvs, pgs, q => ∃ n, Pn S at' n ∧ n.leaf = true ∧ kvs = lkv n ∧ pgs = [at'] ∧ q = [⟨at', n, (M.find n key).1⟩]
  | h + 1, at', kvs, pgs, q => ∃ n c l1 l l2 p1 p p2 q', Pn S at' n ∧ n.leaf = false ∧ n.keys ≠ [] ∧ (M.find n key).1 ≤ n.keys.length ∧ kvs = l1 ++ l ++ l2 ∧ pgs = at' :: (p1 ++ p ++ p2) ∧
      Focus (Tree S h) n.keys n.kids key (M.find n key).1 c l1 l l2 p1 p p2 ∧ q = ⟨at', n, (M.find n key).1⟩ :: q' ∧ Path S key h c l p q'
theorem way_path (key : Nat) : ∀ (h : Nat) (X : Work) (at' : Int) (kvs : KV) (pgs : List Int) (deep : Int) (f : Nat) (p : List Spot), Tree X.s h at' kvs pgs → Hl X.s → X.e = 0 → deep + h ≤ 10 → X.read + h + 1 ≤ 640 → h + 1 ≤ f →
    ∃ q, M.way f X at' deep key p = ({ X with read := X.read + h + 1 }, p ++ q) ∧ Path X.s key h at' kvs pgs q
  | 0, X, at', kvs, pgs, deep, f + 1, p, ⟨n, h1, h2, h3, h4⟩, hl, he, hd, hr, hf => by
    refine ⟨[⟨at', n, (M.find n key).1⟩], ?_, n, h1, h2, h3, h4, rfl⟩
    rw [M.way, node_read_ok hl h1 he (by omega) (by omega)]
    dsimp only
    rw [if_neg (by simpa using he), if_pos h2]
    simp
  | h + 1, X, at', kvs, pgs, deep, f + 1, p, ⟨n, cs, h1, h2, h3, h4, h5⟩, hl, he, hd, hr, hf => by
    obtain ⟨f1, f2, f3⟩ := find_spec (key := key) h2 (right_rise h1.right)
    obtain ⟨c, l1, l, l2, p1, pc, p2, e1, e2, F⟩ := kids_focus h4 f1 f2 f3
    obtain ⟨q, hq, hp⟩ := way_path key h { X with read := X.read + 1 } c l pc (deep + 1) f (p ++ [⟨at', n, (M.find n key).1⟩]) F.tree hl he (by push_cast at hd; omega) (by push_cast at hr; dsimp only; omega) (by omega)
    refine ⟨⟨at', n, (M.find n key).1⟩ :: q, ?_, n, c, l1, l, l2, p1, pc, p2, q, h1, h2, h3, f1, e1, by rw [h5, e2], F, rfl, hp⟩
    rw [M.way, node_read_ok hl h1 he (by push_cast at hr; omega) (by push_cast at hd; omega)]
    dsimp only
    rw [if_neg (by simpa using he), if_neg (by simp [h2])]
    have hk : n.kids.getD (M.find n key).1 0 = c := by rw [List.getD_eq_getElem?_getD, F.kid]; rfl
    rw [hk, hq]
    simp only [List.append_assoc, List.cons_append, List.nil_append, Prod.mk.injEq, Work.mk.injEq, true_and, and_true]
    push_cast
    omega
/-- What the way ends at. -/
theorem path_end (S : Store) (key : Nat) : ∀ (h : Nat) (at' : Int) (kvs : KV) (pgs : List Int) (q : List Spot), Path S key h at' kvs pgs q → ∃ x above, q.reverse = x :: above ∧ x.n.leaf = true ∧ x.i = (M.find x.n key).1 ∧ LeafOk x.n ∧ look key kvs = look key (lkv x.n)
  | 0, at', kvs, pgs, q, ⟨n, h1, h2, h3, h4, h5⟩ => ⟨⟨at', n, (M.find n key).1⟩, [], by rw [h5]; rfl, h2, rfl, right_leaf h1.right h2, by rw [h3]⟩
  | h + 1, at', kvs, pgs, q, ⟨n, c, l1, l, l2, p1, p, p2, q', h1, h2, h3, h4, h5, h6, F, h7, h8⟩ => by
    obtain ⟨x, above, e1, e2, e3, e4, e5⟩ := path_end S key h c l p q' h8
    refine ⟨x, above ++ [⟨at', n, (M.find n key).1⟩], by rw [h7, List.reverse_cons, e1]; rfl, e2, e3, e4, ?_⟩
    rw [h5, List.append_assoc, look_front _ _ _ (fun x hx => by have := F.below x hx; omega), look_back _ _ _ (fun x hx => by have := F.above x hx; omega), e5]
/-! the way up -/
inductive PutOut (X : Work) (h : Nat) (kvs : KV) (pgs : List Int) (A : List Spot) (R : Work × Int) (k : Int) : Prop
  | one (S2 : Store) (m : Int) (pgs2 : List Int) : R = contP A { X with s := S2 } m none → Step X.s S2 pgs pgs2 k → Tree S2 h m kvs pgs2 → PutOut X h kvs pgs A R k
  | two (S2 : Store) (m m2 : Int) (mid : Nat) (l1 l2 : KV) (p1 p2 : List Int) : R = contP A { X with s := S2 } m (some (mid, m2)) → Step X.s S2 pgs (p1 ++ p2) k → Tree S2 h m l1 p1 → Tree S2 h m2 l2 p2 → kvs = l1 ++ l2 → (∀ x ∈ l1, x.1 < mid) → (∀ x ∈ l2, mid ≤ x.1) → PutOut X h kvs pgs A R k
  | full : Full X R k → PutOut X h kvs pgs A R k
theorem putOut_more {X : Work} {h : Nat} {kvs : KV} {pgs : List Int} {A : List Spot} {R : Work × Int} {j k : Int} (o : PutOut X h kvs pgs A R j) (hk : j ≤ k) : PutOut X h kvs pgs A R k := by
  cases o with
  | one S2 m p2 h1 h2 h3 => exact .one S2 m p2 h1 (h2.weak hk) h3
  | two S2 m m2 mid l1 l2 p1 p2 h1 h2 h3 h4 h5 h6 h7 => exact .two S2 m m2 mid l1 l2 p1 p2 h1 (h2.weak hk) h3 h4 h5 h6 h7
  | full h => exact .full (h.more hk)
theorem nhang_eq {n : M.Node} {i mid : Nat} {c o : Int} (hl : n.leaf = false) (hi : i ≤ n.keys.length) (hk : n.kids.length = n.keys.length + 1) : M.nhang { n with kids := n.kids.set i c } i mid o = ⟨false, n.keys.take i ++ mid :: n.keys.drop i, [], n.kids.take i ++ c :: o :: n.kids.drop (i + 1)⟩ := by
  rw [M.nhang, if_neg (by simp [hl]; omega)]
  have e1 := laid_nat n.keys [mid] i 0 hi
  have e2 := laid_nat (n.kids.set i c) [o] (i + 1) 0 (by simp; omega)
  rw [show ((0 : Nat) : Int) = 0 from rfl] at e1 e2
  rw [show ((i + 1 : Nat) : Int) = (i : Int) + 1 by push_cast; rfl] at e2
  dsimp only
  rw [e1, e2]
  have e3 : n.kids.set i c = n.kids.take i ++ c :: n.kids.drop (i + 1) := List.set_eq_take_append_cons_drop.trans (by rw [if_pos (by omega)])
  have hlen : (n.kids.take i).length = i := by simp; omega
  have t1 : (n.kids.take i ++ c :: n.kids.drop (i + 1)).take (i + 1) = n.kids.take i ++ [c] := by
    rw [List.take_append, hlen, List.take_of_length_le (by omega), show i + 1 - i = 1 by omega]; rfl
  have t2 : (n.kids.take i ++ c :: n.kids.drop (i + 1)).drop (i + 1 + 0) = n.kids.drop (i + 1) := by
    rw [Nat.add_zero, List.drop_append, hlen, List.drop_of_length_le (by omega), show i + 1 - i = 1 by omega]; rfl
  rw [e3, t1, t2]
  simp
end Go.Proofs.YtbdhhedfplkidaaGreat
