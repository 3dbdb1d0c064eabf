/- A call of layer tree under way. -/
import Derived.Test.YtbdhhedfplkidaaGreatC8
import Derived.Test.YtbdhhedfplkidaaGreatC15
import Derived.Test.YtbdhhedfplkidaaGreatMod4
namespace Go.Proofs.YtbdhhedfplkidaaGreat
open Go
open M (Str Store Work)
set_option maxHeartbeats 400000
set_option maxRecDepth 2000
/-! what is read off a page -/
theorem opens_len (b : Str) : (M.opens b).2.1.length ≤ 250 := by
  unfold M.opens
  split
  · simp
  split
  · simp
  · dsimp only
    split
    · simp; omega
    · simp
theorem read_text_len (S : Store) (n : Int) : (S.read n).2.2.1.length ≤ 250 := by
  unfold Store.read
  split
  · simp
  split
  · simp
  · dsimp only
    unfold M.pageRead
    dsimp only
    split
    · simp
    · exact opens_len _
theorem nb_right {N : M.Node} (h : M.right N = true) : NB N := by
  obtain ⟨h1, h2, h3, h4, _⟩ := right_bounds h
  refine ⟨by omega, ?_, ?_, fun v hv => by have := h4 v hv; omega⟩
  · rw [h2]; split <;> omega
  · rw [h3]; split <;> omega
theorem fit_right {N : M.Node} (h : M.right N = true) : Fit N := by
  obtain ⟨_, h2, h3, _⟩ := right_bounds h
  exact ⟨h2, h3⟩
theorem decode_cases (s : Str) : M.decode s = (M.Node.zero, 2) ∨ ∃ (leaf : Bool) (k : Nat) (d0 : M.Dec), d0.keys = [] ∧ M.right ⟨leaf, (M.dloop leaf k d0).keys, (M.dloop leaf k d0).vals, (M.dloop leaf k d0).kids⟩ = true ∧
    M.decode s = (⟨leaf, (M.dloop leaf k d0).keys, (M.dloop leaf k d0).vals, (M.dloop leaf k d0).kids⟩, 0) := by
  unfold M.decode
  dsimp only
  by_cases h1 : decide ((M.take s 1).2.2 ≠ 0) = true ∨ (M.take s 1).1 ≠ 1 ∧ (M.take s 1).1 ≠ 2
  · left; rw [if_pos h1]
  · rw [if_neg h1]
    obtain ⟨leaf, hleaf⟩ : ∃ b, decide ((M.take s 1).1 = 1) = b := ⟨_, rfl⟩
    rw [hleaf]
    obtain ⟨d0, hd0⟩ : ∃ d0 : M.Dec, (if leaf = true then (⟨[], [], [], (M.take s 1).2.1, decide ((M.take s 1).2.2 ≠ 0)⟩ : M.Dec) else (⟨[], [], [], (M.take s 1).2.1, decide ((M.take s 1).2.2 ≠ 0)⟩ : M.Dec).kid) = d0 := ⟨_, rfl⟩
    have hk : d0.keys = [] := by rw [← hd0]; cases leaf <;> rfl
    rw [hd0]
    by_cases h2 : (M.dloop leaf s.length d0).bad = true ∨ M.right ⟨leaf, (M.dloop leaf s.length d0).keys, (M.dloop leaf s.length d0).vals, (M.dloop leaf s.length d0).kids⟩ = false
    · left; rw [if_pos h2]
    · right
      refine ⟨leaf, s.length, d0, hk, ?_, ?_⟩
      · cases hr : M.right _ with
        | true => rfl
        | false => exact absurd (.inr hr) h2
      · rw [if_neg h2]
theorem decode_right {s : Str} (h : (M.decode s).2 = 0) : M.right (M.decode s).1 = true := by
  rcases decode_cases s with e | ⟨leaf, k, d0, _, h1, e⟩
  · rw [e] at h; simp at h
  · rw [e]; exact h1
theorem dloop_keys (leaf : Bool) : ∀ (k : Nat) (s : M.Dec), (∀ x ∈ s.keys, x < 18446744073709551616) → ∀ x ∈ (M.dloop leaf k s).keys, x < 18446744073709551616
  | 0, s, h => h
  | k + 1, s, h => by
    unfold M.dloop
    split
    · refine dloop_keys leaf k _ ?_
      have h8 := take_fst_lt s.b 8
      rw [show (256 : Nat) ^ (8 : Int).toNat = 18446744073709551616 by decide] at h8
      intro x hx
      unfold M.dstep at hx
      split at hx <;> simp only [M.Dec.key, M.Dec.val, M.Dec.kid, List.mem_append, List.mem_singleton] at hx <;> rcases hx with hx | rfl <;> first | exact h x hx | exact h8
    · exact h
theorem decode_kb (s : Str) : KB (M.decode s).1 := by
  intro x hx
  rcases decode_cases s with e | ⟨leaf, k, d0, h0, h1, e⟩
  · rw [e] at hx; simp [M.Node.zero] at hx
  · rw [e] at hx
    exact dloop_keys leaf k d0 (fun y hy => by rw [h0] at hy; cases hy) x hx
theorem nb_zero : NB M.Node.zero := ⟨by simp [M.Node.zero], by simp [M.Node.zero], by simp [M.Node.zero], fun v hv => by simp [M.Node.zero] at hv⟩
theorem nodeH_zero : NodeH M.Node.zero ⟨none, 0, none, 0, none, 0⟩ = emp := by
  simp only [NodeH, NodeB, M.Node.zero, sv, Option.map_none, List.length_nil, List.map_nil, slck_nil, emp_sep]
/-! the work -/
abbrev WkR (wp sp : Nat) (X : Work) : HProp := row wp 108 [ptr sp, int X.read, int X.e]
abbrev WkH (wp sp dp : Nat) (X : Work) : HProp := WkR wp sp X • StoreP sp dp X.s
theorem fail_s (X : Work) (e : Int) : (X.fail e).s = X.s ∧ (X.fail e).read = X.read := by unfold Work.fail; split <;> exact ⟨rfl, rfl⟩
theorem work_fail (wp sp : Nat) (X : Work) (e : Int) : CS 70 [ptr wp, int e] (WkR wp sp X) fun v H' => v = .bool (decide ((X.fail e).e ≠ 0)) ∧ H' = WkR wp sp (X.fail e) := by
  refine CS.walk Tryz.func70 rfl Tryz.ntmps70 rfl fun c R => ?_
  (repeat (first | refine W.ctl rfl ?_ | refine W.op rfl rfl rfl rfl ?_ | refine W.skip rfl rfl ?_ | refine W.fld rfl rfl rfl rfl rfl ?_ | refine W.ld rfl rfl rfl rfl rfl ?_))
  by_cases h : X.e = 0
  · refine W.yes rfl rfl rfl rfl h ?_
    (repeat (first | refine W.ctl rfl ?_ | refine W.op rfl rfl rfl rfl ?_ | refine W.skip rfl rfl ?_ | refine W.fld rfl rfl rfl rfl rfl ?_ | refine W.ld rfl rfl rfl rfl rfl ?_))
    refine W.st rfl rfl rfl rfl rfl ?_
    (repeat (first | refine W.ctl rfl ?_ | refine W.op rfl rfl rfl rfl ?_ | refine W.skip rfl rfl ?_ | refine W.fld rfl rfl rfl rfl rfl ?_ | refine W.ld rfl rfl rfl rfl rfl ?_))
    refine W.cmp rfl rfl rfl rfl ?_
    (repeat (first | refine W.ctl rfl ?_ | refine W.op rfl rfl rfl rfl ?_ | refine W.skip rfl rfl ?_ | refine W.fld rfl rfl rfl rfl rfl ?_ | refine W.ld rfl rfl rfl rfl rfl ?_))
    have e1 : X.fail e = { X with e := e } := by unfold Work.fail; rw [if_pos h]
    rw [e1]
    exact W.ret1 (.inr rfl) rfl rfl _ ⟨rfl, rfl⟩ Imp.all
  · refine W.no rfl rfl rfl rfl h ?_
    (repeat (first | refine W.ctl rfl ?_ | refine W.op rfl rfl rfl rfl ?_ | refine W.skip rfl rfl ?_ | refine W.fld rfl rfl rfl rfl rfl ?_ | refine W.ld rfl rfl rfl rfl rfl ?_))
    refine W.cmp rfl rfl rfl rfl ?_
    (repeat (first | refine W.ctl rfl ?_ | refine W.op rfl rfl rfl rfl ?_ | refine W.skip rfl rfl ?_ | refine W.fld rfl rfl rfl rfl rfl ?_ | refine W.ld rfl rfl rfl rfl rfl ?_))
    have e1 : X.fail e = X := by unfold Work.fail; rw [if_neg h]
    rw [e1]
    exact W.ret1 (.inr rfl) rfl rfl _ ⟨rfl, rfl⟩ Imp.all
theorem work_done (wp sp : Nat) (X : Work) (root : Int) : CS 59 [ptr wp, int root] (WkR wp sp X) fun v H' => v = .tuple #[int (M.doneE X root).1, int (M.doneE X root).2] ∧ H' = WkR wp sp X := by
  refine CS.walk Tryz.func59 rfl Tryz.ntmps59 rfl fun c R => ?_
  (repeat (first | refine W.ctl rfl ?_ | refine W.op rfl rfl rfl rfl ?_ | refine W.skip rfl rfl ?_ | refine W.fld rfl rfl rfl rfl rfl ?_ | refine W.ld rfl rfl rfl rfl rfl ?_))
  by_cases h : X.e ≠ 0
  · refine W.yes rfl rfl rfl rfl h ?_
    (repeat (first | refine W.ctl rfl ?_ | refine W.op rfl rfl rfl rfl ?_ | refine W.skip rfl rfl ?_ | refine W.fld rfl rfl rfl rfl rfl ?_ | refine W.ld rfl rfl rfl rfl rfl ?_))
    refine W.draw (by kernel_rfl) (by kernel_rfl) ?_
    (repeat (first | refine W.ctl rfl ?_ | refine W.op rfl rfl rfl rfl ?_ | refine W.skip rfl rfl ?_ | refine W.fld rfl rfl rfl rfl rfl ?_ | refine W.ld rfl rfl rfl rfl rfl ?_))
    have e1 : M.doneE X root = (0, X.e) := by unfold M.doneE; rw [if_pos h]
    rw [e1]
    exact W.ret2 (.inr rfl) rfl rfl rfl _ ⟨rfl, rfl⟩ Imp.all
  · refine W.no rfl rfl rfl rfl h ?_
    (repeat (first | refine W.ctl rfl ?_ | refine W.op rfl rfl rfl rfl ?_ | refine W.skip rfl rfl ?_ | refine W.fld rfl rfl rfl rfl rfl ?_ | refine W.ld rfl rfl rfl rfl rfl ?_))
    have e1 : M.doneE X root = (root, 0) := by unfold M.doneE; rw [if_neg h]
    rw [e1]
    exact W.ret2 (.inr rfl) rfl rfl rfl _ ⟨rfl, rfl⟩ Imp.all
theorem encode_len (N : M.Node) : (M.encode N).1.length ≤ 1000000 := by
  unfold M.encode
  split
  · simp
  · rename_i h
    have hr : M.right N = true := by cases hh : M.right N <;> simp_all
    obtain ⟨q1, q2, q3, q4, q5, q6⟩ := right_bounds hr
    unfold M.encBody
    split
    · have hL := enc_len M.encK 49 N.vals (fun a v hv => by have := q4 v hv; simp [M.encK, M.be_length]; omega) N.keys (List.zipWith M.encK N.keys N.vals).length
      rw [List.take_length, List.length_zipWith] at hL
      simp only [List.length_cons]
      have : min N.keys.length N.vals.length ≤ 29 := by omega
      omega
    · have hL := enc_len M.encB 10 N.kids.tail (fun a v hv => by simp [M.encB, M.be_length]) N.keys (List.zipWith M.encB N.keys N.kids.tail).length
      rw [List.take_length, List.length_zipWith] at hL
      simp only [List.length_cons, List.length_append, M.be_length]
      have : min N.keys.length N.kids.tail.length ≤ 29 := by omega
      omega
theorem work_write (wp sp dp : Nat) (X : Work) (at' : Int) (N : M.Node) (x : NP) (hN : NB N) (hK : KB N) : CS 110 [ptr wp, int at', nodeV N x] (WkH wp sp dp X • NodeH N x)
    fun v H' => v = int at' ∧ H' = (WkH wp sp dp (X.write at' N) • NodeH N x) := by
  refine CS.walk Tryz.func110 rfl Tryz.ntmps110 rfl fun c R => ?_
  simp only [WkH, NodeH, NodeB, sep_assoc', emp_sep]
  (repeat (first | refine W.ctl rfl ?_ | refine W.op rfl rfl rfl rfl ?_ | refine W.skip rfl rfl ?_ | refine W.fld rfl rfl rfl rfl rfl ?_ | refine W.ld rfl rfl rfl rfl rfl ?_))
  refine W.box rfl rfl rfl rfl rfl fun nb => ?_
  (repeat (first | refine W.ctl rfl ?_ | refine W.op rfl rfl rfl rfl ?_ | refine W.skip rfl rfl ?_ | refine W.fld rfl rfl rfl rfl rfl ?_ | refine W.ld rfl rfl rfl rfl rfl ?_))
  refine W.lds rfl rfl rfl rfl rfl ?_
  (repeat (first | refine W.ctl rfl ?_ | refine W.op rfl rfl rfl rfl ?_ | refine W.skip rfl rfl ?_))
  refine W.call (node_Encode N x hN hK) rfl rfl rfl rfl Tryz.call149 ⟨rfl, trivial⟩ ?_
  rintro _ _ ⟨rfl, rfl⟩
  simp only [NodeH, NodeB, sep_assoc', emp_sep]
  (repeat (first | refine W.ctl rfl ?_ | refine W.op rfl rfl rfl rfl ?_ | refine W.skip rfl rfl ?_ | refine W.fld rfl rfl rfl rfl rfl ?_ | refine W.ld rfl rfl rfl rfl rfl ?_))
  by_cases h : (M.encode N).2 ≠ 0
  · refine W.yes rfl rfl rfl rfl h ?_
    (repeat (first | refine W.ctl rfl ?_ | refine W.op rfl rfl rfl rfl ?_ | refine W.skip rfl rfl ?_ | refine W.fld rfl rfl rfl rfl rfl ?_ | refine W.ld rfl rfl rfl rfl rfl ?_))
    refine W.call (work_fail wp sp X 2) rfl rfl rfl rfl Tryz.call70 ⟨rfl, rfl, trivial⟩ ?_
    rintro _ _ ⟨rfl, rfl⟩
    (repeat (first | refine W.ctl rfl ?_ | refine W.op rfl rfl rfl rfl ?_ | refine W.skip rfl rfl ?_ | refine W.fld rfl rfl rfl rfl rfl ?_ | refine W.ld rfl rfl rfl rfl rfl ?_))
    have e1 : X.write at' N = X.fail 2 := by unfold Work.write; rw [if_pos h]
    refine W.ret1 (.inr rfl) rfl rfl _ ⟨rfl, rfl⟩ ?_
    rw [e1, (fail_s X 2).1]
    simp only [sep_assoc', emp_sep]
    exact Imp.all
  · refine W.no rfl rfl rfl rfl h ?_
    (repeat (first | refine W.ctl rfl ?_ | refine W.op rfl rfl rfl rfl ?_ | refine W.skip rfl rfl ?_ | refine W.fld rfl rfl rfl rfl rfl ?_ | refine W.ld rfl rfl rfl rfl rfl ?_))
    refine W.call (shadow_Write sp dp X.s at' 2 (M.encode N).1 (by have := encode_len N; omega)) rfl rfl rfl rfl Tryz.call150 ⟨rfl, rfl, rfl, rfl, trivial⟩ ?_
    rintro _ _ ⟨rfl, rfl⟩
    (repeat (first | refine W.ctl rfl ?_ | refine W.op rfl rfl rfl rfl ?_ | refine W.skip rfl rfl ?_ | refine W.fld rfl rfl rfl rfl rfl ?_ | refine W.ld rfl rfl rfl rfl rfl ?_))
    refine W.call (work_fail wp sp { X with s := (X.s.write at' 2 (M.encode N).1).1 } (X.s.write at' 2 (M.encode N).1).2) rfl rfl rfl rfl Tryz.call70 ⟨rfl, rfl, trivial⟩ ?_
    rintro _ _ ⟨rfl, rfl⟩
    (repeat (first | refine W.ctl rfl ?_ | refine W.op rfl rfl rfl rfl ?_ | refine W.skip rfl rfl ?_ | refine W.fld rfl rfl rfl rfl rfl ?_ | refine W.ld rfl rfl rfl rfl rfl ?_))
    have e1 : X.write at' N = Work.fail { X with s := (X.s.write at' 2 (M.encode N).1).1 } (X.s.write at' 2 (M.encode N).1).2 := by unfold Work.write; rw [if_neg h]
    refine W.ret1 (.inr rfl) rfl rfl _ ⟨rfl, rfl⟩ ?_
    rw [e1, (fail_s _ _).1]
    simp only [sep_assoc', emp_sep]
    exact Imp.all
theorem work_fresh (wp sp dp : Nat) (X : Work) (N : M.Node) (x : NP) (hN : NB N) (hK : KB N) : CS 60 [ptr wp, nodeV N x] (WkH wp sp dp X • NodeH N x)
    fun v H' => v = int (X.fresh N).2 ∧ H' = (WkH wp sp dp (X.fresh N).1 • NodeH N x) := by
  refine CS.walk Tryz.func60 rfl Tryz.ntmps60 rfl fun c R => ?_
  simp only [WkH, NodeH, NodeB, sep_assoc', emp_sep]
  (repeat (first | refine W.ctl rfl ?_ | refine W.op rfl rfl rfl rfl ?_ | refine W.skip rfl rfl ?_ | refine W.fld rfl rfl rfl rfl rfl ?_ | refine W.ld rfl rfl rfl rfl rfl ?_))
  refine W.box rfl rfl rfl rfl rfl fun nb => ?_
  (repeat (first | refine W.ctl rfl ?_ | refine W.op rfl rfl rfl rfl ?_ | refine W.skip rfl rfl ?_ | refine W.fld rfl rfl rfl rfl rfl ?_ | refine W.ld rfl rfl rfl rfl rfl ?_))
  refine W.call (shadow_Take sp dp X.s) rfl rfl rfl rfl Tryz.call109 ⟨rfl, trivial⟩ ?_
  rintro _ _ ⟨rfl, rfl⟩
  (repeat (first | refine W.ctl rfl ?_ | refine W.op rfl rfl rfl rfl ?_ | refine W.skip rfl rfl ?_ | refine W.fld rfl rfl rfl rfl rfl ?_ | refine W.ld rfl rfl rfl rfl rfl ?_))
  refine W.call (work_fail wp sp { X with s := X.s.take.1 } X.s.take.2.2) rfl rfl rfl rfl Tryz.call70 ⟨rfl, rfl, trivial⟩ ?_
  rintro _ _ ⟨rfl, rfl⟩
  obtain ⟨W1, hW1⟩ : ∃ W1, Work.fail { X with s := X.s.take.1 } X.s.take.2.2 = W1 := ⟨_, rfl⟩
  have hs : W1.s = X.s.take.1 := by rw [← hW1]; exact (fail_s _ _).1
  have e0 : X.fresh N = if W1.e ≠ 0 then (W1, 0) else (W1.write X.s.take.2.1 N, X.s.take.2.1) := by unfold Work.fresh; rw [hW1]
  rw [hW1, ← hs]
  by_cases h : W1.e ≠ 0
  · rw [decide_eq_true h]
    rw [if_pos h] at e0
    (repeat (first | refine W.ctl rfl ?_ | refine W.op rfl rfl rfl rfl ?_ | refine W.skip rfl rfl ?_ | refine W.fld rfl rfl rfl rfl rfl ?_ | refine W.ld rfl rfl rfl rfl rfl ?_))
    rw [e0]
    refine W.ret1 (.inr rfl) rfl rfl _ ⟨rfl, rfl⟩ ?_
    simp only [sep_assoc', emp_sep]
    exact Imp.all
  · rw [decide_eq_false h]
    rw [if_neg h] at e0
    (repeat (first | refine W.ctl rfl ?_ | refine W.op rfl rfl rfl rfl ?_ | refine W.skip rfl rfl ?_ | refine W.fld rfl rfl rfl rfl rfl ?_ | refine W.ld rfl rfl rfl rfl rfl ?_))
    refine W.lds rfl rfl rfl rfl rfl ?_
    (repeat (first | refine W.ctl rfl ?_ | refine W.op rfl rfl rfl rfl ?_ | refine W.skip rfl rfl ?_))
    refine W.call (work_write wp sp dp W1 X.s.take.2.1 N x hN hK) rfl rfl rfl rfl Tryz.call110 ⟨rfl, rfl, rfl, trivial⟩ ?_
    rintro _ _ ⟨rfl, rfl⟩
    (repeat (first | refine W.ctl rfl ?_ | refine W.op rfl rfl rfl rfl ?_ | refine W.skip rfl rfl ?_ | refine W.fld rfl rfl rfl rfl rfl ?_ | refine W.ld rfl rfl rfl rfl rfl ?_))
    rw [e0]
    refine W.ret1 (.inr rfl) rfl rfl _ ⟨rfl, rfl⟩ ?_
    simp only [sep_assoc', emp_sep]
    exact Imp.all
theorem work_lay (wp sp dp : Nat) (X : Work) (at' : Int) (N : M.Node) (x : NP) (hN : NB N) (hK : KB N) (h0 : -9223372036854775808 ≤ at') (h1 : at' < 9223372036854775808) : CS 66 [ptr wp, int at', nodeV N x] (WkH wp sp dp X • NodeH N x)
    fun v H' => v = int (X.lay at' N).2 ∧ H' = (WkH wp sp dp (X.lay at' N).1 • NodeH N x) := by
  refine CS.walk Tryz.func66 rfl Tryz.ntmps66 rfl fun c R => ?_
  simp only [WkH, NodeH, NodeB, sep_assoc', emp_sep]
  (repeat (first | refine W.ctl rfl ?_ | refine W.op rfl rfl rfl rfl ?_ | refine W.skip rfl rfl ?_ | refine W.fld rfl rfl rfl rfl rfl ?_ | refine W.ld rfl rfl rfl rfl rfl ?_))
  refine W.box rfl rfl rfl rfl rfl fun nb => ?_
  (repeat (first | refine W.ctl rfl ?_ | refine W.op rfl rfl rfl rfl ?_ | refine W.skip rfl rfl ?_ | refine W.fld rfl rfl rfl rfl rfl ?_ | refine W.ld rfl rfl rfl rfl rfl ?_))
  refine W.call (shadow_Fresh sp dp X.s at') rfl rfl rfl rfl Tryz.call117 ⟨rfl, rfl, trivial⟩ ?_
  rintro _ _ ⟨rfl, rfl⟩
  by_cases h : at' ∈ X.s.fresh
  · rw [decide_eq_true h]
    (repeat (first | refine W.ctl rfl ?_ | refine W.op rfl rfl rfl rfl ?_ | refine W.skip rfl rfl ?_ | refine W.fld rfl rfl rfl rfl rfl ?_ | refine W.ld rfl rfl rfl rfl rfl ?_))
    refine W.lds rfl rfl rfl rfl rfl ?_
    (repeat (first | refine W.ctl rfl ?_ | refine W.op rfl rfl rfl rfl ?_ | refine W.skip rfl rfl ?_))
    refine W.call (work_write wp sp dp X at' N x hN hK) rfl rfl rfl rfl Tryz.call110 ⟨rfl, rfl, rfl, trivial⟩ ?_
    rintro _ _ ⟨rfl, rfl⟩
    (repeat (first | refine W.ctl rfl ?_ | refine W.op rfl rfl rfl rfl ?_ | refine W.skip rfl rfl ?_ | refine W.fld rfl rfl rfl rfl rfl ?_ | refine W.ld rfl rfl rfl rfl rfl ?_))
    have e1 : X.lay at' N = (X.write at' N, at') := by unfold Work.lay; rw [if_pos h]
    rw [e1]
    refine W.ret1 (.inr rfl) rfl rfl _ ⟨rfl, rfl⟩ ?_
    simp only [sep_assoc', emp_sep]
    exact Imp.all
  rw [decide_eq_false h]
  (repeat (first | refine W.ctl rfl ?_ | refine W.op rfl rfl rfl rfl ?_ | refine W.skip rfl rfl ?_ | refine W.fld rfl rfl rfl rfl rfl ?_ | refine W.ld rfl rfl rfl rfl rfl ?_))
  refine W.call (shadow_Give sp dp X.s at' h0 h1) rfl rfl rfl rfl Tryz.call71 ⟨rfl, rfl, trivial⟩ ?_
  rintro _ _ ⟨rfl, rfl⟩
  (repeat (first | refine W.ctl rfl ?_ | refine W.op rfl rfl rfl rfl ?_ | refine W.skip rfl rfl ?_ | refine W.fld rfl rfl rfl rfl rfl ?_ | refine W.ld rfl rfl rfl rfl rfl ?_))
  refine W.call (work_fail wp sp { X with s := (X.s.give at').1 } (X.s.give at').2) rfl rfl rfl rfl Tryz.call70 ⟨rfl, rfl, trivial⟩ ?_
  rintro _ _ ⟨rfl, rfl⟩
  obtain ⟨W1, hW1⟩ : ∃ W1, Work.fail { X with s := (X.s.give at').1 } (X.s.give at').2 = W1 := ⟨_, rfl⟩
  have hs : W1.s = (X.s.give at').1 := by rw [← hW1]; exact (fail_s _ _).1
  have e0 : X.lay at' N = if W1.e ≠ 0 then (W1, 0) else W1.fresh N := by unfold Work.lay; rw [if_neg h, hW1]
  rw [hW1, ← hs]
  by_cases h2 : W1.e ≠ 0
  · rw [decide_eq_true h2]
    rw [if_pos h2] at e0
    (repeat (first | refine W.ctl rfl ?_ | refine W.op rfl rfl rfl rfl ?_ | refine W.skip rfl rfl ?_ | refine W.fld rfl rfl rfl rfl rfl ?_ | refine W.ld rfl rfl rfl rfl rfl ?_))
    rw [e0]
    refine W.ret1 (.inr rfl) rfl rfl _ ⟨rfl, rfl⟩ ?_
    simp only [sep_assoc', emp_sep]
    exact Imp.all
  · rw [decide_eq_false h2]
    rw [if_neg h2] at e0
    (repeat (first | refine W.ctl rfl ?_ | refine W.op rfl rfl rfl rfl ?_ | refine W.skip rfl rfl ?_ | refine W.fld rfl rfl rfl rfl rfl ?_ | refine W.ld rfl rfl rfl rfl rfl ?_))
    refine W.lds rfl rfl rfl rfl rfl ?_
    (repeat (first | refine W.ctl rfl ?_ | refine W.op rfl rfl rfl rfl ?_ | refine W.skip rfl rfl ?_))
    refine W.call (work_fresh wp sp dp W1 N x hN hK) rfl rfl rfl rfl Tryz.call60 ⟨rfl, rfl, trivial⟩ ?_
    rintro _ _ ⟨rfl, rfl⟩
    (repeat (first | refine W.ctl rfl ?_ | refine W.op rfl rfl rfl rfl ?_ | refine W.skip rfl rfl ?_ | refine W.fld rfl rfl rfl rfl rfl ?_ | refine W.ld rfl rfl rfl rfl rfl ?_))
    rw [e0]
    refine W.ret1 (.inr rfl) rfl rfl _ ⟨rfl, rfl⟩ ?_
    simp only [sep_assoc', emp_sep]
    exact Imp.all
theorem node_ok (X : Work) (at' deep : Int) (h : (X.node at' deep).1.e = 0) : M.right (X.node at' deep).2 = true := by
  unfold Work.node at h ⊢
  dsimp only at h ⊢
  split at h
  · rename_i h1
    unfold Work.fail at h
    split at h
    · simp at h
    · rename_i h2; exact absurd h h2
  · rename_i h1
    rw [if_neg h1]
    split at h
    · rename_i h2; exact absurd h h2
    · rename_i h2
      rw [if_neg h2]
      obtain ⟨X1, hX1⟩ : ∃ X1, Work.fail { X with read := X.read + 1, s := (X.s.read at').1 } (X.s.read at').2.2.2 = X1 := ⟨_, rfl⟩
      rw [hX1] at h ⊢
      by_cases h3 : (X.s.read at').2.1 ≠ 2 ∨ (M.decode (X.s.read at').2.2.1).2 ≠ 0 ∨ deep > 10
      · rw [if_pos h3] at h
        unfold Work.fail at h
        split at h
        · simp at h
        · rename_i h4; exact absurd h h4
      · rw [if_neg h3]
        exact decode_right (by simp only [not_or, Decidable.not_not] at h3; exact h3.2.1)
theorem work_node (wp sp dp : Nat) (X : Work) (at' deep : Int) (h0 : 0 ≤ X.read) (h1 : X.read < 1000000) : CS 75 [ptr wp, int at', int deep] (WkH wp sp dp X)
    fun v H' => ∃ x, v = nodeV (X.node at' deep).2 x ∧ H' = (WkH wp sp dp (X.node at' deep).1 • NodeH (X.node at' deep).2 x) := by
  refine CS.walk Tryz.func75 rfl Tryz.ntmps75 rfl fun c R => ?_
  simp only [WkH, sep_assoc']
  (repeat (first | refine W.ctl rfl ?_ | refine W.op rfl rfl rfl rfl ?_ | refine W.skip rfl rfl ?_ | refine W.fld rfl rfl rfl rfl rfl ?_ | refine W.ld rfl rfl rfl rfl rfl ?_))
  refine W.alc rfl rfl rfl rfl fun nb => ?_
  (repeat (first | refine W.ctl rfl ?_ | refine W.op rfl rfl rfl rfl ?_ | refine W.skip rfl rfl ?_ | refine W.fld rfl rfl rfl rfl rfl ?_ | refine W.ld rfl rfl rfl rfl rfl ?_))
  refine W.ar (r := X.read + 1) rfl rfl rfl rfl rfl rfl rfl (wrap_i64 (by omega) (by omega)) ?_
  (repeat (first | refine W.ctl rfl ?_ | refine W.op rfl rfl rfl rfl ?_ | refine W.skip rfl rfl ?_ | refine W.fld rfl rfl rfl rfl rfl ?_ | refine W.ld rfl rfl rfl rfl rfl ?_))
  refine W.st rfl rfl rfl rfl rfl ?_
  (repeat (first | refine W.ctl rfl ?_ | refine W.op rfl rfl rfl rfl ?_ | refine W.skip rfl rfl ?_ | refine W.fld rfl rfl rfl rfl rfl ?_ | refine W.ld rfl rfl rfl rfl rfl ?_))
  by_cases h : 640 < X.read + 1
  · refine W.yes rfl rfl rfl rfl h ?_
    (repeat (first | refine W.ctl rfl ?_ | refine W.op rfl rfl rfl rfl ?_ | refine W.skip rfl rfl ?_ | refine W.fld rfl rfl rfl rfl rfl ?_ | refine W.ld rfl rfl rfl rfl rfl ?_))
    refine W.call (work_fail wp sp { X with read := X.read + 1 } 2) rfl rfl rfl rfl Tryz.call70 ⟨rfl, rfl, trivial⟩ ?_
    rintro _ _ ⟨rfl, rfl⟩
    (repeat (first | refine W.ctl rfl ?_ | refine W.op rfl rfl rfl rfl ?_ | refine W.skip rfl rfl ?_ | refine W.fld rfl rfl rfl rfl rfl ?_ | refine W.ld rfl rfl rfl rfl rfl ?_))
    refine W.lds rfl rfl rfl rfl rfl ?_
    refine W.sts rfl rfl rfl rfl rfl rfl ?_
    (repeat (first | refine W.ctl rfl ?_ | refine W.op rfl rfl rfl rfl ?_ | refine W.skip rfl rfl ?_ | refine W.fld rfl rfl rfl rfl rfl ?_ | refine W.ld rfl rfl rfl rfl rfl ?_))
    have e1 : X.node at' deep = (Work.fail { X with read := X.read + 1 } 2, M.Node.zero) := by unfold Work.node; rw [if_pos h]
    rw [e1]
    refine W.rets (.inr rfl) rfl (.cons (RV1.cells rfl) .nil) _ ⟨⟨none, 0, none, 0, none, 0⟩, rfl, rfl⟩ ?_
    rw [nodeH_zero, (fail_s _ _).1]
    simp only [sep_assoc', emp_sep]
    exact Imp.all
  refine W.no rfl rfl rfl rfl h ?_
  (repeat (first | refine W.ctl rfl ?_ | refine W.op rfl rfl rfl rfl ?_ | refine W.skip rfl rfl ?_ | refine W.fld rfl rfl rfl rfl rfl ?_ | refine W.ld rfl rfl rfl rfl rfl ?_))
  refine W.call (shadow_Read sp dp X.s at') rfl rfl rfl rfl Tryz.call122 ⟨rfl, rfl, trivial⟩ ?_
  rintro _ _ ⟨rfl, rfl⟩
  (repeat (first | refine W.ctl rfl ?_ | refine W.op rfl rfl rfl rfl ?_ | refine W.skip rfl rfl ?_ | refine W.fld rfl rfl rfl rfl rfl ?_ | refine W.ld rfl rfl rfl rfl rfl ?_))
  refine W.call (work_fail wp sp { X with read := X.read + 1, s := (X.s.read at').1 } (X.s.read at').2.2.2) rfl rfl rfl rfl Tryz.call70 ⟨rfl, rfl, trivial⟩ ?_
  rintro _ _ ⟨rfl, rfl⟩
  obtain ⟨W1, hW1⟩ : ∃ W1, Work.fail { X with read := X.read + 1, s := (X.s.read at').1 } (X.s.read at').2.2.2 = W1 := ⟨_, rfl⟩
  have hs : W1.s = (X.s.read at').1 := by rw [← hW1]; exact (fail_s _ _).1
  have e0 : X.node at' deep = if W1.e ≠ 0 then (W1, M.Node.zero) else if (X.s.read at').2.1 ≠ 2 ∨ (M.decode (X.s.read at').2.2.1).2 ≠ 0 ∨ deep > 10 then (W1.fail 2, M.Node.zero) else (W1, (M.decode (X.s.read at').2.2.1).1) := by
    unfold Work.node; rw [if_neg h]; dsimp only; rw [hW1]
  rw [hW1, ← hs]
  by_cases h2 : W1.e ≠ 0
  · rw [decide_eq_true h2]
    rw [if_pos h2] at e0
    (repeat (first | refine W.ctl rfl ?_ | refine W.op rfl rfl rfl rfl ?_ | refine W.skip rfl rfl ?_ | refine W.fld rfl rfl rfl rfl rfl ?_ | refine W.ld rfl rfl rfl rfl rfl ?_))
    refine W.lds rfl rfl rfl rfl rfl ?_
    refine W.sts rfl rfl rfl rfl rfl rfl ?_
    (repeat (first | refine W.ctl rfl ?_ | refine W.op rfl rfl rfl rfl ?_ | refine W.skip rfl rfl ?_ | refine W.fld rfl rfl rfl rfl rfl ?_ | refine W.ld rfl rfl rfl rfl rfl ?_))
    rw [e0]
    refine W.rets (.inr rfl) rfl (.cons (RV1.cells rfl) .nil) _ ⟨⟨none, 0, none, 0, none, 0⟩, rfl, rfl⟩ ?_
    rw [nodeH_zero]
    simp only [sep_assoc', emp_sep]
    exact Imp.all
  rw [decide_eq_false h2]
  rw [if_neg h2] at e0
  (repeat (first | refine W.ctl rfl ?_ | refine W.op rfl rfl rfl rfl ?_ | refine W.skip rfl rfl ?_ | refine W.fld rfl rfl rfl rfl rfl ?_ | refine W.ld rfl rfl rfl rfl rfl ?_))
  refine W.call (node_Decode (X.s.read at').2.2.1 (by have := read_text_len X.s at'; omega)) rfl rfl rfl rfl Tryz.call123 ⟨rfl, trivial⟩ ?_
  rintro _ _ ⟨x, rfl, rfl⟩
  (repeat (first | refine W.ctl rfl ?_ | refine W.op rfl rfl rfl rfl ?_ | refine W.skip rfl rfl ?_ | refine W.fld rfl rfl rfl rfl rfl ?_ | refine W.ld rfl rfl rfl rfl rfl ?_))
  refine W.sts rfl rfl rfl rfl rfl rfl ?_
  (repeat (first | refine W.ctl rfl ?_ | refine W.op rfl rfl rfl rfl ?_ | refine W.skip rfl rfl ?_ | refine W.fld rfl rfl rfl rfl rfl ?_ | refine W.ld rfl rfl rfl rfl rfl ?_))
  by_cases k1 : (X.s.read at').2.1 ≠ 2
  · refine W.yes rfl rfl rfl rfl k1 ?_
    rw [if_pos (.inl k1)] at e0
    (repeat (first | refine W.ctl rfl ?_ | refine W.op rfl rfl rfl rfl ?_ | refine W.skip rfl rfl ?_ | refine W.fld rfl rfl rfl rfl rfl ?_ | refine W.ld rfl rfl rfl rfl rfl ?_))
    refine W.call (work_fail wp sp W1 2) rfl rfl rfl rfl Tryz.call70 ⟨rfl, rfl, trivial⟩ ?_
    rintro _ _ ⟨rfl, rfl⟩
    (repeat (first | refine W.ctl rfl ?_ | refine W.op rfl rfl rfl rfl ?_ | refine W.skip rfl rfl ?_ | refine W.fld rfl rfl rfl rfl rfl ?_ | refine W.ld rfl rfl rfl rfl rfl ?_))
    refine W.bld rfl rfl rfl rfl rfl ?_
    refine W.sts rfl rfl rfl rfl rfl rfl ?_
    (repeat (first | refine W.ctl rfl ?_ | refine W.op rfl rfl rfl rfl ?_ | refine W.skip rfl rfl ?_ | refine W.fld rfl rfl rfl rfl rfl ?_ | refine W.ld rfl rfl rfl rfl rfl ?_))
    rw [e0]
    refine W.rets (.inr rfl) rfl (.cons (RV1.cells rfl) .nil) _ ⟨⟨none, 0, none, 0, none, 0⟩, rfl, rfl⟩ ?_
    rw [nodeH_zero, (fail_s _ _).1]
    simp only [NodeH, NodeB, sep_assoc', emp_sep]
    exact Imp.all
  refine W.no rfl rfl rfl rfl k1 ?_
  (repeat (first | refine W.ctl rfl ?_ | refine W.op rfl rfl rfl rfl ?_ | refine W.skip rfl rfl ?_ | refine W.fld rfl rfl rfl rfl rfl ?_ | refine W.ld rfl rfl rfl rfl rfl ?_))
  by_cases k2 : (M.decode (X.s.read at').2.2.1).2 ≠ 0
  · refine W.yes rfl rfl rfl rfl k2 ?_
    rw [if_pos (.inr (.inl k2))] at e0
    (repeat (first | refine W.ctl rfl ?_ | refine W.op rfl rfl rfl rfl ?_ | refine W.skip rfl rfl ?_ | refine W.fld rfl rfl rfl rfl rfl ?_ | refine W.ld rfl rfl rfl rfl rfl ?_))
    refine W.call (work_fail wp sp W1 2) rfl rfl rfl rfl Tryz.call70 ⟨rfl, rfl, trivial⟩ ?_
    rintro _ _ ⟨rfl, rfl⟩
    (repeat (first | refine W.ctl rfl ?_ | refine W.op rfl rfl rfl rfl ?_ | refine W.skip rfl rfl ?_ | refine W.fld rfl rfl rfl rfl rfl ?_ | refine W.ld rfl rfl rfl rfl rfl ?_))
    refine W.bld rfl rfl rfl rfl rfl ?_
    refine W.sts rfl rfl rfl rfl rfl rfl ?_
    (repeat (first | refine W.ctl rfl ?_ | refine W.op rfl rfl rfl rfl ?_ | refine W.skip rfl rfl ?_ | refine W.fld rfl rfl rfl rfl rfl ?_ | refine W.ld rfl rfl rfl rfl rfl ?_))
    rw [e0]
    refine W.rets (.inr rfl) rfl (.cons (RV1.cells rfl) .nil) _ ⟨⟨none, 0, none, 0, none, 0⟩, rfl, rfl⟩ ?_
    rw [nodeH_zero, (fail_s _ _).1]
    simp only [NodeH, NodeB, sep_assoc', emp_sep]
    exact Imp.all
  refine W.no rfl rfl rfl rfl k2 ?_
  (repeat (first | refine W.ctl rfl ?_ | refine W.op rfl rfl rfl rfl ?_ | refine W.skip rfl rfl ?_ | refine W.fld rfl rfl rfl rfl rfl ?_ | refine W.ld rfl rfl rfl rfl rfl ?_))
  by_cases k3 : 10 < deep
  · refine W.yes rfl rfl rfl rfl k3 ?_
    rw [if_pos (.inr (.inr k3))] at e0
    (repeat (first | refine W.ctl rfl ?_ | refine W.op rfl rfl rfl rfl ?_ | refine W.skip rfl rfl ?_ | refine W.fld rfl rfl rfl rfl rfl ?_ | refine W.ld rfl rfl rfl rfl rfl ?_))
    refine W.call (work_fail wp sp W1 2) rfl rfl rfl rfl Tryz.call70 ⟨rfl, rfl, trivial⟩ ?_
    rintro _ _ ⟨rfl, rfl⟩
    (repeat (first | refine W.ctl rfl ?_ | refine W.op rfl rfl rfl rfl ?_ | refine W.skip rfl rfl ?_ | refine W.fld rfl rfl rfl rfl rfl ?_ | refine W.ld rfl rfl rfl rfl rfl ?_))
    refine W.bld rfl rfl rfl rfl rfl ?_
    refine W.sts rfl rfl rfl rfl rfl rfl ?_
    (repeat (first | refine W.ctl rfl ?_ | refine W.op rfl rfl rfl rfl ?_ | refine W.skip rfl rfl ?_ | refine W.fld rfl rfl rfl rfl rfl ?_ | refine W.ld rfl rfl rfl rfl rfl ?_))
    rw [e0]
    refine W.rets (.inr rfl) rfl (.cons (RV1.cells rfl) .nil) _ ⟨⟨none, 0, none, 0, none, 0⟩, rfl, rfl⟩ ?_
    rw [nodeH_zero, (fail_s _ _).1]
    simp only [NodeH, NodeB, sep_assoc', emp_sep]
    exact Imp.all
  refine W.no rfl rfl rfl rfl k3 ?_
  rw [if_neg (by rintro (h | h | h) <;> contradiction)] at e0
  (repeat (first | refine W.ctl rfl ?_ | refine W.op rfl rfl rfl rfl ?_ | refine W.skip rfl rfl ?_ | refine W.fld rfl rfl rfl rfl rfl ?_ | refine W.ld rfl rfl rfl rfl rfl ?_))
  refine W.lds rfl rfl rfl rfl rfl ?_
  refine W.sts rfl rfl rfl rfl rfl rfl ?_
  (repeat (first | refine W.ctl rfl ?_ | refine W.op rfl rfl rfl rfl ?_ | refine W.skip rfl rfl ?_ | refine W.fld rfl rfl rfl rfl rfl ?_ | refine W.ld rfl rfl rfl rfl rfl ?_))
  rw [e0]
  refine W.rets (.inr rfl) rfl (.cons (RV1.cells rfl) .nil) _ ⟨x, rfl, rfl⟩ ?_
  simp only [NodeH, NodeB, sep_assoc', emp_sep]
  exact Imp.all
end Go.Proofs.YtbdhhedfplkidaaGreat
