/- Transactions; the clock. -/
import Derived.Test.YtbdhhedfplkidaaGreatC20
import Derived.Test.YtbdhhedfplkidaaGreatMod5
namespace Go.Proofs.YtbdhhedfplkidaaGreat
open Go
open M (Str Store Work Spot Txn)
set_option maxHeartbeats 1000000
set_option maxRecDepth 2000
abbrev TxnR (tp sp : Nat) (root e : Int) (ov : Bool) : HProp := row tp 165 [ptr sp, int root, int e, .bool ov]
abbrev TxnH (tp sp dp : Nat) (T : Txn) : HProp := TxnR tp sp T.root T.e T.over • StoreP sp dp T.s
theorem txn_Err (tp sp : Nat) (root e : Int) (ov : Bool) : CS 38 [ptr tp] (TxnR tp sp root e ov) fun v H' => v = int e ∧ H' = TxnR tp sp root e ov := by
  refine CS.walk Tryz.func38 rfl Tryz.ntmps38 rfl fun c R => ?_
  (repeat (first | refine W.ctl rfl ?_ | refine W.op rfl rfl rfl rfl ?_ | refine W.skip rfl rfl ?_ | refine W.fld rfl rfl rfl rfl rfl ?_ | refine W.ld rfl rfl rfl rfl rfl ?_))
  exact W.ret1 (.inr rfl) rfl rfl _ ⟨rfl, rfl⟩ Imp.all
theorem txn_does_no (tp sp : Nat) (root e : Int) (ov : Bool) (fv : Value) (h : ov = true ∨ e ≠ 0) : CS 85 [ptr tp, fv] (TxnR tp sp root e ov) fun v H' => v = .bool false ∧ H' = TxnR tp sp root e ov := by
  refine CS.walk Tryz.func85 rfl Tryz.ntmps85 rfl fun c R => ?_
  cases ov with
  | true =>
    (repeat (first | refine W.ctl rfl ?_ | refine W.op rfl rfl rfl rfl ?_ | refine W.skip rfl rfl ?_ | refine W.fld rfl rfl rfl rfl rfl ?_ | refine W.ld rfl rfl rfl rfl rfl ?_))
    exact W.ret1 (.inr rfl) rfl rfl _ ⟨rfl, rfl⟩ Imp.all
  | false =>
    (repeat (first | refine W.ctl rfl ?_ | refine W.op rfl rfl rfl rfl ?_ | refine W.skip rfl rfl ?_ | refine W.fld rfl rfl rfl rfl rfl ?_ | refine W.ld rfl rfl rfl rfl rfl ?_))
    refine W.yes rfl rfl rfl rfl (by simpa using h) ?_
    (repeat (first | refine W.ctl rfl ?_ | refine W.op rfl rfl rfl rfl ?_ | refine W.skip rfl rfl ?_ | refine W.fld rfl rfl rfl rfl rfl ?_ | refine W.ld rfl rfl rfl rfl rfl ?_))
    exact W.ret1 (.inr rfl) rfl rfl _ ⟨rfl, rfl⟩ Imp.all
theorem txn_does (tp sp : Nat) (root root' e2 : Int) (ok : Bool) (f : FuncId) (caps : List Value) (A A' : HProp) (hc : ∀ (args : Array Value) (w : World), (callFunc f args).run Pg w = .ok (.enter f args) w)
    (h : CS f caps (TxnR tp sp root 0 false • A) fun v H' => v = .tuple #[.bool ok, int e2] ∧ H' = (TxnR tp sp root' 0 false • A')) :
    CS 85 [ptr tp, .func (.func f) #[] caps.toArray] (TxnR tp sp root 0 false • A) fun v H' => v = .bool (ok && decide (e2 = 0)) ∧ H' = (TxnR tp sp root' e2 false • A') := by
  refine CS.walk Tryz.func85 rfl Tryz.ntmps85 rfl fun c R => ?_
  simp only [sep_assoc']
  (repeat (first | refine W.ctl rfl ?_ | refine W.op rfl rfl rfl rfl ?_ | refine W.skip rfl rfl ?_ | refine W.fld rfl rfl rfl rfl rfl ?_ | refine W.ld rfl rfl rfl rfl rfl ?_))
  refine W.no rfl rfl rfl rfl (by simp) ?_
  (repeat (first | refine W.ctl rfl ?_ | refine W.op rfl rfl rfl rfl ?_ | refine W.skip rfl rfl ?_ | refine W.fld rfl rfl rfl rfl rfl ?_ | refine W.ld rfl rfl rfl rfl rfl ?_))
  refine W.callv (vs := []) (caps := caps) h rfl rfl rfl rfl rfl hc trivial ?_
  rintro _ _ ⟨rfl, rfl⟩
  simp only [sep_assoc']
  (repeat (first | refine W.ctl rfl ?_ | refine W.op rfl rfl rfl rfl ?_ | refine W.skip rfl rfl ?_ | refine W.fld rfl rfl rfl rfl rfl ?_ | refine W.ld rfl rfl rfl rfl rfl ?_))
  refine W.st (v := int e2) rfl rfl rfl rfl rfl ?_
  cases ok with
  | true =>
    (repeat (first | refine W.ctl rfl ?_ | refine W.op rfl rfl rfl rfl ?_ | refine W.skip rfl rfl ?_ | refine W.fld rfl rfl rfl rfl rfl ?_ | refine W.ld rfl rfl rfl rfl rfl ?_))
    refine W.cmp (v := .bool (decide (e2 = 0))) rfl rfl rfl rfl ?_
    (repeat (first | refine W.ctl rfl ?_ | refine W.op rfl rfl rfl rfl ?_ | refine W.skip rfl rfl ?_ | refine W.fld rfl rfl rfl rfl rfl ?_ | refine W.ld rfl rfl rfl rfl rfl ?_))
    rw [Bool.true_and]
    exact W.ret1 (.inr rfl) rfl rfl _ ⟨rfl, rfl⟩ Imp.all
  | false =>
    (repeat (first | refine W.ctl rfl ?_ | refine W.op rfl rfl rfl rfl ?_ | refine W.skip rfl rfl ?_ | refine W.fld rfl rfl rfl rfl rfl ?_ | refine W.ld rfl rfl rfl rfl rfl ?_))
    rw [Bool.false_and]
    exact W.ret1 (.inr rfl) rfl rfl _ ⟨rfl, rfl⟩ Imp.all
theorem txn_Get1 (tp sp dp b2 b3 b4 : Nat) (S : Store) (root : Int) (key : Nat) (v0 : Value) (r0 : -9223372036854775808 ≤ root) (r1 : root < 9223372036854775808) : CS 87 [ptr b2, ptr b3, ptr b4]
    (TxnR tp sp root 0 false • StoreP sp dp S • row b2 24 [ptr tp] • row b3 35 [u64 key] • row b4 9 [v0])
    fun v H' => v = .tuple #[.bool (M.treeGet S root key).2.2.1, int (M.treeGet S root key).2.2.2] ∧ H' = (TxnR tp sp root 0 false • StoreP sp dp (M.treeGet S root key).1 • row b2 24 [ptr tp] • row b3 35 [u64 key] • row b4 9 [str (M.treeGet S root key).2.1]) := by
  refine CS.walk Tryz.func87 rfl Tryz.ntmps87 rfl fun c R => ?_
  simp only [sep_assoc']
  (repeat (first | refine W.ctl rfl ?_ | refine W.op rfl rfl rfl rfl ?_ | refine W.skip rfl rfl ?_ | refine W.fld rfl rfl rfl rfl rfl ?_ | refine W.ld rfl rfl rfl rfl rfl ?_))
  refine W.anyh (f := 8) (fun _ => true) [0, 1, 2, 3, 4, 5, 6, 7, 8] (by kernel_rfl) (by kernel_rfl) (by kernel_rfl) (by kernel_rfl) rfl (TxnR tp sp root 0 false • row b2 24 [ptr tp] • row b3 35 [u64 key]) Imp.all ?_
  (repeat (first | refine W.ctl rfl ?_ | refine W.op rfl rfl rfl rfl ?_ | refine W.skip rfl rfl ?_ | refine W.fld rfl rfl rfl rfl rfl ?_ | refine W.ld rfl rfl rfl rfl rfl ?_))
  refine W.tdn ?_
  refine W.ald1 9 (by kernel_rfl) rfl ?_
  refine W.call (tree_Get sp dp S root key r0 r1) rfl rfl rfl rfl Tryz.call27 ⟨rfl, rfl, rfl, trivial⟩ ?_
  rintro _ _ ⟨rfl, rfl⟩
  refine W.aft Imp.all ?_
  refine W.atk (f := 3) [10, 11, 12, 13] (by kernel_rfl) (by kernel_rfl) (by kernel_rfl) rfl Imp.all ?_
  (repeat (first | refine W.ctl rfl ?_ | refine W.op rfl rfl rfl rfl ?_ | refine W.skip rfl rfl ?_ | refine W.fld rfl rfl rfl rfl rfl ?_ | refine W.ld rfl rfl rfl rfl rfl ?_))
  refine W.tdn ?_
  refine W.ald1 14 (by kernel_rfl) rfl ?_
  refine W.st (v := str (M.treeGet S root key).2.1) rfl rfl rfl rfl rfl ?_
  refine W.aft Imp.all ?_
  refine W.ald1 15 (by kernel_rfl) rfl ?_
  (repeat (first | refine W.ctl rfl ?_ | refine W.op rfl rfl rfl rfl ?_ | refine W.skip rfl rfl ?_))
  refine W.aft Imp.all ?_
  refine W.ald1 16 (by kernel_rfl) rfl ?_
  (repeat (first | refine W.ctl rfl ?_ | refine W.op rfl rfl rfl rfl ?_ | refine W.skip rfl rfl ?_))
  refine W.aft Imp.all (W.adn (by kernel_rfl) ?_)
  (repeat (first | refine W.ctl rfl ?_ | refine W.op rfl rfl rfl rfl ?_ | refine W.skip rfl rfl ?_ | refine W.fld rfl rfl rfl rfl rfl ?_ | refine W.ld rfl rfl rfl rfl rfl ?_))
  exact W.ret2 (.inr rfl) rfl rfl rfl _ ⟨rfl, rfl⟩ Imp.all
theorem txn_Get (tp sp dp : Nat) (T : Txn) (key : Nat) (r0 : -9223372036854775808 ≤ T.root) (r1 : T.root < 9223372036854775808) : CS 39 [ptr tp, u64 key] (TxnH tp sp dp T)
    fun v H' => v = .tuple #[str (T.get key).2.1, .bool (T.get key).2.2] ∧ H' = TxnH tp sp dp (T.get key).1 := by
  refine CS.walk Tryz.func39 rfl Tryz.ntmps39 rfl fun c R => ?_
  simp only [TxnH, sep_assoc']
  (repeat (first | refine W.ctl rfl ?_ | refine W.op rfl rfl rfl rfl ?_ | refine W.skip rfl rfl ?_ | refine W.fld rfl rfl rfl rfl rfl ?_ | refine W.ld rfl rfl rfl rfl rfl ?_))
  refine W.box rfl rfl rfl rfl rfl fun b2 => ?_
  refine W.box rfl rfl rfl rfl rfl fun b3 => ?_
  refine W.alc rfl rfl rfl rfl fun b4 => ?_
  (repeat (first | refine W.ctl rfl ?_ | refine W.op rfl rfl rfl rfl ?_ | refine W.skip rfl rfl ?_ | refine W.fld rfl rfl rfl rfl rfl ?_ | refine W.ld rfl rfl rfl rfl rfl ?_))
  refine W.mkf (vs := [ptr b2, ptr b3, ptr b4]) rfl rfl rfl rfl ⟨rfl, rfl, rfl, trivial⟩ ?_
  by_cases h : T.over = true ∨ T.e ≠ 0
  · have e : T.get key = (T, [], false) := by rw [Txn.get, if_pos h]
    rw [e]
    refine W.call (txn_does_no tp sp T.root T.e T.over _ h) rfl rfl rfl rfl Tryz.call85 ⟨rfl, rfl, trivial⟩ ?_
    rintro _ _ ⟨rfl, rfl⟩
    (repeat (first | refine W.ctl rfl ?_ | refine W.op rfl rfl rfl rfl ?_ | refine W.skip rfl rfl ?_ | refine W.fld rfl rfl rfl rfl rfl ?_ | refine W.ld rfl rfl rfl rfl rfl ?_))
    refine W.st rfl rfl rfl rfl rfl ?_
    (repeat (first | refine W.ctl rfl ?_ | refine W.op rfl rfl rfl rfl ?_ | refine W.skip rfl rfl ?_ | refine W.fld rfl rfl rfl rfl rfl ?_ | refine W.ld rfl rfl rfl rfl rfl ?_))
    refine W.rets (.inr rfl) rfl (.cons (RV1.cell rfl) (.cons (RV1.tmp rfl) .nil)) _ ⟨rfl, rfl⟩ ?_
    simp only [sep_assoc']
    exact Imp.all
  · have e : T.get key = ({ T with s := (M.treeGet T.s T.root key).1, e := (M.treeGet T.s T.root key).2.2.2 }, (M.treeGet T.s T.root key).2.1, (M.treeGet T.s T.root key).2.2.1 && decide ((M.treeGet T.s T.root key).2.2.2 = 0)) := by rw [Txn.get, if_neg h]
    obtain ⟨S, root, e0, ov⟩ := T
    simp only [not_or, Decidable.not_not, Bool.not_eq_true] at h
    obtain ⟨rfl, rfl⟩ := h
    dsimp only at e r0 r1 ⊢
    rw [e]
    refine W.call (txn_does tp sp root root (M.treeGet S root key).2.2.2 (M.treeGet S root key).2.2.1 87 [ptr b2, ptr b3, ptr b4] _ _ Tryz.call87 (txn_Get1 tp sp dp b2 b3 b4 S root key (.string { data := #[] }) r0 r1)) rfl rfl rfl rfl Tryz.call85 ⟨rfl, rfl, trivial⟩ ?_
    rintro _ _ ⟨rfl, rfl⟩
    simp only [sep_assoc']
    (repeat (first | refine W.ctl rfl ?_ | refine W.op rfl rfl rfl rfl ?_ | refine W.skip rfl rfl ?_ | refine W.fld rfl rfl rfl rfl rfl ?_ | refine W.ld rfl rfl rfl rfl rfl ?_))
    refine W.st rfl rfl rfl rfl rfl ?_
    (repeat (first | refine W.ctl rfl ?_ | refine W.op rfl rfl rfl rfl ?_ | refine W.skip rfl rfl ?_ | refine W.fld rfl rfl rfl rfl rfl ?_ | refine W.ld rfl rfl rfl rfl rfl ?_))
    refine W.rets (.inr rfl) rfl (.cons (RV1.cell rfl) (.cons (RV1.tmp rfl) .nil)) _ ⟨rfl, rfl⟩ ?_
    simp only [sep_assoc']
    exact Imp.all
theorem txn_Put1 (tp sp dp b2 b3 b4 : Nat) (S : Store) (root : Int) (key : Nat) (value : Str) (r0 : -9223372036854775808 ≤ root) (r1 : root < 9223372036854775808) (hk : key < 18446744073709551616) (hv : value.length < 9223372036854775808) : CS 86 [ptr b2, ptr b3, ptr b4]
    (TxnR tp sp root 0 false • StoreP sp dp S • row b2 24 [ptr tp] • row b3 35 [u64 key] • row b4 9 [str value])
    fun v H' => v = .tuple #[.bool true, int (M.treePut S root key value).2.2] ∧ H' = (TxnR tp sp (if (M.treePut S root key value).2.2 = 0 then (M.treePut S root key value).2.1 else root) 0 false • StoreP sp dp (M.treePut S root key value).1 • row b2 24 [ptr tp] • row b3 35 [u64 key] • row b4 9 [str value]) := by
  refine CS.walk Tryz.func86 rfl Tryz.ntmps86 rfl fun c R => ?_
  simp only [sep_assoc']
  (repeat (first | refine W.ctl rfl ?_ | refine W.op rfl rfl rfl rfl ?_ | refine W.skip rfl rfl ?_ | refine W.fld rfl rfl rfl rfl rfl ?_ | refine W.ld rfl rfl rfl rfl rfl ?_))
  refine W.anyh (f := 6) (fun _ => true) [0, 1, 2, 3, 4, 5, 6, 7, 8, 9] (by kernel_rfl) (by kernel_rfl) (by kernel_rfl) (by kernel_rfl) rfl (TxnR tp sp root 0 false • row b2 24 [ptr tp] • row b3 35 [u64 key] • row b4 9 [str value]) Imp.all ?_
  (repeat (first | refine W.ctl rfl ?_ | refine W.op rfl rfl rfl rfl ?_ | refine W.skip rfl rfl ?_ | refine W.fld rfl rfl rfl rfl rfl ?_ | refine W.ld rfl rfl rfl rfl rfl ?_))
  refine W.tdn ?_
  refine W.ald1 10 (by kernel_rfl) rfl ?_
  refine W.call (tree_Put sp dp S root key value r0 r1 hk hv) rfl rfl rfl rfl Tryz.call21 ⟨rfl, rfl, rfl, rfl, trivial⟩ ?_
  rintro _ _ ⟨rfl, rfl⟩
  refine W.aft Imp.all ?_
  refine W.atk (f := 2) [11, 12, 13] (by kernel_rfl) (by kernel_rfl) (by kernel_rfl) rfl Imp.all ?_
  (repeat (first | refine W.ctl rfl ?_ | refine W.op rfl rfl rfl rfl ?_ | refine W.skip rfl rfl ?_ | refine W.fld rfl rfl rfl rfl rfl ?_ | refine W.ld rfl rfl rfl rfl rfl ?_))
  refine W.tdn ?_
  refine W.ald1 14 (by kernel_rfl) rfl ?_
  (repeat (first | refine W.ctl rfl ?_ | refine W.op rfl rfl rfl rfl ?_ | refine W.skip rfl rfl ?_))
  refine W.aft Imp.all ?_
  refine W.ald1 15 (by kernel_rfl) rfl ?_
  (repeat (first | refine W.ctl rfl ?_ | refine W.op rfl rfl rfl rfl ?_ | refine W.skip rfl rfl ?_))
  refine W.aft Imp.all (W.adn (by kernel_rfl) ?_)
  refine W.keep [(0, ptr b2), (1, ptr b3), (2, ptr b4), (5, int (M.treePut S root key value).2.1), (6, int (M.treePut S root key value).2.2)] ⟨rfl, rfl, rfl, rfl, rfl, trivial⟩ ?_
  (repeat (first | refine W.ctl rfl ?_ | refine W.op rfl rfl rfl rfl ?_ | refine W.skip rfl rfl ?_ | refine W.fld rfl rfl rfl rfl rfl ?_ | refine W.ld rfl rfl rfl rfl rfl ?_))
  by_cases h : (M.treePut S root key value).2.2 = 0
  · refine W.yes rfl rfl rfl rfl h ?_
    (repeat (first | refine W.ctl rfl ?_ | refine W.op rfl rfl rfl rfl ?_ | refine W.skip rfl rfl ?_ | refine W.fld rfl rfl rfl rfl rfl ?_ | refine W.ld rfl rfl rfl rfl rfl ?_))
    refine W.st rfl rfl rfl rfl rfl ?_
    (repeat (first | refine W.ctl rfl ?_ | refine W.op rfl rfl rfl rfl ?_ | refine W.skip rfl rfl ?_ | refine W.fld rfl rfl rfl rfl rfl ?_ | refine W.ld rfl rfl rfl rfl rfl ?_))
    refine W.ret2 (.inr rfl) rfl rfl rfl _ ⟨rfl, rfl⟩ ?_
    rw [if_pos h]
    exact Imp.all
  · refine W.no rfl rfl rfl rfl h ?_
    (repeat (first | refine W.ctl rfl ?_ | refine W.op rfl rfl rfl rfl ?_ | refine W.skip rfl rfl ?_ | refine W.fld rfl rfl rfl rfl rfl ?_ | refine W.ld rfl rfl rfl rfl rfl ?_))
    refine W.ret2 (.inr rfl) rfl rfl rfl _ ⟨rfl, rfl⟩ ?_
    rw [if_neg h]
    exact Imp.all
theorem txn_Put (tp sp dp : Nat) (T : Txn) (key : Nat) (value : Str) (r0 : -9223372036854775808 ≤ T.root) (r1 : T.root < 9223372036854775808) (hk : key < 18446744073709551616) (hv : value.length < 9223372036854775808) : CS 37 [ptr tp, u64 key, str value] (TxnH tp sp dp T)
    fun v H' => v = .bool (T.put key value).2 ∧ H' = TxnH tp sp dp (T.put key value).1 := by
  refine CS.walk Tryz.func37 rfl Tryz.ntmps37 rfl fun c R => ?_
  simp only [TxnH, sep_assoc']
  (repeat (first | refine W.ctl rfl ?_ | refine W.op rfl rfl rfl rfl ?_ | refine W.skip rfl rfl ?_ | refine W.fld rfl rfl rfl rfl rfl ?_ | refine W.ld rfl rfl rfl rfl rfl ?_))
  refine W.box rfl rfl rfl rfl rfl fun b2 => ?_
  refine W.box rfl rfl rfl rfl rfl fun b3 => ?_
  refine W.box rfl rfl rfl rfl rfl fun b4 => ?_
  (repeat (first | refine W.ctl rfl ?_ | refine W.op rfl rfl rfl rfl ?_ | refine W.skip rfl rfl ?_ | refine W.fld rfl rfl rfl rfl rfl ?_ | refine W.ld rfl rfl rfl rfl rfl ?_))
  refine W.slen rfl rfl rfl rfl rfl ?_
  by_cases hl : (value.length : Int) ≤ 40
  · refine W.yes rfl rfl rfl rfl hl ?_
    (repeat (first | refine W.ctl rfl ?_ | refine W.op rfl rfl rfl rfl ?_ | refine W.skip rfl rfl ?_ | refine W.fld rfl rfl rfl rfl rfl ?_ | refine W.ld rfl rfl rfl rfl rfl ?_))
    refine W.mkf (vs := [ptr b2, ptr b3, ptr b4]) rfl rfl rfl rfl ⟨rfl, rfl, rfl, trivial⟩ ?_
    (repeat (first | refine W.ctl rfl ?_ | refine W.op rfl rfl rfl rfl ?_ | refine W.skip rfl rfl ?_ | refine W.fld rfl rfl rfl rfl rfl ?_ | refine W.ld rfl rfl rfl rfl rfl ?_))
    by_cases h : T.over = true ∨ T.e ≠ 0
    · have e : T.put key value = (T, false) := by rw [Txn.put, if_neg (by omega), if_pos h]
      rw [e]
      refine W.call (txn_does_no tp sp T.root T.e T.over _ h) rfl rfl rfl rfl Tryz.call85 ⟨rfl, rfl, trivial⟩ ?_
      rintro _ _ ⟨rfl, rfl⟩
      (repeat (first | refine W.ctl rfl ?_ | refine W.op rfl rfl rfl rfl ?_ | refine W.skip rfl rfl ?_ | refine W.fld rfl rfl rfl rfl rfl ?_ | refine W.ld rfl rfl rfl rfl rfl ?_))
      refine W.ret1 (.inr rfl) rfl rfl _ ⟨rfl, rfl⟩ ?_
      simp only [sep_assoc']
      exact Imp.all
    · obtain ⟨r, hr⟩ : ∃ r, M.treePut T.s T.root key value = r := ⟨_, rfl⟩
      have e : T.put key value = ({ T with s := r.1, root := if r.2.2 = 0 then r.2.1 else T.root, e := r.2.2 }, decide (r.2.2 = 0)) := by rw [Txn.put, if_neg (by omega), if_neg h, hr]
      obtain ⟨S, root, e0, ov⟩ := T
      simp only [not_or, Decidable.not_not, Bool.not_eq_true] at h
      obtain ⟨rfl, rfl⟩ := h
      dsimp only at e r0 r1 hr ⊢
      rw [e]
      have h1 := txn_Put1 tp sp dp b2 b3 b4 S root key value r0 r1 hk hv
      rw [hr] at h1
      refine W.call (txn_does tp sp root _ r.2.2 true 86 [ptr b2, ptr b3, ptr b4] _ _ Tryz.call86 h1) rfl rfl rfl rfl Tryz.call85 ⟨rfl, rfl, trivial⟩ ?_
      rintro _ _ ⟨rfl, rfl⟩
      rw [Bool.true_and]
      simp only [sep_assoc']
      (repeat (first | refine W.ctl rfl ?_ | refine W.op rfl rfl rfl rfl ?_ | refine W.skip rfl rfl ?_ | refine W.fld rfl rfl rfl rfl rfl ?_ | refine W.ld rfl rfl rfl rfl rfl ?_))
      refine W.ret1 (.inr rfl) rfl rfl _ ⟨rfl, rfl⟩ ?_
      simp only [sep_assoc']
      exact Imp.all
  · refine W.no rfl rfl rfl rfl hl ?_
    (repeat (first | refine W.ctl rfl ?_ | refine W.op rfl rfl rfl rfl ?_ | refine W.skip rfl rfl ?_ | refine W.fld rfl rfl rfl rfl rfl ?_ | refine W.ld rfl rfl rfl rfl rfl ?_))
    have e : T.put key value = (T, false) := by rw [Txn.put, if_pos (by omega)]
    rw [e]
    refine W.ret1 (.inr rfl) rfl rfl _ ⟨rfl, rfl⟩ ?_
    simp only [sep_assoc']
    exact Imp.all
theorem rollback_ok {S : Store} (h : StoreOk S) : StoreOk S.rollback := ⟨h.disk, h.gen0, h.gen1, h.root0, h.root1, h.used⟩
theorem store_Rollback (p dp : Nat) (S : Store) : CS 46 [ptr p] (StoreP p dp S) fun v H' => v = .tuple #[] ∧ H' = StoreP p dp S.rollback := by
  intro c R w hs
  have h1 := hs.imp (StoreP.opn p dp S R)
  rw [← sep_emp' (ex _)] at h1
  obtain ⟨x, hx⟩ := h1.exE
  rw [sep_emp'] at hx
  obtain ⟨hS, hx⟩ := hx.prE
  simp only [StoreB] at hx
  refine (shadow_Rollback p (ptr dp) (str S.used) S.gen S.root (some x.1) (some x.2) S.down c _ w hx).mono ?_
  rintro e w' ⟨v, H', hp, rfl, hs'⟩
  obtain ⟨rfl, fb, gb, rfl⟩ := hp
  refine ⟨_, _, ⟨rfl, rfl⟩, rfl, hs'.imp ?_⟩
  have e2 := StoreP.mk (p := p) (dp := dp) (S := S.rollback) (fb, gb) (rollback_ok hS)
  simp only [StoreB, mset, Store.rollback, List.map_nil, sep_emp'] at e2
  simp only [sep_assoc']
  exact Imp.pack e2 Imp.all
theorem txn_Begin (sp dp : Nat) (S : Store) : CS 36 [ptr sp] (StoreP sp dp S) fun v H' => ∃ tp, v = ptr tp ∧ H' = TxnH tp sp dp (Txn.begin S) := by
  refine CS.walk Tryz.func36 rfl Tryz.ntmps36 rfl fun c R => ?_
  (repeat (first | refine W.ctl rfl ?_ | refine W.op rfl rfl rfl rfl ?_ | refine W.skip rfl rfl ?_ | refine W.fld rfl rfl rfl rfl rfl ?_ | refine W.ld rfl rfl rfl rfl rfl ?_))
  refine W.call (store_Rollback sp dp S) rfl rfl rfl rfl Tryz.call46 ⟨rfl, trivial⟩ ?_
  rintro _ _ ⟨rfl, rfl⟩
  (repeat (first | refine W.ctl rfl ?_ | refine W.op rfl rfl rfl rfl ?_ | refine W.skip rfl rfl ?_ | refine W.fld rfl rfl rfl rfl rfl ?_ | refine W.ld rfl rfl rfl rfl rfl ?_))
  refine W.call (shadow_Root sp dp S.rollback) rfl rfl rfl rfl Tryz.call47 ⟨rfl, trivial⟩ ?_
  rintro _ _ ⟨rfl, rfl⟩
  refine W.bld rfl rfl rfl rfl rfl ?_
  refine W.box rfl rfl rfl rfl rfl fun tp => ?_
  (repeat (first | refine W.ctl rfl ?_ | refine W.op rfl rfl rfl rfl ?_ | refine W.skip rfl rfl ?_ | refine W.fld rfl rfl rfl rfl rfl ?_ | refine W.ld rfl rfl rfl rfl rfl ?_))
  refine W.ret1 (.inr rfl) rfl rfl _ ⟨tp, rfl, rfl⟩ ?_
  rw [show TxnH tp sp dp (Txn.begin S) = (TxnR tp sp S.rollback.root 0 false • StoreP sp dp S.rollback) from rfl, sep_assoc']
  exact Imp.all
theorem lease_key (kind a b : Int) : CS 55 [int kind, int a, int b] emp fun v H' => v = u64 (M.spaceKey kind a b).1 ∧ H' = emp := by
  refine CS.walk Tryz.func55 rfl Tryz.ntmps55 rfl fun c R => ?_
  (repeat (first | refine W.ctl rfl ?_ | refine W.op rfl rfl rfl rfl ?_ | refine W.skip rfl rfl ?_ | refine W.fld rfl rfl rfl rfl rfl ?_ | refine W.ld rfl rfl rfl rfl rfl ?_))
  refine W.call (space_Key kind a b) rfl rfl rfl rfl Tryz.call103 ⟨rfl, rfl, rfl, trivial⟩ ?_
  rintro _ _ ⟨rfl, rfl⟩
  (repeat (first | refine W.ctl rfl ?_ | refine W.op rfl rfl rfl rfl ?_ | refine W.skip rfl rfl ?_ | refine W.fld rfl rfl rfl rfl rfl ?_ | refine W.ld rfl rfl rfl rfl rfl ?_))
  exact W.ret1 (.inr rfl) rfl rfl _ ⟨rfl, rfl⟩ Imp.all
theorem way_right : ∀ (f : Nat) (X : Work) (at' deep : Int) (key : Nat) (p : List Spot), (∀ t ∈ p, M.right t.n = true) → ∀ t ∈ (M.way f X at' deep key p).2, M.right t.n = true
  | 0, X, at', deep, key, p, hp => hp
  | f + 1, X, at', deep, key, p, hp => by
    rw [M.way]
    dsimp only
    by_cases he : (X.node at' deep).1.e ≠ 0
    · rw [if_pos he]; exact hp
    rw [if_neg he]
    have hr := node_ok X at' deep (by simpa using he)
    have hp' : ∀ t ∈ p ++ [(⟨at', (X.node at' deep).2, (M.find (X.node at' deep).2 key).1⟩ : Spot)], M.right t.n = true := by
      intro t ht
      rcases List.mem_append.1 ht with ht | ht
      · exact hp t ht
      · simp at ht; subst ht; exact hr
    split
    · exact hp'
    · exact way_right f _ _ _ key _ hp'
theorem get_len (T : Txn) (key : Nat) : (T.get key).2.1.length ≤ 40 := by
  unfold Txn.get
  split
  · simp
  · dsimp only
    unfold M.treeGet
    split
    · simp
    · dsimp only
      split
      · simp
      · split
        · simp
        · rename_i sp hsp
          split
          · have hm := List.mem_of_getLast? hsp
            have hr := way_right 11 _ _ 1 key [] (fun t ht => by cases ht) sp hm
            obtain ⟨_, _, _, h4, _⟩ := right_bounds hr
            dsimp only
            rw [List.getD_eq_getElem?_getD]
            cases hq : sp.n.vals[(M.find sp.n key).1]? with
            | none => simp
            | some x => exact h4 x (List.mem_of_getElem? hq)
          · simp
theorem lease_Clock (tp sp dp : Nat) (T : Txn) (r0 : -9223372036854775808 ≤ T.root) (r1 : T.root < 9223372036854775808) : CS 17 [ptr tp] (TxnH tp sp dp T)
    fun v H' => v = .tuple #[int (M.clock T).2.1, int (M.clock T).2.2] ∧ H' = TxnH tp sp dp (M.clock T).1 := by
  refine CS.walk Tryz.func17 rfl Tryz.ntmps17 rfl fun c R => ?_
  (repeat (first | refine W.ctl rfl ?_ | refine W.op rfl rfl rfl rfl ?_ | refine W.skip rfl rfl ?_ | refine W.fld rfl rfl rfl rfl rfl ?_ | refine W.ld rfl rfl rfl rfl rfl ?_))
  refine W.call (lease_key 9 0 4) rfl rfl rfl rfl Tryz.call55 ⟨rfl, rfl, rfl, trivial⟩ ?_
  rintro _ _ ⟨rfl, rfl⟩
  rw [emp_sep]
  refine W.call (txn_Get tp sp dp T M.clockKey r0 r1) rfl rfl rfl rfl Tryz.call39 ⟨rfl, rfl, trivial⟩ ?_
  rintro _ _ ⟨rfl, rfl⟩
  have hlen := get_len T M.clockKey
  obtain ⟨G, hG⟩ : ∃ G, T.get M.clockKey = G := ⟨_, rfl⟩
  have e0 : M.clock T = if G.2.2 = false then (G.1, 0, G.1.e) else if (M.take G.2.1 4).2.2 ≠ 0 ∨ (M.take G.2.1 4).2.1 ≠ [] ∨ ((M.take G.2.1 4).1 : Int) > 268435455 then (G.1, 0, 2) else (G.1, ((M.take G.2.1 4).1 : Int), 0) := by rw [M.clock, hG]
  rw [hG] at hlen ⊢
  obtain ⟨T', v, ok⟩ := G
  dsimp only at e0 hlen ⊢
  cases ok with
  | false =>
    rw [if_pos rfl] at e0
    simp only [TxnH, sep_assoc']
    (repeat (first | refine W.ctl rfl ?_ | refine W.op rfl rfl rfl rfl ?_ | refine W.skip rfl rfl ?_ | refine W.fld rfl rfl rfl rfl rfl ?_ | refine W.ld rfl rfl rfl rfl rfl ?_))
    refine W.call (txn_Err tp sp T'.root T'.e T'.over) rfl rfl rfl rfl Tryz.call38 ⟨rfl, trivial⟩ ?_
    rintro _ _ ⟨rfl, rfl⟩
    (repeat (first | refine W.ctl rfl ?_ | refine W.op rfl rfl rfl rfl ?_ | refine W.skip rfl rfl ?_ | refine W.fld rfl rfl rfl rfl rfl ?_ | refine W.ld rfl rfl rfl rfl rfl ?_))
    rw [e0]
    exact W.ret2 (.inr rfl) rfl rfl rfl _ ⟨rfl, rfl⟩ Imp.all
  | true =>
    rw [if_neg (by simp)] at e0
    (repeat (first | refine W.ctl rfl ?_ | refine W.op rfl rfl rfl rfl ?_ | refine W.skip rfl rfl ?_ | refine W.fld rfl rfl rfl rfl rfl ?_ | refine W.ld rfl rfl rfl rfl rfl ?_))
    refine W.call (num_Take v 4 (by omega) (by omega) (by omega)) rfl rfl rfl rfl Tryz.call56 ⟨rfl, rfl, trivial⟩ ?_
    rintro _ _ ⟨rfl, rfl⟩
    rw [emp_sep]
    (repeat (first | refine W.ctl rfl ?_ | refine W.op rfl rfl rfl rfl ?_ | refine W.skip rfl rfl ?_ | refine W.fld rfl rfl rfl rfl rfl ?_ | refine W.ld rfl rfl rfl rfl rfl ?_))
    by_cases k1 : (M.take v 4).2.2 ≠ 0
    · refine W.yes rfl rfl rfl rfl k1 ?_
      (repeat (first | refine W.ctl rfl ?_ | refine W.op rfl rfl rfl rfl ?_ | refine W.skip rfl rfl ?_ | refine W.fld rfl rfl rfl rfl rfl ?_ | refine W.ld rfl rfl rfl rfl rfl ?_))
      rw [e0, if_pos (.inl k1)]
      exact W.ret2 (.inr rfl) rfl rfl rfl _ ⟨rfl, rfl⟩ Imp.all
    refine W.no rfl rfl rfl rfl k1 ?_
    (repeat (first | refine W.ctl rfl ?_ | refine W.op rfl rfl rfl rfl ?_ | refine W.skip rfl rfl ?_ | refine W.fld rfl rfl rfl rfl rfl ?_ | refine W.ld rfl rfl rfl rfl rfl ?_))
    refine W.sne (s := (M.take v 4).2.1) (u := []) rfl rfl rfl rfl rfl rfl ?_
    by_cases k2 : (M.take v 4).2.1 ≠ []
    · rw [decide_eq_true k2]
      (repeat (first | refine W.ctl rfl ?_ | refine W.op rfl rfl rfl rfl ?_ | refine W.skip rfl rfl ?_ | refine W.fld rfl rfl rfl rfl rfl ?_ | refine W.ld rfl rfl rfl rfl rfl ?_))
      rw [e0, if_pos (.inr (.inl k2))]
      exact W.ret2 (.inr rfl) rfl rfl rfl _ ⟨rfl, rfl⟩ Imp.all
    rw [decide_eq_false k2]
    (repeat (first | refine W.ctl rfl ?_ | refine W.op rfl rfl rfl rfl ?_ | refine W.skip rfl rfl ?_ | refine W.fld rfl rfl rfl rfl rfl ?_ | refine W.ld rfl rfl rfl rfl rfl ?_))
    by_cases k3 : (268435455 : Int) < ((M.take v 4).1 : Nat)
    · refine W.yes rfl rfl rfl rfl k3 ?_
      (repeat (first | refine W.ctl rfl ?_ | refine W.op rfl rfl rfl rfl ?_ | refine W.skip rfl rfl ?_ | refine W.fld rfl rfl rfl rfl rfl ?_ | refine W.ld rfl rfl rfl rfl rfl ?_))
      rw [e0, if_pos (.inr (.inr k3))]
      exact W.ret2 (.inr rfl) rfl rfl rfl _ ⟨rfl, rfl⟩ Imp.all
    refine W.no rfl rfl rfl rfl k3 ?_
    (repeat (first | refine W.ctl rfl ?_ | refine W.op rfl rfl rfl rfl ?_ | refine W.skip rfl rfl ?_ | refine W.fld rfl rfl rfl rfl rfl ?_ | refine W.ld rfl rfl rfl rfl rfl ?_))
    refine W.cv rfl rfl rfl rfl rfl (wrap_i64 (by omega) (by omega)) ?_
    (repeat (first | refine W.ctl rfl ?_ | refine W.op rfl rfl rfl rfl ?_ | refine W.skip rfl rfl ?_ | refine W.fld rfl rfl rfl rfl rfl ?_ | refine W.ld rfl rfl rfl rfl rfl ?_))
    rw [e0, if_neg (by rintro (h | h | h) <;> contradiction)]
    exact W.ret2 (.inr rfl) rfl rfl rfl _ ⟨rfl, rfl⟩ Imp.all
theorem clock_le (T : Txn) : 0 ≤ (M.clock T).2.1 ∧ (M.clock T).2.1 ≤ 268435455 := by
  unfold M.clock
  dsimp only
  split
  · simp
  split
  · simp
  · rename_i h
    dsimp only
    omega
theorem clockKey_lt : M.clockKey < 18446744073709551616 := by decide
theorem lease_Tick (tp sp dp : Nat) (T : Txn) (n : Int) (r0 : -9223372036854775808 ≤ T.root) (r1 : T.root < 9223372036854775808) (r2 : -9223372036854775808 ≤ (M.clock T).1.root) (r3 : (M.clock T).1.root < 9223372036854775808) (n0 : -9223372036854775808 ≤ n) (n1 : n < 9223372036854775808) : CS 16 [ptr tp, int n] (TxnH tp sp dp T)
    fun v H' => v = .tuple #[int (M.tick T n).2.1, int (M.tick T n).2.2] ∧ H' = TxnH tp sp dp (M.tick T n).1 := by
  refine CS.walk Tryz.func16 rfl Tryz.ntmps16 rfl fun c R => ?_
  simp only [TxnH, sep_assoc']
  (repeat (first | refine W.ctl rfl ?_ | refine W.op rfl rfl rfl rfl ?_ | refine W.skip rfl rfl ?_ | refine W.fld rfl rfl rfl rfl rfl ?_ | refine W.ld rfl rfl rfl rfl rfl ?_))
  refine W.call (txn_Err tp sp T.root T.e T.over) rfl rfl rfl rfl Tryz.call38 ⟨rfl, trivial⟩ ?_
  rintro _ _ ⟨rfl, rfl⟩
  (repeat (first | refine W.ctl rfl ?_ | refine W.op rfl rfl rfl rfl ?_ | refine W.skip rfl rfl ?_ | refine W.fld rfl rfl rfl rfl rfl ?_ | refine W.ld rfl rfl rfl rfl rfl ?_))
  by_cases h1 : T.e ≠ 0
  · refine W.yes rfl rfl rfl rfl h1 ?_
    (repeat (first | refine W.ctl rfl ?_ | refine W.op rfl rfl rfl rfl ?_ | refine W.skip rfl rfl ?_ | refine W.fld rfl rfl rfl rfl rfl ?_ | refine W.ld rfl rfl rfl rfl rfl ?_))
    have e : M.tick T n = (T, 0, T.e) := by rw [M.tick, if_pos h1]
    rw [e]
    refine W.ret2 (.inr rfl) rfl rfl rfl _ ⟨rfl, rfl⟩ ?_
    simp only [sep_assoc']
    exact Imp.all
  refine W.no rfl rfl rfl rfl h1 ?_
  (repeat (first | refine W.ctl rfl ?_ | refine W.op rfl rfl rfl rfl ?_ | refine W.skip rfl rfl ?_ | refine W.fld rfl rfl rfl rfl rfl ?_ | refine W.ld rfl rfl rfl rfl rfl ?_))
  by_cases h2 : n < 0
  · refine W.yes rfl rfl rfl rfl h2 ?_
    (repeat (first | refine W.ctl rfl ?_ | refine W.op rfl rfl rfl rfl ?_ | refine W.skip rfl rfl ?_ | refine W.fld rfl rfl rfl rfl rfl ?_ | refine W.ld rfl rfl rfl rfl rfl ?_))
    have e : M.tick T n = (T, 0, 1) := by rw [M.tick, if_neg h1, if_pos h2]
    rw [e]
    refine W.ret2 (.inr rfl) rfl rfl rfl _ ⟨rfl, rfl⟩ ?_
    simp only [sep_assoc']
    exact Imp.all
  refine W.no rfl rfl rfl rfl h2 ?_
  (repeat (first | refine W.ctl rfl ?_ | refine W.op rfl rfl rfl rfl ?_ | refine W.skip rfl rfl ?_ | refine W.fld rfl rfl rfl rfl rfl ?_ | refine W.ld rfl rfl rfl rfl rfl ?_))
  have hc := clock_le T
  obtain ⟨C, hC⟩ : ∃ C, M.clock T = C := ⟨_, rfl⟩
  have e0 : M.tick T n = if C.2.2 ≠ 0 then (C.1, 0, C.2.2) else if n > 268435455 - C.2.1 then (C.1, 0, 12) else
      if (C.1.put M.clockKey (M.put (C.2.1 + n).toNat 4).1).2 = false then ((C.1.put M.clockKey (M.put (C.2.1 + n).toNat 4).1).1, 0, (C.1.put M.clockKey (M.put (C.2.1 + n).toNat 4).1).1.e) else ((C.1.put M.clockKey (M.put (C.2.1 + n).toNat 4).1).1, C.2.1 + n, 0) := by
    rw [M.tick, if_neg h1, if_neg h2, hC]
  have hcl := lease_Clock tp sp dp T r0 r1
  rw [hC] at hc r2 r3 hcl
  obtain ⟨T', now, ce⟩ := C
  dsimp only at hc r2 r3 hcl e0 ⊢
  refine W.call hcl rfl rfl rfl rfl Tryz.call17 ⟨rfl, trivial⟩ ?_
  rintro _ _ ⟨rfl, rfl⟩
  simp only [TxnH, sep_assoc']
  (repeat (first | refine W.ctl rfl ?_ | refine W.op rfl rfl rfl rfl ?_ | refine W.skip rfl rfl ?_ | refine W.fld rfl rfl rfl rfl rfl ?_ | refine W.ld rfl rfl rfl rfl rfl ?_))
  by_cases h3 : ce ≠ 0
  · refine W.yes rfl rfl rfl rfl h3 ?_
    (repeat (first | refine W.ctl rfl ?_ | refine W.op rfl rfl rfl rfl ?_ | refine W.skip rfl rfl ?_ | refine W.fld rfl rfl rfl rfl rfl ?_ | refine W.ld rfl rfl rfl rfl rfl ?_))
    rw [e0, if_pos h3]
    refine W.ret2 (.inr rfl) rfl rfl rfl _ ⟨rfl, rfl⟩ ?_
    simp only [sep_assoc']
    exact Imp.all
  refine W.no rfl rfl rfl rfl h3 ?_
  (repeat (first | refine W.ctl rfl ?_ | refine W.op rfl rfl rfl rfl ?_ | refine W.skip rfl rfl ?_ | refine W.fld rfl rfl rfl rfl rfl ?_ | refine W.ld rfl rfl rfl rfl rfl ?_))
  refine W.ar (r := 268435455 - now) rfl rfl rfl rfl rfl rfl rfl (wrap_i64 (by omega) (by omega)) ?_
  by_cases h4 : 268435455 - now < n
  · refine W.yes rfl rfl rfl rfl h4 ?_
    (repeat (first | refine W.ctl rfl ?_ | refine W.op rfl rfl rfl rfl ?_ | refine W.skip rfl rfl ?_ | refine W.fld rfl rfl rfl rfl rfl ?_ | refine W.ld rfl rfl rfl rfl rfl ?_))
    rw [e0, if_neg h3, if_pos h4]
    refine W.ret2 (.inr rfl) rfl rfl rfl _ ⟨rfl, rfl⟩ ?_
    simp only [sep_assoc']
    exact Imp.all
  refine W.no rfl rfl rfl rfl h4 ?_
  rw [if_neg h3, if_neg h4] at e0
  (repeat (first | refine W.ctl rfl ?_ | refine W.op rfl rfl rfl rfl ?_ | refine W.skip rfl rfl ?_ | refine W.fld rfl rfl rfl rfl rfl ?_ | refine W.ld rfl rfl rfl rfl rfl ?_))
  obtain ⟨m, hm⟩ : ∃ m : Nat, now + n = m := ⟨(now + n).toNat, by omega⟩
  rw [hm, Int.toNat_natCast] at e0
  refine W.ar (r := (m : Int)) rfl rfl rfl rfl rfl rfl (congrArg some hm) (wrap_i64 (by omega) (by omega)) ?_
  refine W.cv rfl rfl rfl rfl rfl (wrap_u64 (by omega) (by omega)) ?_
  refine W.call (num_Put m 4 (by omega) (by omega) (by omega)) rfl rfl rfl rfl Tryz.call54 ⟨rfl, rfl, trivial⟩ ?_
  rintro _ _ ⟨rfl, rfl⟩
  rw [emp_sep]
  (repeat (first | refine W.ctl rfl ?_ | refine W.op rfl rfl rfl rfl ?_ | refine W.skip rfl rfl ?_ | refine W.fld rfl rfl rfl rfl rfl ?_ | refine W.ld rfl rfl rfl rfl rfl ?_))
  refine W.call (lease_key 9 0 4) rfl rfl rfl rfl Tryz.call55 ⟨rfl, rfl, rfl, trivial⟩ ?_
  rintro _ _ ⟨rfl, rfl⟩
  rw [emp_sep]
  (repeat (first | refine W.ctl rfl ?_ | refine W.op rfl rfl rfl rfl ?_ | refine W.skip rfl rfl ?_ | refine W.fld rfl rfl rfl rfl rfl ?_ | refine W.ld rfl rfl rfl rfl rfl ?_))
  have hpl : (M.put m 4).1.length < 9223372036854775808 := by
    unfold M.put
    split
    · rename_i h; simp [M.be_length]
    · simp
  refine W.call (txn_Put tp sp dp T' M.clockKey (M.put m 4).1 r2 r3 clockKey_lt hpl) rfl rfl rfl rfl Tryz.call37 ⟨rfl, rfl, rfl, trivial⟩ ?_
  rintro _ _ ⟨rfl, rfl⟩
  obtain ⟨P, hP⟩ : ∃ P, T'.put M.clockKey (M.put m 4).1 = P := ⟨_, rfl⟩
  rw [hP] at e0 ⊢
  obtain ⟨T2, ok⟩ := P
  dsimp only at e0 ⊢
  simp only [TxnH, sep_assoc']
  cases ok with
  | false =>
    (repeat (first | refine W.ctl rfl ?_ | refine W.op rfl rfl rfl rfl ?_ | refine W.skip rfl rfl ?_ | refine W.fld rfl rfl rfl rfl rfl ?_ | refine W.ld rfl rfl rfl rfl rfl ?_))
    refine W.call (txn_Err tp sp T2.root T2.e T2.over) rfl rfl rfl rfl Tryz.call38 ⟨rfl, trivial⟩ ?_
    rintro _ _ ⟨rfl, rfl⟩
    (repeat (first | refine W.ctl rfl ?_ | refine W.op rfl rfl rfl rfl ?_ | refine W.skip rfl rfl ?_ | refine W.fld rfl rfl rfl rfl rfl ?_ | refine W.ld rfl rfl rfl rfl rfl ?_))
    rw [e0, if_pos rfl]
    refine W.ret2 (.inr rfl) rfl rfl rfl _ ⟨rfl, rfl⟩ ?_
    simp only [sep_assoc']
    exact Imp.all
  | true =>
    (repeat (first | refine W.ctl rfl ?_ | refine W.op rfl rfl rfl rfl ?_ | refine W.skip rfl rfl ?_ | refine W.fld rfl rfl rfl rfl rfl ?_ | refine W.ld rfl rfl rfl rfl rfl ?_))
    refine W.ar (r := (m : Int)) rfl rfl rfl rfl rfl rfl (congrArg some hm) (wrap_i64 (by omega) (by omega)) ?_
    (repeat (first | refine W.ctl rfl ?_ | refine W.op rfl rfl rfl rfl ?_ | refine W.skip rfl rfl ?_ | refine W.fld rfl rfl rfl rfl rfl ?_ | refine W.ld rfl rfl rfl rfl rfl ?_))
    rw [e0, if_neg (by simp)]
    refine W.ret2 (.inr rfl) rfl rfl rfl _ ⟨rfl, rfl⟩ ?_
    simp only [sep_assoc']
    exact Imp.all
end Go.Proofs.YtbdhhedfplkidaaGreat
