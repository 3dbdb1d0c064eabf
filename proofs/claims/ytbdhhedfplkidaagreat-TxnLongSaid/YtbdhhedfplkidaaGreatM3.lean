/- Parts of a proof, one behind the other: C6, C7, Mod2, C8, C9, E9, C10, Mod3, Sh, E10, C11. -/
import Derived.Test.YtbdhhedfplkidaaGreatM2
import Derived.Lib.AppendZeros
import Derived.Shelf.Strings.Builder1
import Derived.Shelf.Strings.Builder2
import Derived.Shelf.Small.Bits
import Derived.Shelf.Sort.Plain
import Derived.Shelf.Bits.Mul64
import Derived.Shelf.Strings.Repeat
import Derived.Ground.Names2Prog
import Derived.Shelf.Slices.SearchI
import Derived.Shelf.Slices.In.SortNone
import Derived.Test.YtbdhhedfplkidaaGreatProg
import Derived.Lib.UnsafeStr
/- Nodes: reading their parts, their size, whether they are right. -/
namespace Go.Proofs.YtbdhhedfplkidaaGreat
open Go
open M (Str)
set_option maxHeartbeats 400000
set_option maxRecDepth 2000
abbrev ReaderP (p : Nat) (b : Str) (bad : Bool) : HProp := row p 249 [str b, .bool bad]
theorem reader_number (p : Nat) (b : Str) (bad : Bool) (size : Int) (hb : b.length < 9223372036854775808) (hs0 : -9223372036854775808 ≤ size) (hs1 : size < 9223372036854775808) : CS 154 [.pointer (some ⟨p, 0, none⟩), int size] (ReaderP p b bad)
    fun v H' => v = u64 (M.take b size).1 ∧ H' = ReaderP p (M.take b size).2.1 (bad || decide ((M.take b size).2.2 ≠ 0)) := by
  refine CS.walk Tryz.func154 rfl Tryz.ntmps154 rfl fun c R => ?_
  (repeat (first | refine W.ctl rfl ?_ | refine W.op rfl rfl rfl rfl ?_ | refine W.skip rfl rfl ?_ | refine W.fld rfl rfl rfl rfl rfl ?_ | refine W.ld rfl rfl rfl rfl rfl ?_))
  refine W.call (num_Take b size hb hs0 hs1) rfl rfl rfl rfl Tryz.call56 ⟨rfl, rfl, trivial⟩ ?_
  rintro _ _ ⟨rfl, rfl⟩
  cases bad with
  | true =>
    simp only [Bool.true_or]
    (repeat (first | refine W.ctl rfl ?_ | refine W.op rfl rfl rfl rfl ?_ | refine W.skip rfl rfl ?_ | refine W.fld rfl rfl rfl rfl rfl ?_ | refine W.ld rfl rfl rfl rfl rfl ?_))
    refine W.st rfl rfl rfl rfl rfl ?_
    (repeat (first | refine W.ctl rfl ?_ | refine W.op rfl rfl rfl rfl ?_ | refine W.skip rfl rfl ?_ | refine W.fld rfl rfl rfl rfl rfl ?_ | refine W.ld rfl rfl rfl rfl rfl ?_))
    refine W.st (v := str (M.take b size).2.1) rfl rfl rfl rfl rfl ?_
    (repeat (first | refine W.ctl rfl ?_ | refine W.op rfl rfl rfl rfl ?_ | refine W.skip rfl rfl ?_ | refine W.fld rfl rfl rfl rfl rfl ?_ | refine W.ld rfl rfl rfl rfl rfl ?_))
    exact W.ret1 (.inr rfl) rfl rfl _ ⟨rfl, rfl⟩ Imp.all
  | false =>
    (repeat (first | refine W.ctl rfl ?_ | refine W.op rfl rfl rfl rfl ?_ | refine W.skip rfl rfl ?_ | refine W.fld rfl rfl rfl rfl rfl ?_ | refine W.ld rfl rfl rfl rfl rfl ?_))
    by_cases he : (M.take b size).2.2 ≠ 0
    · refine W.yes rfl rfl rfl rfl he ?_
      (repeat (first | refine W.ctl rfl ?_ | refine W.op rfl rfl rfl rfl ?_ | refine W.skip rfl rfl ?_ | refine W.fld rfl rfl rfl rfl rfl ?_ | refine W.ld rfl rfl rfl rfl rfl ?_))
      refine W.st rfl rfl rfl rfl rfl ?_
      (repeat (first | refine W.ctl rfl ?_ | refine W.op rfl rfl rfl rfl ?_ | refine W.skip rfl rfl ?_ | refine W.fld rfl rfl rfl rfl rfl ?_ | refine W.ld rfl rfl rfl rfl rfl ?_))
      refine W.st (v := str (M.take b size).2.1) rfl rfl rfl rfl rfl ?_
      (repeat (first | refine W.ctl rfl ?_ | refine W.op rfl rfl rfl rfl ?_ | refine W.skip rfl rfl ?_ | refine W.fld rfl rfl rfl rfl rfl ?_ | refine W.ld rfl rfl rfl rfl rfl ?_))
      rw [decide_eq_true he, Bool.false_or]
      exact W.ret1 (.inr rfl) rfl rfl _ ⟨rfl, rfl⟩ Imp.all
    · refine W.no rfl rfl rfl rfl he ?_
      (repeat (first | refine W.ctl rfl ?_ | refine W.op rfl rfl rfl rfl ?_ | refine W.skip rfl rfl ?_ | refine W.fld rfl rfl rfl rfl rfl ?_ | refine W.ld rfl rfl rfl rfl rfl ?_))
      refine W.st rfl rfl rfl rfl rfl ?_
      (repeat (first | refine W.ctl rfl ?_ | refine W.op rfl rfl rfl rfl ?_ | refine W.skip rfl rfl ?_ | refine W.fld rfl rfl rfl rfl rfl ?_ | refine W.ld rfl rfl rfl rfl rfl ?_))
      refine W.st (v := str (M.take b size).2.1) rfl rfl rfl rfl rfl ?_
      (repeat (first | refine W.ctl rfl ?_ | refine W.op rfl rfl rfl rfl ?_ | refine W.skip rfl rfl ?_ | refine W.fld rfl rfl rfl rfl rfl ?_ | refine W.ld rfl rfl rfl rfl rfl ?_))
      rw [decide_eq_false he, Bool.false_or]
      exact W.ret1 (.inr rfl) rfl rfl _ ⟨rfl, rfl⟩ Imp.all
theorem reader_text (p : Nat) (b : Str) (bad : Bool) (hb : b.length < 9223372036854775808) : CS 155 [.pointer (some ⟨p, 0, none⟩)] (ReaderP p b bad)
    fun v H' => v = str (M.takeText b).1 ∧ H' = ReaderP p (M.takeText b).2.1 (bad || decide ((M.takeText b).2.2 ≠ 0)) := by
  refine CS.walk Tryz.func155 rfl Tryz.ntmps155 rfl fun c R => ?_
  (repeat (first | refine W.ctl rfl ?_ | refine W.op rfl rfl rfl rfl ?_ | refine W.skip rfl rfl ?_ | refine W.fld rfl rfl rfl rfl rfl ?_ | refine W.ld rfl rfl rfl rfl rfl ?_))
  refine W.call (num_TakeText b hb) rfl rfl rfl rfl Tryz.call183 ⟨rfl, trivial⟩ ?_
  rintro _ _ ⟨rfl, rfl⟩
  cases bad with
  | true =>
    simp only [Bool.true_or]
    (repeat (first | refine W.ctl rfl ?_ | refine W.op rfl rfl rfl rfl ?_ | refine W.skip rfl rfl ?_ | refine W.fld rfl rfl rfl rfl rfl ?_ | refine W.ld rfl rfl rfl rfl rfl ?_))
    refine W.st rfl rfl rfl rfl rfl ?_
    (repeat (first | refine W.ctl rfl ?_ | refine W.op rfl rfl rfl rfl ?_ | refine W.skip rfl rfl ?_ | refine W.fld rfl rfl rfl rfl rfl ?_ | refine W.ld rfl rfl rfl rfl rfl ?_))
    refine W.st (v := str (M.takeText b).2.1) rfl rfl rfl rfl rfl ?_
    (repeat (first | refine W.ctl rfl ?_ | refine W.op rfl rfl rfl rfl ?_ | refine W.skip rfl rfl ?_ | refine W.fld rfl rfl rfl rfl rfl ?_ | refine W.ld rfl rfl rfl rfl rfl ?_))
    exact W.ret1 (.inr rfl) rfl rfl _ ⟨rfl, rfl⟩ Imp.all
  | false =>
    (repeat (first | refine W.ctl rfl ?_ | refine W.op rfl rfl rfl rfl ?_ | refine W.skip rfl rfl ?_ | refine W.fld rfl rfl rfl rfl rfl ?_ | refine W.ld rfl rfl rfl rfl rfl ?_))
    by_cases he : (M.takeText b).2.2 ≠ 0
    · refine W.yes rfl rfl rfl rfl he ?_
      (repeat (first | refine W.ctl rfl ?_ | refine W.op rfl rfl rfl rfl ?_ | refine W.skip rfl rfl ?_ | refine W.fld rfl rfl rfl rfl rfl ?_ | refine W.ld rfl rfl rfl rfl rfl ?_))
      refine W.st rfl rfl rfl rfl rfl ?_
      (repeat (first | refine W.ctl rfl ?_ | refine W.op rfl rfl rfl rfl ?_ | refine W.skip rfl rfl ?_ | refine W.fld rfl rfl rfl rfl rfl ?_ | refine W.ld rfl rfl rfl rfl rfl ?_))
      refine W.st (v := str (M.takeText b).2.1) rfl rfl rfl rfl rfl ?_
      (repeat (first | refine W.ctl rfl ?_ | refine W.op rfl rfl rfl rfl ?_ | refine W.skip rfl rfl ?_ | refine W.fld rfl rfl rfl rfl rfl ?_ | refine W.ld rfl rfl rfl rfl rfl ?_))
      rw [decide_eq_true he, Bool.false_or]
      exact W.ret1 (.inr rfl) rfl rfl _ ⟨rfl, rfl⟩ Imp.all
    · refine W.no rfl rfl rfl rfl he ?_
      (repeat (first | refine W.ctl rfl ?_ | refine W.op rfl rfl rfl rfl ?_ | refine W.skip rfl rfl ?_ | refine W.fld rfl rfl rfl rfl rfl ?_ | refine W.ld rfl rfl rfl rfl rfl ?_))
      refine W.st rfl rfl rfl rfl rfl ?_
      (repeat (first | refine W.ctl rfl ?_ | refine W.op rfl rfl rfl rfl ?_ | refine W.skip rfl rfl ?_ | refine W.fld rfl rfl rfl rfl rfl ?_ | refine W.ld rfl rfl rfl rfl rfl ?_))
      refine W.st (v := str (M.takeText b).2.1) rfl rfl rfl rfl rfl ?_
      (repeat (first | refine W.ctl rfl ?_ | refine W.op rfl rfl rfl rfl ?_ | refine W.skip rfl rfl ?_ | refine W.fld rfl rfl rfl rfl rfl ?_ | refine W.ld rfl rfl rfl rfl rfl ?_))
      rw [decide_eq_false he, Bool.false_or]
      exact W.ret1 (.inr rfl) rfl rfl _ ⟨rfl, rfl⟩ Imp.all
/-- Where a node's slices lie. -/
structure NP where
  ka : Option Nat
  kc : Nat
  va : Option Nat
  vc : Nat
  da : Option Nat
  dc : Nat
abbrev nodeV (N : M.Node) (x : NP) : Value := .agg #[.bool N.leaf, sv x.ka N.keys.length x.kc, sv x.va N.vals.length x.vc, sv x.da N.kids.length x.dc]
abbrev NodeB (N : M.Node) (x : NP) (R : HProp) : HProp := slck 1 35 (sv x.ka N.keys.length x.kc) N.keys.length (N.keys.map u64) • slck 1 9 (sv x.va N.vals.length x.vc) N.vals.length (N.vals.map str) •
  slck 1 3 (sv x.da N.kids.length x.dc) N.kids.length (N.kids.map int) • R
abbrev NodeH (N : M.Node) (x : NP) : HProp := NodeB N x emp
structure NB (N : M.Node) : Prop where
  keys : N.keys.length ≤ 4096
  vals : N.vals.length ≤ 4096
  kids : N.kids.length ≤ 4096
  val : ∀ v ∈ N.vals, v.length ≤ 4294967296
theorem sum_le {l : List Str} {m : Nat} (h : ∀ v ∈ l, v.length ≤ m) : (l.map List.length).sum ≤ l.length * m := by
  induction l with
  | nil => simp
  | cons v l ih =>
    have h1 := h v (by simp)
    have h2 := ih fun u hu => h u (by simp [hu])
    simp only [List.map_cons, List.sum_cons, List.length_cons, Nat.add_mul, Nat.one_mul]
    omega
theorem node_Size (N : M.Node) (x : NP) (hN : NB N) : CS 64 [nodeV N x] (NodeH N x) fun v H' => v = int (M.nsize N) ∧ H' = NodeH N x := by
  have hk := hN.keys
  have hv := hN.vals
  have hd := hN.kids
  refine CS.walk Tryz.func64 rfl Tryz.ntmps64 rfl fun c R => ?_
  simp only [NodeH, NodeB, sep_assoc', emp_sep]
  (repeat (first | refine W.ctl rfl ?_ | refine W.op rfl rfl rfl rfl ?_ | refine W.skip rfl rfl ?_ | refine W.fld rfl rfl rfl rfl rfl ?_ | refine W.ld rfl rfl rfl rfl rfl ?_))
  refine W.box rfl rfl rfl rfl rfl fun b => ?_
  (repeat (first | refine W.ctl rfl ?_ | refine W.op rfl rfl rfl rfl ?_ | refine W.skip rfl rfl ?_ | refine W.fld rfl rfl rfl rfl rfl ?_ | refine W.ld rfl rfl rfl rfl rfl ?_))
  refine W.len rfl rfl rfl rfl rfl ?_
  refine W.ar (r := 8 * (N.keys.length : Int)) rfl rfl rfl rfl rfl rfl rfl (wrap_i64 (by omega) (by omega)) ?_
  refine W.ar (r := 1 + 8 * (N.keys.length : Int)) rfl rfl rfl rfl rfl rfl rfl (wrap_i64 (by omega) (by omega)) ?_
  (repeat (first | refine W.ctl rfl ?_ | refine W.op rfl rfl rfl rfl ?_ | refine W.skip rfl rfl ?_ | refine W.fld rfl rfl rfl rfl rfl ?_ | refine W.ld rfl rfl rfl rfl rfl ?_))
  cases hl : N.leaf with
  | false =>
    (repeat (first | refine W.ctl rfl ?_ | refine W.op rfl rfl rfl rfl ?_ | refine W.skip rfl rfl ?_ | refine W.fld rfl rfl rfl rfl rfl ?_ | refine W.ld rfl rfl rfl rfl rfl ?_))
    refine W.len rfl rfl rfl rfl rfl ?_
    refine W.ar (r := 2 * (N.kids.length : Int)) rfl rfl rfl rfl rfl rfl rfl (wrap_i64 (by omega) (by omega)) ?_
    refine W.ar (r := 1 + 8 * (N.keys.length : Int) + 2 * (N.kids.length : Int)) rfl rfl rfl rfl rfl rfl rfl (wrap_i64 (by omega) (by omega)) ?_
    (repeat (first | refine W.ctl rfl ?_ | refine W.op rfl rfl rfl rfl ?_ | refine W.skip rfl rfl ?_ | refine W.fld rfl rfl rfl rfl rfl ?_ | refine W.ld rfl rfl rfl rfl rfl ?_))
    refine W.ret1 (.inr rfl) rfl rfl _ ⟨?_, rfl⟩ Imp.all
    rw [M.nsize, hl]
    simp
  | true =>
    (repeat (first | refine W.ctl rfl ?_ | refine W.op rfl rfl rfl rfl ?_ | refine W.skip rfl rfl ?_ | refine W.fld rfl rfl rfl rfl rfl ?_ | refine W.ld rfl rfl rfl rfl rfl ?_))
    refine W.len rfl rfl rfl rfl rfl ?_
    refine W.ar (r := 1 + 8 * (N.keys.length : Int) + (N.keys.length : Int)) rfl rfl rfl rfl rfl rfl rfl (wrap_i64 (by omega) (by omega)) ?_
    (repeat (first | refine W.ctl rfl ?_ | refine W.op rfl rfl rfl rfl ?_ | refine W.skip rfl rfl ?_ | refine W.fld rfl rfl rfl rfl rfl ?_ | refine W.ld rfl rfl rfl rfl rfl ?_))
    refine W.len rfl rfl rfl rfl rfl ?_
    (repeat (first | refine W.ctl rfl ?_ | refine W.op rfl rfl rfl rfl ?_ | refine W.skip rfl rfl ?_ | refine W.fld rfl rfl rfl rfl rfl ?_ | refine W.ld rfl rfl rfl rfl rfl ?_))
    have hsum := fun i => sum_le (l := N.vals.take i) fun v hv => hN.val v (List.mem_of_mem_take hv)
    refine W.loop (σ := Nat) (fun i => i ≤ N.vals.length) (fun i => [(3, int (1 + 9 * N.keys.length + ((N.vals.take i).map List.length).sum : Nat)), (26, sv x.va N.vals.length x.vc), (27, int N.vals.length), (28, int i)]) (fun _ => NodeB N x R) (fun i => N.vals.length - i) 0 (by omega) ?_ Imp.all ?_
    · refine ⟨?_, rfl, rfl, rfl, trivial⟩
      show some _ = some _
      simp; omega
    intro i hi
    (repeat (first | refine W.ctl rfl ?_ | refine W.op rfl rfl rfl rfl ?_ | refine W.skip rfl rfl ?_ | refine W.fld rfl rfl rfl rfl rfl ?_ | refine W.ld rfl rfl rfl rfl rfl ?_))
    by_cases h1 : (i : Int) < N.vals.length
    · refine W.yes rfl rfl rfl rfl h1 ?_
      (repeat (first | refine W.ctl rfl ?_ | refine W.op rfl rfl rfl rfl ?_ | refine W.skip rfl rfl ?_ | refine W.fld rfl rfl rfl rfl rfl ?_ | refine W.ld rfl rfl rfl rfl rfl ?_))
      have h1' : i < N.vals.length := by omega
      refine W.idxk rfl rfl rfl rfl rfl rfl (by omega) (by omega) ?_
      refine W.ldk (v := str N.vals[i]) rfl rfl rfl rfl rfl (by simp [h1']) ?_
      (repeat (first | refine W.ctl rfl ?_ | refine W.op rfl rfl rfl rfl ?_ | refine W.skip rfl rfl ?_ | refine W.fld rfl rfl rfl rfl rfl ?_ | refine W.ld rfl rfl rfl rfl rfl ?_))
      refine W.slen rfl rfl rfl rfl rfl ?_
      have e := hsum (i + 1)
      have e1 : ((N.vals.take (i + 1)).map List.length).sum = ((N.vals.take i).map List.length).sum + (N.vals[i]).length := by
        rw [List.take_add_one, List.getElem?_eq_getElem h1', Option.toList_some, List.map_append, List.sum_append]; simp only [List.map_cons, List.map_nil, List.sum_cons, List.sum_nil, Nat.add_zero]
      have e2 : (N.vals.take (i + 1)).length ≤ 4096 := by simp; omega
      have e3 := Nat.mul_le_mul_right 4294967296 e2
      refine W.ar (r := (1 + 9 * N.keys.length + ((N.vals.take (i + 1)).map List.length).sum : Nat)) rfl rfl rfl rfl rfl rfl ?_ (wrap_i64 (by omega) (by omega)) ?_
      · rw [e1]; exact congrArg some (by omega)
      (repeat (first | refine W.ctl rfl ?_ | refine W.op rfl rfl rfl rfl ?_ | refine W.skip rfl rfl ?_ | refine W.fld rfl rfl rfl rfl rfl ?_ | refine W.ld rfl rfl rfl rfl rfl ?_))
      refine W.ar (r := ((i + 1 : Nat) : Int)) rfl rfl rfl rfl rfl rfl rfl (wrap_i64 (by omega) (by omega)) ?_
      (repeat (first | refine W.ctl rfl ?_ | refine W.op rfl rfl rfl rfl ?_ | refine W.skip rfl rfl ?_ | refine W.fld rfl rfl rfl rfl rfl ?_ | refine W.ld rfl rfl rfl rfl rfl ?_))
      exact W.again (i + 1) (by omega) (by omega) ⟨rfl, rfl, rfl, rfl, trivial⟩ Imp.all
    · refine W.no rfl rfl rfl rfl h1 ?_
      (repeat (first | refine W.ctl rfl ?_ | refine W.op rfl rfl rfl rfl ?_ | refine W.skip rfl rfl ?_ | refine W.fld rfl rfl rfl rfl rfl ?_ | refine W.ld rfl rfl rfl rfl rfl ?_))
      have hi' : i = N.vals.length := by omega
      refine W.ret1 (.inr rfl) rfl rfl (NodeH N x) ⟨?_, rfl⟩ Imp.all
      rw [hi', M.nsize, hl]
      simp; omega
theorem idx_str (f : FuncId) (p : Value → Bool) (a : Option Nat) (n cap : Nat) (vs : List Value) (hvl : vs.length = n) (hn : n < 9223372036854775808) (hc : ∀ (args : Array Value) (w : World), (callFunc f args).run Pg w = .ok (.enter f args) w)
    (hf : ∀ v ∈ vs, CS f [v] emp fun r H' => r = .bool (p v) ∧ H' = emp) : CS 212 [sv a n cap, .func (.func f) #[] #[]] (slck 1 9 (sv a n cap) n vs)
      fun v H' => v = int (match vs.findIdx? p with | some i => (i : Int) | none => -1) ∧ H' = slck 1 9 (sv a n cap) n vs := by
  subst hvl
  refine CS.walk Tryz.func212 rfl Tryz.ntmps212 rfl fun c R => ?_
  (repeat (first | refine W.ctl rfl ?_ | refine W.op rfl rfl rfl rfl ?_ | refine W.skip rfl rfl ?_ | refine W.fld rfl rfl rfl rfl rfl ?_ | refine W.ld rfl rfl rfl rfl rfl ?_))
  refine W.len rfl rfl rfl rfl rfl ?_
  (repeat (first | refine W.ctl rfl ?_ | refine W.op rfl rfl rfl rfl ?_ | refine W.skip rfl rfl ?_ | refine W.fld rfl rfl rfl rfl rfl ?_ | refine W.ld rfl rfl rfl rfl rfl ?_))
  refine W.loop (σ := Nat) (fun i => i ≤ vs.length ∧ ∀ j, j < i → ∀ v, vs[j]? = some v → p v = false) (fun i => [(0, sv a vs.length cap), (1, .func (.func f) #[] #[]), (7, int vs.length), (8, int i)]) (fun _ => slck 1 9 (sv a vs.length cap) vs.length vs • R) (fun i => vs.length - i) 0 ⟨by omega, fun j hj => absurd hj (by omega)⟩ ⟨rfl, rfl, rfl, rfl, trivial⟩ Imp.all ?_
  rintro i ⟨hi, hp⟩
  (repeat (first | refine W.ctl rfl ?_ | refine W.op rfl rfl rfl rfl ?_ | refine W.skip rfl rfl ?_ | refine W.fld rfl rfl rfl rfl rfl ?_ | refine W.ld rfl rfl rfl rfl rfl ?_))
  by_cases h1 : (i : Int) < vs.length
  · refine W.yes rfl rfl rfl rfl h1 ?_
    (repeat (first | refine W.ctl rfl ?_ | refine W.op rfl rfl rfl rfl ?_ | refine W.skip rfl rfl ?_ | refine W.fld rfl rfl rfl rfl rfl ?_ | refine W.ld rfl rfl rfl rfl rfl ?_))
    have h1' : i < vs.length := by omega
    refine W.idxk rfl rfl rfl rfl rfl rfl (by omega) (by omega) ?_
    refine W.ldk (v := vs[i]) rfl rfl rfl rfl rfl (by simp [h1']) ?_
    refine W.callv (caps := []) (vs := [vs[i]]) (hf vs[i] (List.getElem_mem _)) rfl rfl rfl rfl rfl hc ⟨rfl, trivial⟩ ?_
    rintro _ _ ⟨rfl, rfl⟩
    cases hq : p vs[i] with
    | true =>
      (repeat (first | refine W.ctl rfl ?_ | refine W.op rfl rfl rfl rfl ?_ | refine W.skip rfl rfl ?_ | refine W.fld rfl rfl rfl rfl rfl ?_ | refine W.ld rfl rfl rfl rfl rfl ?_))
      have e : vs.findIdx? p = some i := by
        rw [List.findIdx?_eq_some_iff_getElem]
        refine ⟨h1', hq, fun j hj => ?_⟩
        have := hp j hj vs[j] (by simp)
        simp [this]
      rw [e]
      exact W.ret1 (.inr rfl) rfl rfl _ ⟨rfl, rfl⟩ Imp.all
    | false =>
      (repeat (first | refine W.ctl rfl ?_ | refine W.op rfl rfl rfl rfl ?_ | refine W.skip rfl rfl ?_ | refine W.fld rfl rfl rfl rfl rfl ?_ | refine W.ld rfl rfl rfl rfl rfl ?_))
      refine W.ar (r := ((i + 1 : Nat) : Int)) rfl rfl rfl rfl rfl rfl rfl (wrap_i64 (by omega) (by omega)) ?_
      (repeat (first | refine W.ctl rfl ?_ | refine W.op rfl rfl rfl rfl ?_ | refine W.skip rfl rfl ?_ | refine W.fld rfl rfl rfl rfl rfl ?_ | refine W.ld rfl rfl rfl rfl rfl ?_))
      refine W.again (i + 1) ⟨by omega, fun j hj v hv => ?_⟩ (by omega) ⟨rfl, rfl, rfl, rfl, trivial⟩ Imp.all
      by_cases hji : j = i
      · subst hji
        rw [List.getElem?_eq_getElem h1'] at hv
        cases hv; exact hq
      · exact hp j (by omega) v hv
  · refine W.no rfl rfl rfl rfl h1 ?_
    (repeat (first | refine W.ctl rfl ?_ | refine W.op rfl rfl rfl rfl ?_ | refine W.skip rfl rfl ?_ | refine W.fld rfl rfl rfl rfl rfl ?_ | refine W.ld rfl rfl rfl rfl rfl ?_))
    have e : vs.findIdx? p = none := by
      rw [List.findIdx?_eq_none_iff]
      intro v hv
      obtain ⟨j, hj, rfl⟩ := List.getElem_of_mem hv
      exact hp j (by omega) _ (by simp)
    rw [e]
    exact W.ret1 (.inr rfl) rfl rfl _ ⟨rfl, rfl⟩ Imp.all
theorem has_str (f : FuncId) (p : Value → Bool) (a : Option Nat) (n cap : Nat) (vs : List Value) (hvl : vs.length = n) (hn : n < 9223372036854775808) (hc : ∀ (args : Array Value) (w : World), (callFunc f args).run Pg w = .ok (.enter f args) w)
    (hf : ∀ v ∈ vs, CS f [v] emp fun r H' => r = .bool (p v) ∧ H' = emp) : CS 204 [sv a n cap, .func (.func f) #[] #[]] (slck 1 9 (sv a n cap) n vs)
      fun v H' => v = .bool (vs.any p) ∧ H' = slck 1 9 (sv a n cap) n vs := by
  subst hvl
  refine CS.walk Tryz.func204 rfl Tryz.ntmps204 rfl fun c R => ?_
  (repeat (first | refine W.ctl rfl ?_ | refine W.op rfl rfl rfl rfl ?_ | refine W.skip rfl rfl ?_ | refine W.fld rfl rfl rfl rfl rfl ?_ | refine W.ld rfl rfl rfl rfl rfl ?_))
  refine W.call (idx_str f p a vs.length cap vs rfl hn hc hf) rfl rfl rfl rfl Tryz.call212 ⟨rfl, rfl, trivial⟩ ?_
  rintro _ _ ⟨rfl, rfl⟩
  refine W.cmp rfl rfl rfl rfl ?_
  (repeat (first | refine W.ctl rfl ?_ | refine W.op rfl rfl rfl rfl ?_ | refine W.skip rfl rfl ?_ | refine W.fld rfl rfl rfl rfl rfl ?_ | refine W.ld rfl rfl rfl rfl rfl ?_))
  refine W.ret1 (.inr rfl) rfl rfl _ ⟨?_, rfl⟩ Imp.all
  cases e : vs.findIdx? p with
  | none =>
    have h : vs.any p = false := by
      rw [List.findIdx?_eq_none_iff] at e
      simpa using e
    rw [h]; rfl
  | some i =>
    have h : vs.any p = true := by
      rw [List.findIdx?_eq_some_iff_getElem] at e
      obtain ⟨h1, h2, _⟩ := e
      exact List.any_eq_true.2 ⟨_, List.getElem_mem h1, h2⟩
    rw [h]
    simp
theorem idx_int (f : FuncId) (p : Value → Bool) (a : Option Nat) (n cap : Nat) (vs : List Value) (hvl : vs.length = n) (hn : n < 9223372036854775808) (hc : ∀ (args : Array Value) (w : World), (callFunc f args).run Pg w = .ok (.enter f args) w)
    (hf : ∀ v ∈ vs, CS f [v] emp fun r H' => r = .bool (p v) ∧ H' = emp) : CS 213 [sv a n cap, .func (.func f) #[] #[]] (slck 1 3 (sv a n cap) n vs)
      fun v H' => v = int (match vs.findIdx? p with | some i => (i : Int) | none => -1) ∧ H' = slck 1 3 (sv a n cap) n vs := by
  subst hvl
  refine CS.walk Tryz.func213 rfl Tryz.ntmps213 rfl fun c R => ?_
  (repeat (first | refine W.ctl rfl ?_ | refine W.op rfl rfl rfl rfl ?_ | refine W.skip rfl rfl ?_ | refine W.fld rfl rfl rfl rfl rfl ?_ | refine W.ld rfl rfl rfl rfl rfl ?_))
  refine W.len rfl rfl rfl rfl rfl ?_
  (repeat (first | refine W.ctl rfl ?_ | refine W.op rfl rfl rfl rfl ?_ | refine W.skip rfl rfl ?_ | refine W.fld rfl rfl rfl rfl rfl ?_ | refine W.ld rfl rfl rfl rfl rfl ?_))
  refine W.loop (σ := Nat) (fun i => i ≤ vs.length ∧ ∀ j, j < i → ∀ v, vs[j]? = some v → p v = false) (fun i => [(0, sv a vs.length cap), (1, .func (.func f) #[] #[]), (7, int vs.length), (8, int i)]) (fun _ => slck 1 3 (sv a vs.length cap) vs.length vs • R) (fun i => vs.length - i) 0 ⟨by omega, fun j hj => absurd hj (by omega)⟩ ⟨rfl, rfl, rfl, rfl, trivial⟩ Imp.all ?_
  rintro i ⟨hi, hp⟩
  (repeat (first | refine W.ctl rfl ?_ | refine W.op rfl rfl rfl rfl ?_ | refine W.skip rfl rfl ?_ | refine W.fld rfl rfl rfl rfl rfl ?_ | refine W.ld rfl rfl rfl rfl rfl ?_))
  by_cases h1 : (i : Int) < vs.length
  · refine W.yes rfl rfl rfl rfl h1 ?_
    (repeat (first | refine W.ctl rfl ?_ | refine W.op rfl rfl rfl rfl ?_ | refine W.skip rfl rfl ?_ | refine W.fld rfl rfl rfl rfl rfl ?_ | refine W.ld rfl rfl rfl rfl rfl ?_))
    have h1' : i < vs.length := by omega
    refine W.idxk rfl rfl rfl rfl rfl rfl (by omega) (by omega) ?_
    refine W.ldk (v := vs[i]) rfl rfl rfl rfl rfl (by simp [h1']) ?_
    refine W.callv (caps := []) (vs := [vs[i]]) (hf vs[i] (List.getElem_mem _)) rfl rfl rfl rfl rfl hc ⟨rfl, trivial⟩ ?_
    rintro _ _ ⟨rfl, rfl⟩
    cases hq : p vs[i] with
    | true =>
      (repeat (first | refine W.ctl rfl ?_ | refine W.op rfl rfl rfl rfl ?_ | refine W.skip rfl rfl ?_ | refine W.fld rfl rfl rfl rfl rfl ?_ | refine W.ld rfl rfl rfl rfl rfl ?_))
      have e : vs.findIdx? p = some i := by
        rw [List.findIdx?_eq_some_iff_getElem]
        refine ⟨h1', hq, fun j hj => ?_⟩
        have := hp j hj vs[j] (by simp)
        simp [this]
      rw [e]
      exact W.ret1 (.inr rfl) rfl rfl _ ⟨rfl, rfl⟩ Imp.all
    | false =>
      (repeat (first | refine W.ctl rfl ?_ | refine W.op rfl rfl rfl rfl ?_ | refine W.skip rfl rfl ?_ | refine W.fld rfl rfl rfl rfl rfl ?_ | refine W.ld rfl rfl rfl rfl rfl ?_))
      refine W.ar (r := ((i + 1 : Nat) : Int)) rfl rfl rfl rfl rfl rfl rfl (wrap_i64 (by omega) (by omega)) ?_
      (repeat (first | refine W.ctl rfl ?_ | refine W.op rfl rfl rfl rfl ?_ | refine W.skip rfl rfl ?_ | refine W.fld rfl rfl rfl rfl rfl ?_ | refine W.ld rfl rfl rfl rfl rfl ?_))
      refine W.again (i + 1) ⟨by omega, fun j hj v hv => ?_⟩ (by omega) ⟨rfl, rfl, rfl, rfl, trivial⟩ Imp.all
      by_cases hji : j = i
      · subst hji
        rw [List.getElem?_eq_getElem h1'] at hv
        cases hv; exact hq
      · exact hp j (by omega) v hv
  · refine W.no rfl rfl rfl rfl h1 ?_
    (repeat (first | refine W.ctl rfl ?_ | refine W.op rfl rfl rfl rfl ?_ | refine W.skip rfl rfl ?_ | refine W.fld rfl rfl rfl rfl rfl ?_ | refine W.ld rfl rfl rfl rfl rfl ?_))
    have e : vs.findIdx? p = none := by
      rw [List.findIdx?_eq_none_iff]
      intro v hv
      obtain ⟨j, hj, rfl⟩ := List.getElem_of_mem hv
      exact hp j (by omega) _ (by simp)
    rw [e]
    exact W.ret1 (.inr rfl) rfl rfl _ ⟨rfl, rfl⟩ Imp.all
theorem has_int (f : FuncId) (p : Value → Bool) (a : Option Nat) (n cap : Nat) (vs : List Value) (hvl : vs.length = n) (hn : n < 9223372036854775808) (hc : ∀ (args : Array Value) (w : World), (callFunc f args).run Pg w = .ok (.enter f args) w)
    (hf : ∀ v ∈ vs, CS f [v] emp fun r H' => r = .bool (p v) ∧ H' = emp) : CS 205 [sv a n cap, .func (.func f) #[] #[]] (slck 1 3 (sv a n cap) n vs)
      fun v H' => v = .bool (vs.any p) ∧ H' = slck 1 3 (sv a n cap) n vs := by
  subst hvl
  refine CS.walk Tryz.func205 rfl Tryz.ntmps205 rfl fun c R => ?_
  (repeat (first | refine W.ctl rfl ?_ | refine W.op rfl rfl rfl rfl ?_ | refine W.skip rfl rfl ?_ | refine W.fld rfl rfl rfl rfl rfl ?_ | refine W.ld rfl rfl rfl rfl rfl ?_))
  refine W.call (idx_int f p a vs.length cap vs rfl hn hc hf) rfl rfl rfl rfl Tryz.call213 ⟨rfl, rfl, trivial⟩ ?_
  rintro _ _ ⟨rfl, rfl⟩
  refine W.cmp rfl rfl rfl rfl ?_
  (repeat (first | refine W.ctl rfl ?_ | refine W.op rfl rfl rfl rfl ?_ | refine W.skip rfl rfl ?_ | refine W.fld rfl rfl rfl rfl rfl ?_ | refine W.ld rfl rfl rfl rfl rfl ?_))
  refine W.ret1 (.inr rfl) rfl rfl _ ⟨?_, rfl⟩ Imp.all
  cases e : vs.findIdx? p with
  | none =>
    have h : vs.any p = false := by
      rw [List.findIdx?_eq_none_iff] at e
      simpa using e
    rw [h]; rfl
  | some i =>
    have h : vs.any p = true := by
      rw [List.findIdx?_eq_some_iff_getElem] at e
      obtain ⟨h1, h2, _⟩ := e
      exact List.any_eq_true.2 ⟨_, List.getElem_mem h1, h2⟩
    rw [h]
    simp
end Go.Proofs.YtbdhhedfplkidaaGreat
/- Whether a node is right. -/
namespace Go.Proofs.YtbdhhedfplkidaaGreat
open Go
open M (Str)
set_option maxHeartbeats 400000
set_option maxRecDepth 2000
def longV : Value → Bool
  | .string s => decide (40 < s.size)
  | _ => false
def wrongV : Value → Bool
  | .int _ k => decide (k < 2 ∨ 640 ≤ k)
  | _ => false
theorem plain_long (s : Str) (hs : s.length < 9223372036854775808) : CS 202 [str s] emp fun v H' => v = .bool (longV (str s)) ∧ H' = emp := by
  refine CS.walk Tryz.func202 rfl Tryz.ntmps202 rfl fun c R => ?_
  (repeat (first | refine W.ctl rfl ?_ | refine W.op rfl rfl rfl rfl ?_ | refine W.skip rfl rfl ?_ | refine W.fld rfl rfl rfl rfl rfl ?_ | refine W.ld rfl rfl rfl rfl rfl ?_))
  refine W.slen rfl rfl rfl rfl rfl ?_
  refine W.cmp rfl rfl rfl rfl ?_
  (repeat (first | refine W.ctl rfl ?_ | refine W.op rfl rfl rfl rfl ?_ | refine W.skip rfl rfl ?_ | refine W.fld rfl rfl rfl rfl rfl ?_ | refine W.ld rfl rfl rfl rfl rfl ?_))
  refine W.ret1 (.inr rfl) rfl rfl _ ⟨?_, rfl⟩ Imp.all
  simp only [longV, str]
  congr 1
  simp [ByteArray.size]; omega
theorem plain_wrong (k : Int) : CS 203 [int k] emp fun v H' => v = .bool (wrongV (int k)) ∧ H' = emp := by
  refine CS.walk Tryz.func203 rfl Tryz.ntmps203 rfl fun c R => ?_
  (repeat (first | refine W.ctl rfl ?_ | refine W.op rfl rfl rfl rfl ?_ | refine W.skip rfl rfl ?_ | refine W.fld rfl rfl rfl rfl rfl ?_ | refine W.ld rfl rfl rfl rfl rfl ?_))
  by_cases h : k < 2
  · refine W.yes rfl rfl rfl rfl h ?_
    (repeat (first | refine W.ctl rfl ?_ | refine W.op rfl rfl rfl rfl ?_ | refine W.skip rfl rfl ?_ | refine W.fld rfl rfl rfl rfl rfl ?_ | refine W.ld rfl rfl rfl rfl rfl ?_))
    refine W.ret1 (.inr rfl) rfl rfl _ ⟨?_, rfl⟩ Imp.all
    simp [wrongV, h]
  · refine W.no rfl rfl rfl rfl h ?_
    (repeat (first | refine W.ctl rfl ?_ | refine W.op rfl rfl rfl rfl ?_ | refine W.skip rfl rfl ?_ | refine W.fld rfl rfl rfl rfl rfl ?_ | refine W.ld rfl rfl rfl rfl rfl ?_))
    refine W.cmp rfl rfl rfl rfl ?_
    (repeat (first | refine W.ctl rfl ?_ | refine W.op rfl rfl rfl rfl ?_ | refine W.skip rfl rfl ?_ | refine W.fld rfl rfl rfl rfl rfl ?_ | refine W.ld rfl rfl rfl rfl rfl ?_))
    refine W.ret1 (.inr rfl) rfl rfl _ ⟨?_, rfl⟩ Imp.all
    simp [wrongV, h]
theorem any_long (l : List Str) : (l.map str).any longV = !l.all fun v => decide (v.length ≤ 40) := by
  induction l with
  | nil => rfl
  | cons s l ih =>
    simp only [List.map_cons, List.any_cons, ih, List.all_cons, Bool.not_and]
    congr 1
    simp only [longV, str]
    by_cases h : s.length ≤ 40
    · simp [ByteArray.size, h]
    · simp [ByteArray.size, h]; try omega
theorem any_wrong (l : List Int) : (l.map int).any wrongV = !l.all fun k => decide (2 ≤ k ∧ k < 640) := by
  induction l with
  | nil => rfl
  | cons s l ih =>
    simp only [List.map_cons, List.any_cons, ih, List.all_cons, Bool.not_and]
    congr 1
    simp only [wrongV]
    by_cases h : 2 ≤ s ∧ s < 640
    · simp [h]
    · simp only [h, decide_false, Bool.not_false, decide_eq_true_eq]; omega
/-- Up to here they rise. -/
def risesTo (ks : List Nat) (i : Nat) : Prop := ∀ j a b, j + 1 < i → ks[j]? = some a → ks[j + 1]? = some b → a < b
theorem rising_iff : ∀ ks : List Nat, M.rising ks = true ↔ risesTo ks ks.length
  | [] => by simp [M.rising, risesTo]
  | [a] => by
    simp only [M.rising, risesTo, List.length_singleton, true_iff]
    intro j a b h; omega
  | a :: b :: l => by
    simp only [M.rising, Bool.and_eq_true, decide_eq_true_eq, rising_iff (b :: l)]
    constructor
    · rintro ⟨h, k⟩ j x y hj hx hy
      cases j with
      | zero => simp at hx hy; omega
      | succ j => exact k j x y (by simp at hj ⊢; omega) (by simpa using hx) (by simpa using hy)
    · intro h
      exact ⟨h 0 a b (by simp) rfl rfl, fun j x y hj hx hy => h (j + 1) x y (by simp at hj ⊢; omega) (by simpa using hx) (by simpa using hy)⟩
theorem node_plain (N : M.Node) (x : NP) (hN : NB N) : CS 184 [nodeV N x] (NodeH N x) fun v H' => v = .bool (M.plain N) ∧ H' = NodeH N x := by
  have hk := hN.keys
  have hv := hN.vals
  have hd := hN.kids
  obtain ⟨vn, hvn⟩ : ∃ vn, (if N.leaf then N.keys.length else 0) = vn := ⟨_, rfl⟩
  obtain ⟨dn, hdn⟩ : ∃ dn, (if N.leaf then 0 else N.keys.length + 1) = dn := ⟨_, rfl⟩
  have hpl : M.plain N = (N.vals.length == vn && N.kids.length == dn && M.rising N.keys && N.vals.all (fun v => decide (v.length ≤ 40)) && N.kids.all (fun k => decide (2 ≤ k ∧ k < 640))) := by rw [M.plain, hvn, hdn]
  refine CS.walk Tryz.func184 rfl Tryz.ntmps184 rfl fun c R => ?_
  simp only [NodeH, NodeB, sep_assoc', emp_sep]
  (repeat (first | refine W.ctl rfl ?_ | refine W.op rfl rfl rfl rfl ?_ | refine W.skip rfl rfl ?_ | refine W.fld rfl rfl rfl rfl rfl ?_ | refine W.ld rfl rfl rfl rfl rfl ?_))
  refine W.box rfl rfl rfl rfl rfl fun b => ?_
  (repeat (first | refine W.ctl rfl ?_ | refine W.op rfl rfl rfl rfl ?_ | refine W.skip rfl rfl ?_ | refine W.fld rfl rfl rfl rfl rfl ?_ | refine W.ld rfl rfl rfl rfl rfl ?_))
  refine W.len rfl rfl rfl rfl rfl ?_
  (repeat (first | refine W.ctl rfl ?_ | refine W.op rfl rfl rfl rfl ?_ | refine W.skip rfl rfl ?_ | refine W.fld rfl rfl rfl rfl rfl ?_ | refine W.ld rfl rfl rfl rfl rfl ?_))
  refine W.join (σ := Unit) (fun _ => True) (fun _ => [(1, .pointer (some ⟨b, 0, none⟩)), (3, int vn), (4, int dn)]) (fun _ => row b 114 [Value.bool N.leaf, sv x.ka N.keys.length x.kc, sv x.va N.vals.length x.vc, sv x.da N.kids.length x.dc] • NodeB N x R) ?_ fun _ _ => ?_
  · cases hl : N.leaf with
    | true =>
      simp only [hl, if_true] at hvn hdn
      (repeat (first | refine W.ctl rfl ?_ | refine W.op rfl rfl rfl rfl ?_ | refine W.skip rfl rfl ?_ | refine W.fld rfl rfl rfl rfl rfl ?_ | refine W.ld rfl rfl rfl rfl rfl ?_))
      exact W.meet () trivial ⟨rfl, by rw [← hvn]; rfl, by rw [← hdn]; rfl, trivial⟩ Imp.all
    | false =>
      simp only [hl, Bool.false_eq_true, if_false] at hvn hdn
      (repeat (first | refine W.ctl rfl ?_ | refine W.op rfl rfl rfl rfl ?_ | refine W.skip rfl rfl ?_ | refine W.fld rfl rfl rfl rfl rfl ?_ | refine W.ld rfl rfl rfl rfl rfl ?_))
      refine W.draw (by kernel_rfl) (by kernel_rfl) ?_
      (repeat (first | refine W.ctl rfl ?_ | refine W.op rfl rfl rfl rfl ?_ | refine W.skip rfl rfl ?_ | refine W.fld rfl rfl rfl rfl rfl ?_ | refine W.ld rfl rfl rfl rfl rfl ?_))
      refine W.len rfl rfl rfl rfl rfl ?_
      refine W.ar (r := (N.keys.length : Int) + 1) rfl rfl rfl rfl rfl rfl rfl (wrap_i64 (by omega) (by omega)) ?_
      (repeat (first | refine W.ctl rfl ?_ | refine W.op rfl rfl rfl rfl ?_ | refine W.skip rfl rfl ?_ | refine W.fld rfl rfl rfl rfl rfl ?_ | refine W.ld rfl rfl rfl rfl rfl ?_))
      exact W.meet () trivial ⟨rfl, by rw [← hvn]; rfl, by rw [← hdn]; rfl, trivial⟩ Imp.all
  have hvn' : vn ≤ 4096 := by rw [← hvn]; split <;> omega
  have hdn' : dn ≤ 4097 := by rw [← hdn]; split <;> omega
  (repeat (first | refine W.ctl rfl ?_ | refine W.op rfl rfl rfl rfl ?_ | refine W.skip rfl rfl ?_ | refine W.fld rfl rfl rfl rfl rfl ?_ | refine W.ld rfl rfl rfl rfl rfl ?_))
  refine W.len rfl rfl rfl rfl rfl ?_
  (repeat (first | refine W.ctl rfl ?_ | refine W.op rfl rfl rfl rfl ?_ | refine W.skip rfl rfl ?_ | refine W.fld rfl rfl rfl rfl rfl ?_ | refine W.ld rfl rfl rfl rfl rfl ?_))
  by_cases h1 : (N.vals.length : Int) ≠ vn
  · refine W.yes rfl rfl rfl rfl h1 ?_
    (repeat (first | refine W.ctl rfl ?_ | refine W.op rfl rfl rfl rfl ?_ | refine W.skip rfl rfl ?_ | refine W.fld rfl rfl rfl rfl rfl ?_ | refine W.ld rfl rfl rfl rfl rfl ?_))
    refine W.ret1 (.inr rfl) rfl rfl _ ⟨?_, rfl⟩ Imp.all
    rw [hpl, show (N.vals.length == vn) = false by simp; omega]; simp
  refine W.no rfl rfl rfl rfl h1 ?_
  (repeat (first | refine W.ctl rfl ?_ | refine W.op rfl rfl rfl rfl ?_ | refine W.skip rfl rfl ?_ | refine W.fld rfl rfl rfl rfl rfl ?_ | refine W.ld rfl rfl rfl rfl rfl ?_))
  refine W.len rfl rfl rfl rfl rfl ?_
  (repeat (first | refine W.ctl rfl ?_ | refine W.op rfl rfl rfl rfl ?_ | refine W.skip rfl rfl ?_ | refine W.fld rfl rfl rfl rfl rfl ?_ | refine W.ld rfl rfl rfl rfl rfl ?_))
  by_cases h2 : (N.kids.length : Int) ≠ dn
  · refine W.yes rfl rfl rfl rfl h2 ?_
    (repeat (first | refine W.ctl rfl ?_ | refine W.op rfl rfl rfl rfl ?_ | refine W.skip rfl rfl ?_ | refine W.fld rfl rfl rfl rfl rfl ?_ | refine W.ld rfl rfl rfl rfl rfl ?_))
    refine W.ret1 (.inr rfl) rfl rfl _ ⟨?_, rfl⟩ Imp.all
    rw [hpl, show (N.kids.length == dn) = false by simp; omega]; simp
  refine W.no rfl rfl rfl rfl h2 ?_
  have e1 : (N.vals.length == vn) = true := by simp; omega
  have e2 : (N.kids.length == dn) = true := by simp; omega
  rw [e1, e2] at hpl
  (repeat (first | refine W.ctl rfl ?_ | refine W.op rfl rfl rfl rfl ?_ | refine W.skip rfl rfl ?_ | refine W.fld rfl rfl rfl rfl rfl ?_ | refine W.ld rfl rfl rfl rfl rfl ?_))
  refine W.len rfl rfl rfl rfl rfl ?_
  (repeat (first | refine W.ctl rfl ?_ | refine W.op rfl rfl rfl rfl ?_ | refine W.skip rfl rfl ?_ | refine W.fld rfl rfl rfl rfl rfl ?_ | refine W.ld rfl rfl rfl rfl rfl ?_))
  refine W.loop (σ := Nat) (fun i => i ≤ N.keys.length ∧ risesTo N.keys i) (fun i => [(1, .pointer (some ⟨b, 0, none⟩)), (32, int N.keys.length), (33, int i)]) (fun _ => row b 114 [Value.bool N.leaf, sv x.ka N.keys.length x.kc, sv x.va N.vals.length x.vc, sv x.da N.kids.length x.dc] • NodeB N x R) (fun i => N.keys.length - i) 0 ⟨by omega, fun j a b h => absurd h (by omega)⟩ ⟨rfl, rfl, rfl, trivial⟩ Imp.all ?_
  rintro i ⟨hi, hr⟩
  (repeat (first | refine W.ctl rfl ?_ | refine W.op rfl rfl rfl rfl ?_ | refine W.skip rfl rfl ?_ | refine W.fld rfl rfl rfl rfl rfl ?_ | refine W.ld rfl rfl rfl rfl rfl ?_))
  by_cases h3 : (i : Int) < N.keys.length
  · refine W.yes rfl rfl rfl rfl h3 ?_
    have h3' : i < N.keys.length := by omega
    (repeat (first | refine W.ctl rfl ?_ | refine W.op rfl rfl rfl rfl ?_ | refine W.skip rfl rfl ?_ | refine W.fld rfl rfl rfl rfl rfl ?_ | refine W.ld rfl rfl rfl rfl rfl ?_))
    refine W.draw (by kernel_rfl) (by kernel_rfl) ?_
    (repeat (first | refine W.ctl rfl ?_ | refine W.op rfl rfl rfl rfl ?_ | refine W.skip rfl rfl ?_ | refine W.fld rfl rfl rfl rfl rfl ?_ | refine W.ld rfl rfl rfl rfl rfl ?_))
    by_cases h4 : (0 : Int) < i
    · refine W.yes rfl rfl rfl rfl h4 ?_
      obtain ⟨m, rfl⟩ : ∃ m, i = m + 1 := ⟨i - 1, by omega⟩
      (repeat (first | refine W.ctl rfl ?_ | refine W.op rfl rfl rfl rfl ?_ | refine W.skip rfl rfl ?_ | refine W.fld rfl rfl rfl rfl rfl ?_ | refine W.ld rfl rfl rfl rfl rfl ?_))
      refine W.ar (r := (m : Int)) rfl rfl rfl rfl rfl rfl (congrArg some (by omega)) (wrap_i64 (by omega) (by omega)) ?_
      (repeat (first | refine W.ctl rfl ?_ | refine W.op rfl rfl rfl rfl ?_ | refine W.skip rfl rfl ?_))
      refine W.idxk rfl rfl rfl rfl rfl rfl (by omega) (by omega) ?_
      (repeat (first | refine W.ctl rfl ?_ | refine W.op rfl rfl rfl rfl ?_ | refine W.skip rfl rfl ?_))
      refine W.ldk (v := u64 (N.keys[m]'(by omega))) rfl rfl rfl rfl rfl (by simp [show m < N.keys.length by omega]) ?_
      (repeat (first | refine W.ctl rfl ?_ | refine W.op rfl rfl rfl rfl ?_ | refine W.skip rfl rfl ?_ | refine W.fld rfl rfl rfl rfl rfl ?_ | refine W.ld rfl rfl rfl rfl rfl ?_))
      refine W.idxk rfl rfl rfl rfl rfl rfl (by omega) (by omega) ?_
      (repeat (first | refine W.ctl rfl ?_ | refine W.op rfl rfl rfl rfl ?_ | refine W.skip rfl rfl ?_))
      refine W.ldk (v := u64 (N.keys[m + 1])) rfl rfl rfl rfl rfl (by simp [h3']) ?_
      (repeat (first | refine W.ctl rfl ?_ | refine W.op rfl rfl rfl rfl ?_ | refine W.skip rfl rfl ?_))
      by_cases h5 : ((N.keys[m + 1] : Nat) : Int) ≤ ((N.keys[m]'(by omega) : Nat) : Int)
      · refine W.yes rfl rfl rfl rfl h5 ?_
        (repeat (first | refine W.ctl rfl ?_ | refine W.op rfl rfl rfl rfl ?_ | refine W.skip rfl rfl ?_ | refine W.fld rfl rfl rfl rfl rfl ?_ | refine W.ld rfl rfl rfl rfl rfl ?_))
        refine W.ret1 (.inr rfl) rfl rfl _ ⟨?_, rfl⟩ Imp.all
        have : M.rising N.keys = false := by
          cases hh : M.rising N.keys with
          | false => rfl
          | true =>
            have := (rising_iff _).1 hh m _ _ (by omega) (List.getElem?_eq_getElem (by omega)) (List.getElem?_eq_getElem h3')
            omega
        rw [hpl, this]; simp
      · refine W.no rfl rfl rfl rfl h5 ?_
        (repeat (first | refine W.ctl rfl ?_ | refine W.op rfl rfl rfl rfl ?_ | refine W.skip rfl rfl ?_ | refine W.fld rfl rfl rfl rfl rfl ?_ | refine W.ld rfl rfl rfl rfl rfl ?_))
        refine W.ar (r := ((m + 1 + 1 : Nat) : Int)) rfl rfl rfl rfl rfl rfl rfl (wrap_i64 (by omega) (by omega)) ?_
        (repeat (first | refine W.ctl rfl ?_ | refine W.op rfl rfl rfl rfl ?_ | refine W.skip rfl rfl ?_ | refine W.fld rfl rfl rfl rfl rfl ?_ | refine W.ld rfl rfl rfl rfl rfl ?_))
        refine W.again (m + 1 + 1) ⟨by omega, fun j a b hj ha hb => ?_⟩ (by omega) ⟨rfl, rfl, rfl, trivial⟩ Imp.all
        by_cases hjm : j = m
        · subst hjm
          rw [List.getElem?_eq_getElem (by omega)] at ha hb
          cases ha; cases hb; omega
        · exact hr j a b (by omega) ha hb
    · refine W.no rfl rfl rfl rfl h4 ?_
      have : i = 0 := by omega
      subst this
      (repeat (first | refine W.ctl rfl ?_ | refine W.op rfl rfl rfl rfl ?_ | refine W.skip rfl rfl ?_ | refine W.fld rfl rfl rfl rfl rfl ?_ | refine W.ld rfl rfl rfl rfl rfl ?_))
      refine W.ar (r := ((0 + 1 : Nat) : Int)) rfl rfl rfl rfl rfl rfl rfl (wrap_i64 (by omega) (by omega)) ?_
      (repeat (first | refine W.ctl rfl ?_ | refine W.op rfl rfl rfl rfl ?_ | refine W.skip rfl rfl ?_ | refine W.fld rfl rfl rfl rfl rfl ?_ | refine W.ld rfl rfl rfl rfl rfl ?_))
      exact W.again (0 + 1) ⟨by omega, fun j a b hj => absurd hj (by omega)⟩ (by omega) ⟨rfl, rfl, rfl, trivial⟩ Imp.all
  refine W.no rfl rfl rfl rfl h3 ?_
  have hin : i = N.keys.length := by omega
  subst hin
  rw [(rising_iff _).2 hr] at hpl
  (repeat (first | refine W.ctl rfl ?_ | refine W.op rfl rfl rfl rfl ?_ | refine W.skip rfl rfl ?_ | refine W.fld rfl rfl rfl rfl rfl ?_ | refine W.ld rfl rfl rfl rfl rfl ?_))
  have hlong : ∀ v ∈ N.vals.map str, CS 202 [v] emp fun r H' => r = .bool (longV v) ∧ H' = emp := by
    intro v hv
    obtain ⟨s, hs, rfl⟩ := List.mem_map.1 hv
    exact plain_long s (by have := hN.val s hs; omega)
  have hwrong : ∀ v ∈ N.kids.map int, CS 203 [v] emp fun r H' => r = .bool (wrongV v) ∧ H' = emp := by
    intro v hv
    obtain ⟨s, hs, rfl⟩ := List.mem_map.1 hv
    exact plain_wrong s
  refine W.call (has_str 202 longV x.va N.vals.length x.vc (N.vals.map str) (by simp) (by omega) Tryz.call202 hlong) rfl rfl rfl rfl Tryz.call204 ⟨rfl, rfl, trivial⟩ ?_
  rintro _ _ ⟨rfl, rfl⟩
  rw [any_long]
  cases hq : N.vals.all (fun v => decide (v.length ≤ 40)) with
  | false =>
    (repeat (first | refine W.ctl rfl ?_ | refine W.op rfl rfl rfl rfl ?_ | refine W.skip rfl rfl ?_ | refine W.fld rfl rfl rfl rfl rfl ?_ | refine W.ld rfl rfl rfl rfl rfl ?_))
    refine W.ret1 (.inr rfl) rfl rfl _ ⟨?_, rfl⟩ Imp.all
    rw [hpl, hq]; simp
  | true =>
    (repeat (first | refine W.ctl rfl ?_ | refine W.op rfl rfl rfl rfl ?_ | refine W.skip rfl rfl ?_ | refine W.fld rfl rfl rfl rfl rfl ?_ | refine W.ld rfl rfl rfl rfl rfl ?_))
    refine W.call (has_int 203 wrongV x.da N.kids.length x.dc (N.kids.map int) (by simp) (by omega) Tryz.call203 hwrong) rfl rfl rfl rfl Tryz.call205 ⟨rfl, rfl, trivial⟩ ?_
    rintro _ _ ⟨rfl, rfl⟩
    rw [any_wrong]
    (repeat (first | refine W.ctl rfl ?_ | refine W.op rfl rfl rfl rfl ?_ | refine W.skip rfl rfl ?_ | refine W.fld rfl rfl rfl rfl rfl ?_ | refine W.ld rfl rfl rfl rfl rfl ?_))
    refine W.ret1 (.inr rfl) rfl rfl _ ⟨?_, rfl⟩ Imp.all
    rw [hpl, hq]; simp
theorem node_Right (N : M.Node) (x : NP) (hN : NB N) : CS 156 [nodeV N x] (NodeH N x) fun v H' => v = .bool (M.right N) ∧ H' = NodeH N x := by
  have hk := hN.keys
  refine CS.walk Tryz.func156 rfl Tryz.ntmps156 rfl fun c R => ?_
  simp only [NodeH, NodeB, sep_assoc', emp_sep]
  (repeat (first | refine W.ctl rfl ?_ | refine W.op rfl rfl rfl rfl ?_ | refine W.skip rfl rfl ?_ | refine W.fld rfl rfl rfl rfl rfl ?_ | refine W.ld rfl rfl rfl rfl rfl ?_))
  refine W.box rfl rfl rfl rfl rfl fun b => ?_
  (repeat (first | refine W.ctl rfl ?_ | refine W.op rfl rfl rfl rfl ?_ | refine W.skip rfl rfl ?_ | refine W.fld rfl rfl rfl rfl rfl ?_ | refine W.ld rfl rfl rfl rfl rfl ?_))
  refine W.lds rfl rfl rfl rfl rfl ?_
  refine W.call (node_plain N x hN) rfl rfl rfl rfl Tryz.call184 ⟨rfl, trivial⟩ ?_
  rintro _ _ ⟨rfl, rfl⟩
  cases hp : M.plain N with
  | false =>
    (repeat (first | refine W.ctl rfl ?_ | refine W.op rfl rfl rfl rfl ?_ | refine W.skip rfl rfl ?_ | refine W.fld rfl rfl rfl rfl rfl ?_ | refine W.ld rfl rfl rfl rfl rfl ?_))
    refine W.ret1 (.inr rfl) rfl rfl _ ⟨?_, rfl⟩ Imp.all
    simp [M.right, hp]
  | true =>
    (repeat (first | refine W.ctl rfl ?_ | refine W.op rfl rfl rfl rfl ?_ | refine W.skip rfl rfl ?_ | refine W.fld rfl rfl rfl rfl rfl ?_ | refine W.ld rfl rfl rfl rfl rfl ?_))
    cases hl : N.leaf with
    | false =>
      (repeat (first | refine W.ctl rfl ?_ | refine W.op rfl rfl rfl rfl ?_ | refine W.skip rfl rfl ?_ | refine W.fld rfl rfl rfl rfl rfl ?_ | refine W.ld rfl rfl rfl rfl rfl ?_))
      refine W.lds rfl rfl rfl rfl rfl ?_
      (repeat (first | refine W.ctl rfl ?_ | refine W.op rfl rfl rfl rfl ?_ | refine W.skip rfl rfl ?_))
      refine W.call (node_Size N x hN) rfl rfl rfl rfl Tryz.call64 ⟨by rw [nodeV, hl]; rfl, trivial⟩ ?_
      rintro _ _ ⟨rfl, rfl⟩
      (repeat (first | refine W.ctl rfl ?_ | refine W.op rfl rfl rfl rfl ?_ | refine W.skip rfl rfl ?_))
      refine W.cmp rfl rfl rfl rfl ?_
      (repeat (first | refine W.ctl rfl ?_ | refine W.op rfl rfl rfl rfl ?_ | refine W.skip rfl rfl ?_ | refine W.fld rfl rfl rfl rfl rfl ?_ | refine W.ld rfl rfl rfl rfl rfl ?_))
      refine W.ret1 (.inr rfl) rfl rfl _ ⟨?_, rfl⟩ Imp.all
      simp only [M.right, hp, hl]
      congr 1; simp; omega
    | true =>
      (repeat (first | refine W.ctl rfl ?_ | refine W.op rfl rfl rfl rfl ?_ | refine W.skip rfl rfl ?_ | refine W.fld rfl rfl rfl rfl rfl ?_ | refine W.ld rfl rfl rfl rfl rfl ?_))
      refine W.len rfl rfl rfl rfl rfl ?_
      (repeat (first | refine W.ctl rfl ?_ | refine W.op rfl rfl rfl rfl ?_ | refine W.skip rfl rfl ?_))
      by_cases h0 : (0 : Int) < N.keys.length
      · refine W.yes rfl rfl rfl rfl h0 ?_
        (repeat (first | refine W.ctl rfl ?_ | refine W.op rfl rfl rfl rfl ?_ | refine W.skip rfl rfl ?_ | refine W.fld rfl rfl rfl rfl rfl ?_ | refine W.ld rfl rfl rfl rfl rfl ?_))
        refine W.lds rfl rfl rfl rfl rfl ?_
        (repeat (first | refine W.ctl rfl ?_ | refine W.op rfl rfl rfl rfl ?_ | refine W.skip rfl rfl ?_))
        refine W.call (node_Size N x hN) rfl rfl rfl rfl Tryz.call64 ⟨by rw [nodeV, hl]; rfl, trivial⟩ ?_
        rintro _ _ ⟨rfl, rfl⟩
        (repeat (first | refine W.ctl rfl ?_ | refine W.op rfl rfl rfl rfl ?_ | refine W.skip rfl rfl ?_))
        refine W.cmp rfl rfl rfl rfl ?_
        (repeat (first | refine W.ctl rfl ?_ | refine W.op rfl rfl rfl rfl ?_ | refine W.skip rfl rfl ?_ | refine W.fld rfl rfl rfl rfl rfl ?_ | refine W.ld rfl rfl rfl rfl rfl ?_))
        refine W.ret1 (.inr rfl) rfl rfl _ ⟨?_, rfl⟩ Imp.all
        have h0' : 0 < N.keys.length := by omega
        simp only [M.right, hp, hl, h0']
        congr 1; simp; omega
      · refine W.no rfl rfl rfl rfl h0 ?_
        (repeat (first | refine W.ctl rfl ?_ | refine W.op rfl rfl rfl rfl ?_ | refine W.skip rfl rfl ?_ | refine W.fld rfl rfl rfl rfl rfl ?_ | refine W.ld rfl rfl rfl rfl rfl ?_))
        refine W.ret1 (.inr rfl) rfl rfl _ ⟨?_, rfl⟩ Imp.all
        have h0' : ¬ 0 < N.keys.length := by omega
        simp [M.right, hp, hl, h0']
end Go.Proofs.YtbdhhedfplkidaaGreat
/- The plain model, second part: what the functions of layer node compute. -/
namespace Go.Proofs.YtbdhhedfplkidaaGreat.M
/-! node: a text read -/
structure Dec where
  keys : List Nat
  vals : List Str
  kids : List Int
  b : Str
  bad : Bool
def Dec.key (s : Dec) : Dec := { s with keys := s.keys ++ [(take s.b 8).1], b := (take s.b 8).2.1, bad := s.bad || decide ((take s.b 8).2.2 ≠ 0) }
def Dec.val (s : Dec) : Dec := { s with vals := s.vals ++ [(takeText s.b).1], b := (takeText s.b).2.1, bad := s.bad || decide ((takeText s.b).2.2 ≠ 0) }
def Dec.kid (s : Dec) : Dec := { s with kids := s.kids ++ [((take s.b 2).1 : Int)], b := (take s.b 2).2.1, bad := s.bad || decide ((take s.b 2).2.2 ≠ 0) }
def dstep (leaf : Bool) (s : Dec) : Dec := if leaf then s.key.val else s.key.kid
def dloop (leaf : Bool) : Nat → Dec → Dec
  | 0, s => s
  | k + 1, s => if s.b ≠ [] ∧ s.bad = false then dloop leaf k (dstep leaf s) else s
def decode (s : Str) : Node × Int :=
  let t := take s 1
  let leaf := decide (t.1 = 1)
  let s0 : Dec := ⟨[], [], [], t.2.1, decide (t.2.2 ≠ 0)⟩
  if s0.bad = true ∨ (t.1 ≠ 1 ∧ t.1 ≠ 2) then (Node.zero, 2) else
  let d := dloop leaf s.length (if leaf then s0 else s0.kid)
  let n : Node := ⟨leaf, d.keys, d.vals, d.kids⟩
  if d.bad = true ∨ right n = false then (Node.zero, 2) else (n, 0)
theorem take_len (b : Str) (n : Int) : (take b n).2.1.length ≤ b.length := by
  unfold take
  split
  · simp
  split
  · simp
  · simp
theorem take_lt {b : Str} {n : Int} (h : b ≠ []) (hn : 1 ≤ n) : (take b n).2.1.length < b.length := by
  have := List.length_pos_iff.2 h
  unfold take
  split
  · simpa using this
  split
  · simpa using this
  · simp; omega
theorem takeText_len (b : Str) : (takeText b).2.1.length ≤ b.length := by
  unfold takeText
  split
  · simp
  · split
    · simp
    · simp; omega
theorem takeText_fst (b : Str) : (takeText b).1.length ≤ 255 := by
  unfold takeText
  split
  · simp
  · rename_i x l
    split
    · simp
    · have := x.toNat_lt
      simp; omega
/-- What is read is of few parts. -/
structure DecOk (m : Nat) (s : Dec) : Prop where
  keys : s.keys.length + s.b.length ≤ m
  vals : s.vals.length ≤ s.keys.length
  kids : s.kids.length ≤ s.keys.length + 1
  val : ∀ v ∈ s.vals, v.length ≤ 255
theorem dstep_ok {m : Nat} {leaf : Bool} {s : Dec} (h : DecOk m s) (hb : s.b ≠ []) : DecOk m (dstep leaf s) ∧ (dstep leaf s).b.length < s.b.length := by
  have h1 := take_lt hb (show (1 : Int) ≤ 8 by omega)
  have h2 := h.keys
  have h3 := h.vals
  have h4 := h.kids
  cases leaf with
  | true =>
    have h5 := takeText_len (take s.b 8).2.1
    refine ⟨⟨?_, ?_, ?_, ?_⟩, ?_⟩
    · simp [dstep, Dec.key, Dec.val]; omega
    · simp [dstep, Dec.key, Dec.val]; omega
    · simp [dstep, Dec.key, Dec.val]; omega
    · intro v hv
      simp only [dstep, Dec.key, Dec.val, if_true, List.mem_append, List.mem_singleton] at hv
      rcases hv with hv | rfl
      · exact h.val v hv
      · exact takeText_fst _
    · simp [dstep, Dec.key, Dec.val]; omega
  | false =>
    have h5 := take_len (take s.b 8).2.1 2
    refine ⟨⟨?_, ?_, ?_, ?_⟩, ?_⟩
    · simp [dstep, Dec.key, Dec.kid]; omega
    · simp [dstep, Dec.key, Dec.kid]; omega
    · simp [dstep, Dec.key, Dec.kid]; omega
    · intro v hv
      simp only [dstep, Dec.key, Dec.kid, Bool.false_eq_true, if_false] at hv
      exact h.val v hv
    · simp [dstep, Dec.key, Dec.kid]; omega
/-! node: where a key stands -/
def ploop (keys : List Nat) (key : Nat) : Nat → Nat → Nat → Nat
  | 0, lo, _ => lo
  | f + 1, lo, hi => if lo < hi then
      if keys.getD ((lo + hi) / 2) 0 = key then (lo + hi) / 2
      else if keys.getD ((lo + hi) / 2) 0 < key then ploop keys key f ((lo + hi) / 2 + 1) hi
      else ploop keys key f lo ((lo + hi) / 2)
    else lo
def place (keys : List Nat) (key : Nat) : Nat × Bool := (ploop keys key keys.length 0 keys.length, decide (keys[ploop keys key keys.length 0 keys.length]? = some key))
def find (n : Node) (key : Nat) : Nat × Bool :=
  if n.leaf then place n.keys key else (if (place n.keys key).2 then (place n.keys key).1 + 1 else (place n.keys key).1, true)
theorem ploop_le (keys : List Nat) (key : Nat) : ∀ (f lo hi : Nat), lo ≤ hi → ploop keys key f lo hi ≤ hi
  | 0, lo, hi, h => h
  | f + 1, lo, hi, h => by
    unfold ploop
    split
    · split
      · omega
      split
      · exact ploop_le keys key f _ _ (by omega)
      · have := ploop_le keys key f lo ((lo + hi) / 2) (by omega); omega
    · exact h
end Go.Proofs.YtbdhhedfplkidaaGreat.M
/- A node read off its text. -/
namespace Go.Proofs.YtbdhhedfplkidaaGreat
open Go
open M (Str Dec)
set_option maxHeartbeats 400000
set_option maxRecDepth 2000
/-- The node that is being read, and the reader. -/
abbrev DecH (nb rp : Nat) (leaf : Bool) (s : Dec) (x : NP) (R : HProp) : HProp :=
  row nb 114 [.bool leaf, sv x.ka s.keys.length x.kc, sv x.va s.vals.length x.vc, sv x.da s.kids.length x.dc] • slck 1 35 (sv x.ka s.keys.length x.kc) s.keys.length (s.keys.map u64) •
  slck 1 9 (sv x.va s.vals.length x.vc) s.vals.length (s.vals.map str) • slck 1 3 (sv x.da s.kids.length x.dc) s.kids.length (s.kids.map int) • ReaderP rp s.b s.bad • R
theorem take_fst_lt (b : Str) (n : Int) : (M.take b n).1 < 256 ^ n.toNat := by
  unfold M.take
  split
  · exact Nat.pow_pos (by omega)
  split
  · exact Nat.pow_pos (by omega)
  · have h := M.fromBe_lt (b.take n.toNat)
    rw [List.length_take, Nat.min_eq_left (by omega)] at h
    exact h
theorem node_Decode (s : Str) (hs : s.length ≤ 1024) : CS 123 [str s] emp fun v H' => ∃ x : NP, v = .tuple #[nodeV (M.decode s).1 x, int (M.decode s).2] ∧ H' = NodeH (M.decode s).1 x := by
  refine CS.walk Tryz.func123 rfl Tryz.ntmps123 rfl fun c R => ?_
  (repeat (first | refine W.ctl rfl ?_ | refine W.op rfl rfl rfl rfl ?_ | refine W.skip rfl rfl ?_ | refine W.fld rfl rfl rfl rfl rfl ?_ | refine W.ld rfl rfl rfl rfl rfl ?_))
  refine W.alc rfl rfl rfl rfl fun res => ?_
  (repeat (first | refine W.ctl rfl ?_ | refine W.op rfl rfl rfl rfl ?_ | refine W.skip rfl rfl ?_ | refine W.fld rfl rfl rfl rfl rfl ?_ | refine W.ld rfl rfl rfl rfl rfl ?_))
  refine W.bld rfl rfl rfl rfl rfl ?_
  refine W.box rfl rfl rfl rfl rfl fun rp => ?_
  (repeat (first | refine W.ctl rfl ?_ | refine W.op rfl rfl rfl rfl ?_ | refine W.skip rfl rfl ?_ | refine W.fld rfl rfl rfl rfl rfl ?_ | refine W.ld rfl rfl rfl rfl rfl ?_))
  refine W.call (reader_number rp s false 1 (by omega) (by omega) (by omega)) rfl rfl rfl rfl Tryz.call154 ⟨rfl, rfl, trivial⟩ ?_
  rintro _ _ ⟨rfl, rfl⟩
  rw [Bool.false_or]
  (repeat (first | refine W.ctl rfl ?_ | refine W.op rfl rfl rfl rfl ?_ | refine W.skip rfl rfl ?_ | refine W.fld rfl rfl rfl rfl rfl ?_ | refine W.ld rfl rfl rfl rfl rfl ?_))
  refine W.cmp rfl rfl rfl rfl ?_
  have e0 : decide (((M.take s 1).1 : Int) = 1) = decide ((M.take s 1).1 = 1) := by simp; omega
  rw [e0]
  obtain ⟨leaf, hleaf⟩ : ∃ leaf, decide ((M.take s 1).1 = 1) = leaf := ⟨_, rfl⟩
  obtain ⟨bad, hbad⟩ : ∃ bad, decide ((M.take s 1).2.2 ≠ 0) = bad := ⟨_, rfl⟩
  have hdec : M.decode s = if bad = true ∨ ((M.take s 1).1 ≠ 1 ∧ (M.take s 1).1 ≠ 2) then (M.Node.zero, 2) else
      let d := M.dloop leaf s.length (if leaf then ⟨[], [], [], (M.take s 1).2.1, bad⟩ else Dec.kid ⟨[], [], [], (M.take s 1).2.1, bad⟩)
      if d.bad = true ∨ M.right ⟨leaf, d.keys, d.vals, d.kids⟩ = false then (M.Node.zero, 2) else (⟨leaf, d.keys, d.vals, d.kids⟩, 0) := by
    rw [M.decode]; simp only [hleaf, hbad]
  rw [hleaf, hbad]
  refine W.bld rfl rfl rfl rfl rfl ?_
  refine W.alc rfl rfl rfl rfl fun nb => ?_
  refine W.sts rfl rfl rfl rfl rfl rfl ?_
  refine W.ctl rfl ?_
  refine W.ctl rfl ?_
  refine W.ctl rfl ?_
  refine W.ctl rfl ?_
  obtain ⟨err, herr⟩ : ∃ err, (bad || (!leaf && decide ((M.take s 1).1 ≠ 2))) = err := ⟨_, rfl⟩
  have hle : (M.take s 1).1 = 1 ↔ leaf = true := by rw [← hleaf]; simp
  refine W.join (σ := Unit) (fun _ => True) (fun _ => [(2, .pointer (some ⟨res, 0, none⟩)), (4, .pointer (some ⟨rp, 0, none⟩)), (6, .pointer (some ⟨nb, 0, none⟩)), (26, .bool err)])
    (fun _ => row res 114 [.bool false, .slice none 0 0, .slice none 0 0, .slice none 0 0] • DecH nb rp leaf ⟨[], [], [], (M.take s 1).2.1, bad⟩ ⟨none, 0, none, 0, none, 0⟩ R) ?_ fun _ _ => ?_
  · have hH : ∀ R : HProp, Imp (row nb 114 [.bool leaf, .slice none 0 0, .slice none 0 0, .slice none 0 0] • ReaderP rp (M.take s 1).2.1 bad • row res 114 [.bool false, .slice none 0 0, .slice none 0 0, .slice none 0 0] • emp • R)
        (row res 114 [.bool false, .slice none 0 0, .slice none 0 0, .slice none 0 0] • DecH nb rp leaf ⟨[], [], [], (M.take s 1).2.1, bad⟩ ⟨none, 0, none, 0, none, 0⟩ R) := fun R => by
      simp only [DecH, sv, Option.map_none, List.length_nil, List.map_nil, slck_nil, emp_sep]
      exact Imp.all
    cases hb : bad with
    | true =>
      simp only [hb, Bool.true_or] at herr hH ⊢
      (repeat (first | refine W.ctl rfl ?_ | refine W.op rfl rfl rfl rfl ?_ | refine W.skip rfl rfl ?_ | refine W.fld rfl rfl rfl rfl rfl ?_ | refine W.ld rfl rfl rfl rfl rfl ?_))
      subst herr
      exact W.meet () trivial ⟨rfl, rfl, rfl, rfl, trivial⟩ (hH _)
    | false =>
      simp only [hb, Bool.false_or] at herr hH ⊢
      (repeat (first | refine W.ctl rfl ?_ | refine W.op rfl rfl rfl rfl ?_ | refine W.skip rfl rfl ?_ | refine W.fld rfl rfl rfl rfl rfl ?_ | refine W.ld rfl rfl rfl rfl rfl ?_))
      by_cases h1 : ((M.take s 1).1 : Int) ≠ 1
      · have hl : leaf = false := by
          cases leaf with
          | false => rfl
          | true => have := hle.2 rfl; omega
        refine W.yes rfl rfl rfl rfl h1 ?_
        (repeat (first | refine W.ctl rfl ?_ | refine W.op rfl rfl rfl rfl ?_ | refine W.skip rfl rfl ?_ | refine W.fld rfl rfl rfl rfl rfl ?_ | refine W.ld rfl rfl rfl rfl rfl ?_))
        refine W.cmp rfl rfl rfl rfl ?_
        (repeat (first | refine W.ctl rfl ?_ | refine W.op rfl rfl rfl rfl ?_ | refine W.skip rfl rfl ?_ | refine W.fld rfl rfl rfl rfl rfl ?_ | refine W.ld rfl rfl rfl rfl rfl ?_))
        have e1 : decide (((M.take s 1).1 : Int) ≠ 2) = err := by rw [← herr, hl]; simp; omega
        rw [e1]
        exact W.meet () trivial ⟨rfl, rfl, rfl, rfl, trivial⟩ (hH _)
      · have hl : leaf = true := hle.1 (by omega)
        refine W.no rfl rfl rfl rfl h1 ?_
        (repeat (first | refine W.ctl rfl ?_ | refine W.op rfl rfl rfl rfl ?_ | refine W.skip rfl rfl ?_ | refine W.fld rfl rfl rfl rfl rfl ?_ | refine W.ld rfl rfl rfl rfl rfl ?_))
        have e1 : err = false := by rw [← herr, hl]; simp
        subst e1
        exact W.meet () trivial ⟨rfl, rfl, rfl, rfl, trivial⟩ (hH _)
  have herr' : (bad = true ∨ ((M.take s 1).1 ≠ 1 ∧ (M.take s 1).1 ≠ 2)) ↔ err = true := by rw [← herr]; cases hl : leaf <;> simp [hle, hl]
  cases err with
  | true =>
    (repeat (first | refine W.ctl rfl ?_ | refine W.op rfl rfl rfl rfl ?_ | refine W.skip rfl rfl ?_ | refine W.fld rfl rfl rfl rfl rfl ?_ | refine W.ld rfl rfl rfl rfl rfl ?_))
    refine W.bld rfl rfl rfl rfl rfl ?_
    refine W.sts rfl rfl rfl rfl rfl rfl ?_
    (repeat (first | refine W.ctl rfl ?_ | refine W.op rfl rfl rfl rfl ?_ | refine W.skip rfl rfl ?_ | refine W.fld rfl rfl rfl rfl rfl ?_ | refine W.ld rfl rfl rfl rfl rfl ?_))
    rw [hdec, if_pos (herr'.2 rfl)]
    refine W.rets (.inr rfl) rfl (.cons (RV1.cells rfl) (.cons (RV1.tmp rfl) .nil)) _ ⟨⟨none, 0, none, 0, none, 0⟩, rfl, rfl⟩ ?_
    simp only [NodeH, NodeB, M.Node.zero, sv, Option.map_none, List.length_nil, List.map_nil, slck_nil, emp_sep]
    exact Imp.all
  | false =>
    rw [if_neg (fun h => by have := herr'.1 h; cases this)] at hdec
    have hbf : bad = false := by cases bad with | false => rfl | true => simp at herr
    subst hbf
    (repeat (first | refine W.ctl rfl ?_ | refine W.op rfl rfl rfl rfl ?_ | refine W.skip rfl rfl ?_ | refine W.fld rfl rfl rfl rfl rfl ?_ | refine W.ld rfl rfl rfl rfl rfl ?_))
    refine W.join (σ := NP) (fun _ => True) (fun _ => [(2, .pointer (some ⟨res, 0, none⟩)), (4, .pointer (some ⟨rp, 0, none⟩)), (6, .pointer (some ⟨nb, 0, none⟩))])
      (fun x => row res 114 [.bool false, .slice none 0 0, .slice none 0 0, .slice none 0 0] • DecH nb rp leaf (if leaf then ⟨[], [], [], (M.take s 1).2.1, false⟩ else Dec.kid ⟨[], [], [], (M.take s 1).2.1, false⟩) x R) ?_ fun x _ => ?_
    · cases leaf with
      | true =>
        (repeat (first | refine W.ctl rfl ?_ | refine W.op rfl rfl rfl rfl ?_ | refine W.skip rfl rfl ?_ | refine W.fld rfl rfl rfl rfl rfl ?_ | refine W.ld rfl rfl rfl rfl rfl ?_))
        exact W.meet ⟨none, 0, none, 0, none, 0⟩ trivial ⟨rfl, rfl, rfl, trivial⟩ (by rw [if_pos rfl]; exact Imp.all)
      | false =>
        simp only [DecH, List.length_nil, List.map_nil]
        (repeat (first | refine W.ctl rfl ?_ | refine W.op rfl rfl rfl rfl ?_ | refine W.skip rfl rfl ?_ | refine W.fld rfl rfl rfl rfl rfl ?_ | refine W.ld rfl rfl rfl rfl rfl ?_))
        refine W.anyh (f := 6) (fun j => !Nat.beq j 8) [0, 1, 2] (by kernel_rfl) (by kernel_rfl) (by kernel_rfl) (by kernel_rfl) rfl (row nb 114 [.bool false, sv none 0 0, sv none 0 0, sv none 0 0]) Imp.all ?_
        (repeat (first | refine W.ctl rfl ?_ | refine W.op rfl rfl rfl rfl ?_ | refine W.skip rfl rfl ?_ | refine W.fld rfl rfl rfl rfl rfl ?_ | refine W.ld rfl rfl rfl rfl rfl ?_))
        refine W.tdn ?_
        refine W.ald1 3 (by kernel_rfl) rfl ?_
        refine W.call (reader_number rp (M.take s 1).2.1 false 2 (by have := M.take_len s 1; omega) (by omega) (by omega)) rfl rfl rfl rfl Tryz.call154 ⟨rfl, rfl, trivial⟩ ?_
        rintro _ _ ⟨rfl, rfl⟩
        rw [Bool.false_or]
        refine W.aft Imp.all ?_
        have ht := take_fst_lt (M.take s 1).2.1 2
        have ht' : (256 : Nat) ^ (2 : Int).toNat = 65536 := by decide
        rw [ht'] at ht
        refine W.ald1 4 (by kernel_rfl) rfl ?_
        refine W.cv rfl rfl rfl rfl rfl (wrap_i64 (by omega) (by omega)) ?_
        refine W.aft Imp.all ?_
        refine W.ald1 5 (by kernel_rfl) rfl ?_
        refine W.bsl (vs := [_]) rfl rfl rfl rfl ⟨rfl, rfl, trivial⟩ rfl rfl rfl fun g => ?_
        refine W.aft Imp.all ?_
        refine W.ald1 6 (by kernel_rfl) rfl ?_
        refine W.appk (a := none) (xs := []) (kk := 1) (n' := 0) (cap := 0) (news := [int (M.take (M.take s 1).2.1 2).1]) rfl rfl rfl rfl rfl rfl rfl rfl rfl (by omega) (by omega) fun a' c' => ?_
        refine W.aft Imp.all ?_
        refine W.ald1 7 (by kernel_rfl) rfl ?_
        refine W.fld rfl rfl rfl rfl rfl ?_
        refine W.aft Imp.all ?_
        refine W.ald1 8 (by kernel_rfl) rfl ?_
        refine W.st rfl rfl rfl rfl rfl ?_
        refine W.afb (W.adn (by kernel_rfl) ?_)
        (repeat (first | refine W.ctl rfl ?_ | refine W.op rfl rfl rfl rfl ?_ | refine W.skip rfl rfl ?_ | refine W.fld rfl rfl rfl rfl rfl ?_ | refine W.ld rfl rfl rfl rfl rfl ?_))
        refine W.meet ⟨none, 0, none, 0, a', c'⟩ trivial ⟨rfl, rfl, rfl, trivial⟩ ?_
        rw [if_neg (by simp)]
        simp only [Dec.kid, List.nil_append, List.length_nil, List.length_singleton, List.map_cons, List.map_nil, Bool.false_or]
        exact Imp.all
    obtain ⟨s0, hs0⟩ : ∃ s0, (if leaf then (⟨[], [], [], (M.take s 1).2.1, false⟩ : Dec) else Dec.kid ⟨[], [], [], (M.take s 1).2.1, false⟩) = s0 := ⟨_, rfl⟩
    rw [hs0] at hdec ⊢
    have hl1 := M.take_len s 1
    have hl2 := M.take_len (M.take s 1).2.1 2
    have ok0 : M.DecOk 1024 s0 ∧ s0.b.length ≤ s.length := by
      rw [← hs0]
      cases leaf with
      | true => exact ⟨⟨by simp; omega, by simp, by simp, by simp⟩, by simp; omega⟩
      | false => exact ⟨⟨by simp [Dec.kid]; omega, by simp [Dec.kid], by simp [Dec.kid], by simp [Dec.kid]⟩, by simp [Dec.kid]; omega⟩
    (repeat (first | refine W.ctl rfl ?_ | refine W.op rfl rfl rfl rfl ?_ | refine W.skip rfl rfl ?_ | refine W.fld rfl rfl rfl rfl rfl ?_ | refine W.ld rfl rfl rfl rfl rfl ?_))
    refine W.loop (σ := Dec × NP × Nat) (fun p => M.DecOk 1024 p.1 ∧ p.1.b.length ≤ p.2.2 ∧ M.dloop leaf s.length s0 = M.dloop leaf p.2.2 p.1) (fun _ => [(2, .pointer (some ⟨res, 0, none⟩)), (4, .pointer (some ⟨rp, 0, none⟩)), (6, .pointer (some ⟨nb, 0, none⟩))])
      (fun p => row res 114 [.bool false, .slice none 0 0, .slice none 0 0, .slice none 0 0] • DecH nb rp leaf p.1 p.2.1 R) (fun p => p.1.b.length) (s0, x, s.length) ⟨ok0.1, ok0.2, rfl⟩ ⟨rfl, rfl, rfl, trivial⟩ Imp.all ?_
    rintro ⟨t, y, k⟩ ⟨ht, hk, he⟩
    replace ht : M.DecOk 1024 t := ht
    replace hk : t.b.length ≤ k := hk
    replace he : M.dloop leaf s.length s0 = M.dloop leaf k t := he
    have o1 := ht.keys
    have o2 := ht.vals
    have o3 := ht.kids
    simp only [DecH]
    (repeat (first | refine W.ctl rfl ?_ | refine W.op rfl rfl rfl rfl ?_ | refine W.skip rfl rfl ?_ | refine W.fld rfl rfl rfl rfl rfl ?_ | refine W.ld rfl rfl rfl rfl rfl ?_))
    refine W.sne rfl rfl rfl rfl rfl rfl ?_
    by_cases hb : t.b ≠ []
    · rw [decide_eq_true hb]
      (repeat (first | refine W.ctl rfl ?_ | refine W.op rfl rfl rfl rfl ?_ | refine W.skip rfl rfl ?_ | refine W.fld rfl rfl rfl rfl rfl ?_ | refine W.ld rfl rfl rfl rfl rfl ?_))
      cases hbd : t.bad with
      | true =>
        (repeat (first | refine W.ctl rfl ?_ | refine W.op rfl rfl rfl rfl ?_ | refine W.skip rfl rfl ?_ | refine W.fld rfl rfl rfl rfl rfl ?_ | refine W.ld rfl rfl rfl rfl rfl ?_))
        have e1 : M.dloop leaf k t = t := by
          cases k with
          | zero => rfl
          | succ k => rw [M.dloop, if_neg (by simp [hbd])]
        rw [e1] at he
        rw [he] at hdec
        dsimp only at hdec
        rw [if_pos (.inl hbd)] at hdec
        refine W.bld rfl rfl rfl rfl rfl ?_
        refine W.sts rfl rfl rfl rfl rfl rfl ?_
        (repeat (first | refine W.ctl rfl ?_ | refine W.op rfl rfl rfl rfl ?_ | refine W.skip rfl rfl ?_ | refine W.fld rfl rfl rfl rfl rfl ?_ | refine W.ld rfl rfl rfl rfl rfl ?_))
        rw [hdec]
        refine W.rets (.inr rfl) rfl (.cons (RV1.cells rfl) (.cons (RV1.tmp rfl) .nil)) _ ⟨⟨none, 0, none, 0, none, 0⟩, rfl, rfl⟩ ?_
        simp only [NodeH, NodeB, M.Node.zero, sv, Option.map_none, List.length_nil, List.map_nil, slck_nil, emp_sep]
        exact Imp.all
      | false =>
        (repeat (first | refine W.ctl rfl ?_ | refine W.op rfl rfl rfl rfl ?_ | refine W.skip rfl rfl ?_ | refine W.fld rfl rfl rfl rfl rfl ?_ | refine W.ld rfl rfl rfl rfl rfl ?_))
        have hbl := List.length_pos_iff.2 hb
        obtain ⟨k, rfl⟩ : ∃ j, k = j + 1 := ⟨k - 1, by omega⟩
        have hst := M.dstep_ok (leaf := leaf) ht hb
        have e1 : M.dloop leaf (k + 1) t = M.dloop leaf k (M.dstep leaf t) := by rw [M.dloop, if_pos ⟨hb, hbd⟩]
        rw [e1] at he
        refine W.anyh (f := 5) (fun j => !Nat.beq j 7) [0, 1, 2] (by kernel_rfl) (by kernel_rfl) (by kernel_rfl) (by kernel_rfl) rfl (row nb 114 [.bool leaf, sv y.ka t.keys.length y.kc, sv y.va t.vals.length y.vc, sv y.da t.kids.length y.dc]) Imp.all ?_
        (repeat (first | refine W.ctl rfl ?_ | refine W.op rfl rfl rfl rfl ?_ | refine W.skip rfl rfl ?_ | refine W.fld rfl rfl rfl rfl rfl ?_ | refine W.ld rfl rfl rfl rfl rfl ?_))
        refine W.tdn ?_
        refine W.ald1 3 (by kernel_rfl) rfl ?_
        refine W.call (reader_number rp t.b false 8 (by omega) (by omega) (by omega)) rfl rfl rfl rfl Tryz.call154 ⟨rfl, rfl, trivial⟩ ?_
        rintro _ _ ⟨rfl, rfl⟩
        rw [Bool.false_or]
        refine W.aft Imp.all ?_
        refine W.ald1 4 (by kernel_rfl) rfl ?_
        refine W.bsl (vs := [_]) rfl rfl rfl rfl ⟨rfl, rfl, trivial⟩ rfl rfl rfl fun g => ?_
        refine W.aft Imp.all ?_
        refine W.ald1 5 (by kernel_rfl) rfl ?_
        refine W.appk (kk := 1) (news := [u64 (M.take t.b 8).1]) rfl rfl rfl rfl rfl rfl rfl rfl rfl (by omega) (by omega) fun ka' kc' => ?_
        refine W.aft Imp.all ?_
        refine W.ald1 6 (by kernel_rfl) rfl ?_
        refine W.fld rfl rfl rfl rfl rfl ?_
        refine W.aft Imp.all ?_
        refine W.ald1 7 (by kernel_rfl) rfl ?_
        refine W.st rfl rfl rfl rfl rfl ?_
        refine W.afb (W.adn (by kernel_rfl) ?_)
        (repeat (first | refine W.ctl rfl ?_ | refine W.op rfl rfl rfl rfl ?_ | refine W.skip rfl rfl ?_ | refine W.fld rfl rfl rfl rfl rfl ?_ | refine W.ld rfl rfl rfl rfl rfl ?_))
        cases leaf with
        | true =>
          (repeat (first | refine W.ctl rfl ?_ | refine W.op rfl rfl rfl rfl ?_ | refine W.skip rfl rfl ?_ | refine W.fld rfl rfl rfl rfl rfl ?_ | refine W.ld rfl rfl rfl rfl rfl ?_))
          refine W.anyh (f := 5) (fun j => !Nat.beq j 7) [0, 1, 2] (by kernel_rfl) (by kernel_rfl) (by kernel_rfl) (by kernel_rfl) rfl (row nb 114 [.bool true, sv ka' (t.keys.length + 1) kc', sv y.va t.vals.length y.vc, sv y.da t.kids.length y.dc]) Imp.all ?_
          (repeat (first | refine W.ctl rfl ?_ | refine W.op rfl rfl rfl rfl ?_ | refine W.skip rfl rfl ?_ | refine W.fld rfl rfl rfl rfl rfl ?_ | refine W.ld rfl rfl rfl rfl rfl ?_))
          refine W.tdn ?_
          refine W.ald1 3 (by kernel_rfl) rfl ?_
          have hl3 := M.take_len t.b 8
          refine W.call (reader_text rp (M.take t.b 8).2.1 (decide ((M.take t.b 8).2.2 ≠ 0)) (by omega)) rfl rfl rfl rfl Tryz.call155 ⟨rfl, trivial⟩ ?_
          rintro _ _ ⟨rfl, rfl⟩
          refine W.aft Imp.all ?_
          refine W.ald1 4 (by kernel_rfl) rfl ?_
          refine W.bsl (vs := [_]) rfl rfl rfl rfl ⟨rfl, rfl, trivial⟩ rfl rfl rfl fun g2 => ?_
          refine W.aft Imp.all ?_
          refine W.ald1 5 (by kernel_rfl) rfl ?_
          refine W.appk (kk := 1) (news := [str (M.takeText (M.take t.b 8).2.1).1]) rfl rfl rfl rfl rfl rfl rfl rfl rfl (by omega) (by omega) fun va' vc' => ?_
          refine W.aft Imp.all ?_
          refine W.ald1 6 (by kernel_rfl) rfl ?_
          refine W.fld rfl rfl rfl rfl rfl ?_
          refine W.aft Imp.all ?_
          refine W.ald1 7 (by kernel_rfl) rfl ?_
          refine W.st rfl rfl rfl rfl rfl ?_
          refine W.afb (W.adn (by kernel_rfl) ?_)
          (repeat (first | refine W.ctl rfl ?_ | refine W.op rfl rfl rfl rfl ?_ | refine W.skip rfl rfl ?_ | refine W.fld rfl rfl rfl rfl rfl ?_ | refine W.ld rfl rfl rfl rfl rfl ?_))
          refine W.again (M.dstep true t, ⟨ka', kc', va', vc', y.da, y.dc⟩, k) ⟨hst.1, by dsimp only; omega, he⟩ hst.2 ⟨rfl, rfl, rfl, trivial⟩ ?_
          simp only [M.dstep, Dec.key, Dec.val, if_true, hbd, Bool.false_or, List.length_append, List.length_singleton, List.map_append, List.map_cons, List.map_nil]
          exact Imp.all
        | false =>
          (repeat (first | refine W.ctl rfl ?_ | refine W.op rfl rfl rfl rfl ?_ | refine W.skip rfl rfl ?_ | refine W.fld rfl rfl rfl rfl rfl ?_ | refine W.ld rfl rfl rfl rfl rfl ?_))
          refine W.anyh (f := 6) (fun j => !Nat.beq j 8) [0, 1, 2] (by kernel_rfl) (by kernel_rfl) (by kernel_rfl) (by kernel_rfl) rfl (row nb 114 [.bool false, sv ka' (t.keys.length + 1) kc', sv y.va t.vals.length y.vc, sv y.da t.kids.length y.dc]) Imp.all ?_
          (repeat (first | refine W.ctl rfl ?_ | refine W.op rfl rfl rfl rfl ?_ | refine W.skip rfl rfl ?_ | refine W.fld rfl rfl rfl rfl rfl ?_ | refine W.ld rfl rfl rfl rfl rfl ?_))
          refine W.tdn ?_
          refine W.ald1 3 (by kernel_rfl) rfl ?_
          have hl3 := M.take_len t.b 8
          refine W.call (reader_number rp (M.take t.b 8).2.1 (decide ((M.take t.b 8).2.2 ≠ 0)) 2 (by omega) (by omega) (by omega)) rfl rfl rfl rfl Tryz.call154 ⟨rfl, rfl, trivial⟩ ?_
          rintro _ _ ⟨rfl, rfl⟩
          refine W.aft Imp.all ?_
          have hq := take_fst_lt (M.take t.b 8).2.1 2
          have hq' : (256 : Nat) ^ (2 : Int).toNat = 65536 := by decide
          rw [hq'] at hq
          refine W.ald1 4 (by kernel_rfl) rfl ?_
          refine W.cv rfl rfl rfl rfl rfl (wrap_i64 (by omega) (by omega)) ?_
          refine W.aft Imp.all ?_
          refine W.ald1 5 (by kernel_rfl) rfl ?_
          refine W.bsl (vs := [_]) rfl rfl rfl rfl ⟨rfl, rfl, trivial⟩ rfl rfl rfl fun g2 => ?_
          refine W.aft Imp.all ?_
          refine W.ald1 6 (by kernel_rfl) rfl ?_
          refine W.appk (kk := 1) (news := [int (M.take (M.take t.b 8).2.1 2).1]) rfl rfl rfl rfl rfl rfl rfl rfl rfl (by omega) (by omega) fun da' dc' => ?_
          refine W.aft Imp.all ?_
          refine W.ald1 7 (by kernel_rfl) rfl ?_
          refine W.fld rfl rfl rfl rfl rfl ?_
          refine W.aft Imp.all ?_
          refine W.ald1 8 (by kernel_rfl) rfl ?_
          refine W.st rfl rfl rfl rfl rfl ?_
          refine W.afb (W.adn (by kernel_rfl) ?_)
          (repeat (first | refine W.ctl rfl ?_ | refine W.op rfl rfl rfl rfl ?_ | refine W.skip rfl rfl ?_ | refine W.fld rfl rfl rfl rfl rfl ?_ | refine W.ld rfl rfl rfl rfl rfl ?_))
          refine W.again (M.dstep false t, ⟨ka', kc', y.va, y.vc, da', dc'⟩, k) ⟨hst.1, by dsimp only; omega, he⟩ hst.2 ⟨rfl, rfl, rfl, trivial⟩ ?_
          simp only [M.dstep, Dec.key, Dec.kid, Bool.false_eq_true, if_false, hbd, Bool.false_or, List.length_append, List.length_singleton, List.map_append, List.map_cons, List.map_nil]
          exact Imp.all
    · rw [decide_eq_false hb]
      have e1 : M.dloop leaf k t = t := by
        cases k with
        | zero => rfl
        | succ k => rw [M.dloop, if_neg (by simp at hb; simp [hb])]
      rw [e1] at he
      rw [he] at hdec
      dsimp only at hdec
      cases hbd : t.bad with
      | true =>
        rw [if_pos (.inl hbd)] at hdec
        (repeat (first | refine W.ctl rfl ?_ | refine W.op rfl rfl rfl rfl ?_ | refine W.skip rfl rfl ?_ | refine W.fld rfl rfl rfl rfl rfl ?_ | refine W.ld rfl rfl rfl rfl rfl ?_))
        refine W.bld rfl rfl rfl rfl rfl ?_
        refine W.sts rfl rfl rfl rfl rfl rfl ?_
        (repeat (first | refine W.ctl rfl ?_ | refine W.op rfl rfl rfl rfl ?_ | refine W.skip rfl rfl ?_ | refine W.fld rfl rfl rfl rfl rfl ?_ | refine W.ld rfl rfl rfl rfl rfl ?_))
        rw [hdec]
        refine W.rets (.inr rfl) rfl (.cons (RV1.cells rfl) (.cons (RV1.tmp rfl) .nil)) _ ⟨⟨none, 0, none, 0, none, 0⟩, rfl, rfl⟩ ?_
        simp only [NodeH, NodeB, M.Node.zero, sv, Option.map_none, List.length_nil, List.map_nil, slck_nil, emp_sep]
        exact Imp.all
      | false =>
        (repeat (first | refine W.ctl rfl ?_ | refine W.op rfl rfl rfl rfl ?_ | refine W.skip rfl rfl ?_ | refine W.fld rfl rfl rfl rfl rfl ?_ | refine W.ld rfl rfl rfl rfl rfl ?_))
        obtain ⟨N, hN⟩ : ∃ N : M.Node, ⟨leaf, t.keys, t.vals, t.kids⟩ = N := ⟨_, rfl⟩
        have hNB : NB N := by rw [← hN]; exact ⟨by dsimp only; omega, by dsimp only; omega, by dsimp only; omega, fun v hv => by have := ht.val v hv; omega⟩
        rw [hN] at hdec
        refine W.imp (H' := row res 114 [.bool false, .slice none 0 0, .slice none 0 0, .slice none 0 0] • row nb 114 [.bool N.leaf, sv y.ka N.keys.length y.kc, sv y.va N.vals.length y.vc, sv y.da N.kids.length y.dc] • NodeB N y R) rfl (by rw [← hN]; exact Imp.all) ?_
        refine W.lds rfl rfl rfl rfl rfl ?_
        (repeat (first | refine W.ctl rfl ?_ | refine W.op rfl rfl rfl rfl ?_ | refine W.skip rfl rfl ?_))
        refine W.call (node_Right N y hNB) rfl rfl rfl rfl Tryz.call156 ⟨rfl, trivial⟩ ?_
        rintro _ _ ⟨rfl, rfl⟩
        cases hr : M.right N with
        | true =>
          (repeat (first | refine W.ctl rfl ?_ | refine W.op rfl rfl rfl rfl ?_ | refine W.skip rfl rfl ?_ | refine W.fld rfl rfl rfl rfl rfl ?_ | refine W.ld rfl rfl rfl rfl rfl ?_))
          refine W.lds rfl rfl rfl rfl rfl ?_
          refine W.sts rfl rfl rfl rfl rfl rfl ?_
          (repeat (first | refine W.ctl rfl ?_ | refine W.op rfl rfl rfl rfl ?_ | refine W.skip rfl rfl ?_ | refine W.fld rfl rfl rfl rfl rfl ?_ | refine W.ld rfl rfl rfl rfl rfl ?_))
          rw [if_neg (by simp [hbd, hr])] at hdec
          rw [hdec]
          exact W.rets (.inr rfl) rfl (.cons (RV1.cells rfl) (.cons (RV1.tmp rfl) .nil)) _ ⟨y, rfl, rfl⟩ Imp.all
        | false =>
          (repeat (first | refine W.ctl rfl ?_ | refine W.op rfl rfl rfl rfl ?_ | refine W.skip rfl rfl ?_ | refine W.fld rfl rfl rfl rfl rfl ?_ | refine W.ld rfl rfl rfl rfl rfl ?_))
          rw [if_pos (.inr hr)] at hdec
          refine W.bld rfl rfl rfl rfl rfl ?_
          refine W.sts rfl rfl rfl rfl rfl rfl ?_
          (repeat (first | refine W.ctl rfl ?_ | refine W.op rfl rfl rfl rfl ?_ | refine W.skip rfl rfl ?_ | refine W.fld rfl rfl rfl rfl rfl ?_ | refine W.ld rfl rfl rfl rfl rfl ?_))
          rw [hdec]
          refine W.rets (.inr rfl) rfl (.cons (RV1.cells rfl) (.cons (RV1.tmp rfl) .nil)) _ ⟨⟨none, 0, none, 0, none, 0⟩, rfl, rfl⟩ ?_
          simp only [NodeH, NodeB, M.Node.zero, sv, Option.map_none, List.length_nil, List.map_nil, slck_nil, emp_sep]
          exact Imp.all
end Go.Proofs.YtbdhhedfplkidaaGreat
/- Where a key stands in a node. -/
namespace Go.Proofs.YtbdhhedfplkidaaGreat
open Go
open M (Str)
set_option maxHeartbeats 400000
set_option maxRecDepth 2000
theorem node_place (a : Option Nat) (cap : Nat) (keys : List Nat) (key : Nat) (hn : keys.length ≤ 4096) : CS 112 [sv a keys.length cap, u64 key] (slck 1 35 (sv a keys.length cap) keys.length (keys.map u64))
    fun v H' => v = .tuple #[int (M.place keys key).1, .bool (M.place keys key).2] ∧ H' = slck 1 35 (sv a keys.length cap) keys.length (keys.map u64) := by
  refine CS.walk Tryz.func112 rfl Tryz.ntmps112 rfl fun c R => ?_
  (repeat (first | refine W.ctl rfl ?_ | refine W.op rfl rfl rfl rfl ?_ | refine W.skip rfl rfl ?_ | refine W.fld rfl rfl rfl rfl rfl ?_ | refine W.ld rfl rfl rfl rfl rfl ?_))
  refine W.len rfl rfl rfl rfl rfl ?_
  refine W.op rfl rfl rfl rfl ?_
  refine W.op rfl rfl rfl rfl ?_
  refine W.ctl rfl ?_
  refine W.ctl rfl ?_
  refine W.ctl rfl ?_
  refine W.ctl rfl ?_
  refine W.ctl rfl ?_
  refine W.ctl rfl ?_
  obtain ⟨r, hr⟩ : ∃ r, M.ploop keys key keys.length 0 keys.length = r := ⟨_, rfl⟩
  have hrn : r ≤ keys.length := by rw [← hr]; exact M.ploop_le keys key _ _ _ (by omega)
  have hpl : M.place keys key = (r, decide (keys[r]? = some key)) := by rw [M.place, hr]
  refine W.join (σ := Unit) (fun _ => True) (fun _ => [(0, sv a keys.length cap), (1, u64 key), (6, int r)]) (fun _ => slck 1 35 (sv a keys.length cap) keys.length (keys.map u64) • R) ?_ fun _ _ => ?_
  · (repeat (first | refine W.ctl rfl ?_ | refine W.op rfl rfl rfl rfl ?_ | refine W.skip rfl rfl ?_ | refine W.fld rfl rfl rfl rfl rfl ?_ | refine W.ld rfl rfl rfl rfl rfl ?_))
    refine W.loop (σ := Nat × Nat × Nat) (fun p => p.1 ≤ p.2.1 ∧ p.2.1 ≤ keys.length ∧ p.2.1 - p.1 ≤ p.2.2 ∧ M.ploop keys key p.2.2 p.1 p.2.1 = r) (fun p => [(0, sv a keys.length cap), (1, u64 key), (6, int p.1), (7, int p.2.1)])
      (fun _ => slck 1 35 (sv a keys.length cap) keys.length (keys.map u64) • R) (fun p => p.2.1 - p.1) (0, keys.length, keys.length) ⟨by dsimp only; omega, Nat.le_refl _, by dsimp only; omega, hr⟩ ⟨rfl, rfl, rfl, rfl, trivial⟩ Imp.all ?_
    rintro ⟨lo, hi, f⟩ ⟨h1, h2, h3, h4⟩
    dsimp only at h1 h2 h3 h4 ⊢
    (repeat (first | refine W.ctl rfl ?_ | refine W.op rfl rfl rfl rfl ?_ | refine W.skip rfl rfl ?_ | refine W.fld rfl rfl rfl rfl rfl ?_ | refine W.ld rfl rfl rfl rfl rfl ?_))
    by_cases h5 : (lo : Int) < hi
    · refine W.yes rfl rfl rfl rfl h5 ?_
      (repeat (first | refine W.ctl rfl ?_ | refine W.op rfl rfl rfl rfl ?_ | refine W.skip rfl rfl ?_ | refine W.fld rfl rfl rfl rfl rfl ?_ | refine W.ld rfl rfl rfl rfl rfl ?_))
      refine W.ar (r := ((lo + hi : Nat) : Int)) rfl rfl rfl rfl rfl rfl rfl (wrap_i64 (by omega) (by omega)) ?_
      refine W.bin rfl rfl rfl rfl rfl rfl (fun w => M.bin_quo _ (lo + hi) 2 w (by decide) (by omega)) ?_
      have hm : (lo + hi) / 2 < keys.length := by omega
      (repeat (first | refine W.ctl rfl ?_ | refine W.op rfl rfl rfl rfl ?_ | refine W.skip rfl rfl ?_ | refine W.fld rfl rfl rfl rfl rfl ?_ | refine W.ld rfl rfl rfl rfl rfl ?_))
      refine W.idxk rfl rfl rfl rfl rfl rfl (by omega) (by omega) ?_
      refine W.ldk (v := u64 (keys[(lo + hi) / 2])) rfl rfl rfl rfl rfl (by simp only [Int.toNat_natCast, Nat.mul_one, List.getElem?_map, List.getElem?_eq_getElem hm]; rfl) ?_
      (repeat (first | refine W.ctl rfl ?_ | refine W.op rfl rfl rfl rfl ?_ | refine W.skip rfl rfl ?_ | refine W.fld rfl rfl rfl rfl rfl ?_ | refine W.ld rfl rfl rfl rfl rfl ?_))
      obtain ⟨f, rfl⟩ : ∃ g, f = g + 1 := ⟨f - 1, by omega⟩
      have hg : keys.getD ((lo + hi) / 2) 0 = keys[(lo + hi) / 2] := by simp [List.getD_eq_getElem?_getD, hm]
      rw [M.ploop, if_pos (by omega), hg] at h4
      by_cases h6 : ((keys[(lo + hi) / 2] : Nat) : Int) = (key : Nat)
      · refine W.yes rfl rfl rfl rfl h6 ?_
        (repeat (first | refine W.ctl rfl ?_ | refine W.op rfl rfl rfl rfl ?_ | refine W.skip rfl rfl ?_ | refine W.fld rfl rfl rfl rfl rfl ?_ | refine W.ld rfl rfl rfl rfl rfl ?_))
        rw [if_pos (by omega)] at h4
        exact W.meet () trivial ⟨rfl, rfl, by rw [← h4]; rfl, trivial⟩ Imp.all
      refine W.no rfl rfl rfl rfl h6 ?_
      rw [if_neg (by omega)] at h4
      (repeat (first | refine W.ctl rfl ?_ | refine W.op rfl rfl rfl rfl ?_ | refine W.skip rfl rfl ?_ | refine W.fld rfl rfl rfl rfl rfl ?_ | refine W.ld rfl rfl rfl rfl rfl ?_))
      by_cases h7 : ((keys[(lo + hi) / 2] : Nat) : Int) < (key : Nat)
      · refine W.yes rfl rfl rfl rfl h7 ?_
        rw [if_pos (by omega)] at h4
        (repeat (first | refine W.ctl rfl ?_ | refine W.op rfl rfl rfl rfl ?_ | refine W.skip rfl rfl ?_ | refine W.fld rfl rfl rfl rfl rfl ?_ | refine W.ld rfl rfl rfl rfl rfl ?_))
        refine W.ar (r := (((lo + hi) / 2 + 1 : Nat) : Int)) rfl rfl rfl rfl rfl rfl rfl (wrap_i64 (by omega) (by omega)) ?_
        (repeat (first | refine W.ctl rfl ?_ | refine W.op rfl rfl rfl rfl ?_ | refine W.skip rfl rfl ?_ | refine W.fld rfl rfl rfl rfl rfl ?_ | refine W.ld rfl rfl rfl rfl rfl ?_))
        exact W.again ((lo + hi) / 2 + 1, hi, f) ⟨by dsimp only; omega, by dsimp only; omega, by dsimp only; omega, h4⟩ (by dsimp only; omega) ⟨rfl, rfl, rfl, rfl, trivial⟩ Imp.all
      · refine W.no rfl rfl rfl rfl h7 ?_
        rw [if_neg (by omega)] at h4
        (repeat (first | refine W.ctl rfl ?_ | refine W.op rfl rfl rfl rfl ?_ | refine W.skip rfl rfl ?_ | refine W.fld rfl rfl rfl rfl rfl ?_ | refine W.ld rfl rfl rfl rfl rfl ?_))
        exact W.again (lo, (lo + hi) / 2, f) ⟨by dsimp only; omega, by dsimp only; omega, by dsimp only; omega, h4⟩ (by dsimp only; omega) ⟨rfl, rfl, rfl, rfl, trivial⟩ Imp.all
    · refine W.no rfl rfl rfl rfl h5 ?_
      (repeat (first | refine W.ctl rfl ?_ | refine W.op rfl rfl rfl rfl ?_ | refine W.skip rfl rfl ?_ | refine W.fld rfl rfl rfl rfl rfl ?_ | refine W.ld rfl rfl rfl rfl rfl ?_))
      have e : lo = r := by
        rw [← h4]
        cases f with
        | zero => rfl
        | succ f => rw [M.ploop, if_neg (by omega)]
      subst e
      exact W.meet () trivial ⟨rfl, rfl, rfl, trivial⟩ Imp.all
  (repeat (first | refine W.ctl rfl ?_ | refine W.op rfl rfl rfl rfl ?_ | refine W.skip rfl rfl ?_ | refine W.fld rfl rfl rfl rfl rfl ?_ | refine W.ld rfl rfl rfl rfl rfl ?_))
  refine W.draw (by kernel_rfl) (by kernel_rfl) ?_
  (repeat (first | refine W.ctl rfl ?_ | refine W.op rfl rfl rfl rfl ?_ | refine W.skip rfl rfl ?_ | refine W.fld rfl rfl rfl rfl rfl ?_ | refine W.ld rfl rfl rfl rfl rfl ?_))
  refine W.len rfl rfl rfl rfl rfl ?_
  by_cases h1 : (r : Int) < keys.length
  · refine W.yes rfl rfl rfl rfl h1 ?_
    have h1' : r < keys.length := by omega
    (repeat (first | refine W.ctl rfl ?_ | refine W.op rfl rfl rfl rfl ?_ | refine W.skip rfl rfl ?_ | refine W.fld rfl rfl rfl rfl rfl ?_ | refine W.ld rfl rfl rfl rfl rfl ?_))
    refine W.idxk rfl rfl rfl rfl rfl rfl (by omega) (by omega) ?_
    (repeat (first | refine W.ctl rfl ?_ | refine W.op rfl rfl rfl rfl ?_ | refine W.skip rfl rfl ?_))
    refine W.ldk (v := u64 (keys[r])) rfl rfl rfl rfl rfl (by simp [h1']) ?_
    (repeat (first | refine W.ctl rfl ?_ | refine W.op rfl rfl rfl rfl ?_ | refine W.skip rfl rfl ?_))
    refine W.cmp rfl rfl rfl rfl ?_
    (repeat (first | refine W.ctl rfl ?_ | refine W.op rfl rfl rfl rfl ?_ | refine W.skip rfl rfl ?_ | refine W.fld rfl rfl rfl rfl rfl ?_ | refine W.ld rfl rfl rfl rfl rfl ?_))
    refine W.ret2 (.inr rfl) rfl rfl rfl _ ⟨?_, rfl⟩ Imp.all
    rw [hpl, List.getElem?_eq_getElem h1']
    simp; omega
  · refine W.no rfl rfl rfl rfl h1 ?_
    (repeat (first | refine W.ctl rfl ?_ | refine W.op rfl rfl rfl rfl ?_ | refine W.skip rfl rfl ?_ | refine W.fld rfl rfl rfl rfl rfl ?_ | refine W.ld rfl rfl rfl rfl rfl ?_))
    refine W.ret2 (.inr rfl) rfl rfl rfl _ ⟨?_, rfl⟩ Imp.all
    rw [hpl, List.getElem?_eq_none (by omega)]
    simp
theorem place_le (keys : List Nat) (key : Nat) : (M.place keys key).1 ≤ keys.length := M.ploop_le keys key _ _ _ (by omega)
theorem node_Find (N : M.Node) (x : NP) (key : Nat) (hN : NB N) : CS 79 [nodeV N x, u64 key] (NodeH N x) fun v H' => v = .tuple #[int (M.find N key).1, .bool (M.find N key).2] ∧ H' = NodeH N x := by
  have hk := hN.keys
  have hp := place_le N.keys key
  refine CS.walk Tryz.func79 rfl Tryz.ntmps79 rfl fun c R => ?_
  simp only [NodeH, NodeB, sep_assoc', emp_sep]
  (repeat (first | refine W.ctl rfl ?_ | refine W.op rfl rfl rfl rfl ?_ | refine W.skip rfl rfl ?_ | refine W.fld rfl rfl rfl rfl rfl ?_ | refine W.ld rfl rfl rfl rfl rfl ?_))
  refine W.box rfl rfl rfl rfl rfl fun b => ?_
  (repeat (first | refine W.ctl rfl ?_ | refine W.op rfl rfl rfl rfl ?_ | refine W.skip rfl rfl ?_ | refine W.fld rfl rfl rfl rfl rfl ?_ | refine W.ld rfl rfl rfl rfl rfl ?_))
  refine W.call (node_place x.ka x.kc N.keys key hk) rfl rfl rfl rfl Tryz.call112 ⟨rfl, rfl, trivial⟩ ?_
  rintro _ _ ⟨rfl, rfl⟩
  cases hl : N.leaf with
  | true =>
    (repeat (first | refine W.ctl rfl ?_ | refine W.op rfl rfl rfl rfl ?_ | refine W.skip rfl rfl ?_ | refine W.fld rfl rfl rfl rfl rfl ?_ | refine W.ld rfl rfl rfl rfl rfl ?_))
    refine W.ret2 (.inr rfl) rfl rfl rfl _ ⟨?_, rfl⟩ Imp.all
    rw [M.find, if_pos hl]
    rfl
  | false =>
    (repeat (first | refine W.ctl rfl ?_ | refine W.op rfl rfl rfl rfl ?_ | refine W.skip rfl rfl ?_ | refine W.fld rfl rfl rfl rfl rfl ?_ | refine W.ld rfl rfl rfl rfl rfl ?_))
    cases ht : (M.place N.keys key).2 with
    | true =>
      (repeat (first | refine W.ctl rfl ?_ | refine W.op rfl rfl rfl rfl ?_ | refine W.skip rfl rfl ?_ | refine W.fld rfl rfl rfl rfl rfl ?_ | refine W.ld rfl rfl rfl rfl rfl ?_))
      refine W.ar (i := ((M.place N.keys key).1 : Int)) (r := (((M.place N.keys key).1 + 1 : Nat) : Int)) rfl rfl rfl rfl rfl rfl rfl (wrap_i64 (by omega) (by omega)) ?_
      (repeat (first | refine W.ctl rfl ?_ | refine W.op rfl rfl rfl rfl ?_ | refine W.skip rfl rfl ?_ | refine W.fld rfl rfl rfl rfl rfl ?_ | refine W.ld rfl rfl rfl rfl rfl ?_))
      refine W.ret2 (.inr rfl) rfl rfl rfl _ ⟨?_, rfl⟩ Imp.all
      rw [M.find, if_neg (by simp [hl]), if_pos ht]
    | false =>
      (repeat (first | refine W.ctl rfl ?_ | refine W.op rfl rfl rfl rfl ?_ | refine W.skip rfl rfl ?_ | refine W.fld rfl rfl rfl rfl rfl ?_ | refine W.ld rfl rfl rfl rfl rfl ?_))
      refine W.ret2 (.inr rfl) rfl rfl rfl _ ⟨?_, rfl⟩ Imp.all
      rw [M.find, if_neg (by simp [hl]), if_neg (by simp [ht])]
      rfl
end Go.Proofs.YtbdhhedfplkidaaGreat
/- Slices made and grown by the library. -/
namespace Go.Proofs.YtbdhhedfplkidaaGreat
open Go
theorem zeroCells_one (z : Value) (h : z.cells = #[z]) (n : Nat) : Builtin.zeroCells z.cells n = (List.replicate n z).toArray := by
  rw [h]
  apply Array.ext
  · simp [Builtin.zeroCells]
  · intro j h1 h2; simp [Builtin.zeroCells, Nat.mod_one]
/-- Where H holds, these cells lie in block b from o on. -/
def Reads (H : HProp) (b o : Nat) (xs : List Value) : Prop := ∀ c w, SL c H w → ∀ j u, xs[j]? = some u → w.cell? ⟨b, o + j, none⟩ = some u
section
variable {c : World} {Q : Exit → Act → World → Prop} {n : Nat} {l : List (Nat × Value)} {H R : HProp} {ks : List Kn}
variable {q q1 q2 : Md} {all : Array Oper} {o : Oper} {rest : List Oper} {d : Nat} {v : Value}
/-- append([]T(nil), make([]T, m)...), its cells of one -/
theorem W.app0 [NX q1 q2] {t tn e : TypeId} {x y : Operand} {z : Value} {i : TypeInfo} {by' m : Nat} {kd : IntKind} (hg : o.guard = none) (hd : o.dst = some d) (hn : Nat.blt d n = true)
    (ho : o.op = .call { callee := .builtin .append, args := #[x, y], argTypes := #[t, tn] }) [ht : TD t (.slice e)] [htn : TD tn (.int kd)] [tb : TB e i z 1 by']
    (hcl : z.cells = #[z]) (hx : ev l x = some (.slice none 0 0)) (hy : ev l y = some (.int .i64 m)) (h0 : 0 < m) (h1 : m * by' ≤ 281474976710656) (h2 : m ≤ 9223372036854775807)
    (k : ∀ b cap, m ≤ cap → cap ≤ maxLen → WS c Q n (.ops q2 all rest ks) ((d, .slice (some ⟨b, 0, none⟩) m cap) :: l) (row b e (List.replicate cap z) • H)) : WS c Q n (.ops q1 all (o :: rest) ks) l H := by
  refine W.valw (σ := { p : Nat × Nat // m ≤ p.2 ∧ p.2 ≤ maxLen }) (val := fun p => .slice (some ⟨p.1.1, 0, none⟩) m p.1.2) (K := fun p => row p.1.1 e (List.replicate p.1.2 z) • H) hg hd hn (fun a w hf hs' => ?_) (fun p => k p.1.1 p.1.2 p.2.1 p.2.2)
  have hr := Lib.run_append_nil_zeros (P := Pg) w t tn o.type e i z .i64 kd ht.eq htn.eq tb.eq tb.zero m h0 (by rw [tb.size]; omega) (by omega) (by rw [tb.bytes]; exact h1)
  have hc1 := grownCap_ge w m 0 e
  have hc2 := grownCap_le_maxLen w m 0 e (by simpa [maxLen] using h2)
  refine ⟨⟨(w.heap.size, grownCap w m 0 e), hc1, hc2⟩, w.drew.alloc (.cells (Builtin.zeroCells z.cells m ++ Builtin.zeroCells z.cells (grownCap w m 0 e - m)) e), ?_, ?_⟩
  · simp only [execOp, ho, resolve, invoke, builtin, Sem.run_bind, Sem.run_pure, Result.andThen_ok, List.map_toArray, List.map_cons, List.map_nil, hf.eval hx, hf.eval hy, hr]
  · rw [zeroCells_one z hcl, zeroCells_one z hcl]
    have e1 : (List.replicate m z).toArray ++ (List.replicate (grownCap w m 0 e - m) z).toArray = (List.replicate (grownCap w m 0 e) z).toArray := by
      rw [List.append_toArray, List.replicate_append_replicate, Nat.add_sub_cancel' hc1]
    rw [e1]
    exact hs'.drew.ralloc e (List.replicate (grownCap w m 0 e) z).toArray
theorem W.cap [hNL : NL q1 q2] {t e : TypeId} {x : Operand} {p : Option Addr} {m cp : Nat} (hg : o.guard = none) (hd : o.dst = some d) (hn : Nat.blt d n = true) (ho : o.op = .call { callee := .builtin .cap, args := #[x], argTypes := #[t] }) [ht : TD t (.slice e)]
    (hx : ev l x = some (.slice p m cp)) (k : WS c Q n (.ops q2 all rest ks) ((d, .int .i64 cp) :: l) H) : WS c Q n (.ops q1 all (o :: rest) ks) l H := by
  refine W.val hg hd hn (fun a w hf _ => ?_) k
  simp [execOp, ho, resolve, hf.eval hx, invoke, builtin, Builtin.cap_, run_underlying ht.eq, goInt]
/-- nil[:0] -/
theorem W.slt0 [hNL : NL q1 q2] {t e : TypeId} {x y : Operand} {z : Value} {s : Nat} {ag : Bool} {kd : IntKind} (hg : o.guard = none) (hd : o.dst = some d) (hn : Nat.blt d n = true) (ho : o.op = .slice t x none (some y) none) [ht : TD t (.slice e)] [ti : TI e z s ag]
    (hx : ev l x = some (.slice none 0 0)) (hy : ev l y = some (.int kd ((0 : Nat) : Int)))
    (k : WS c Q n (.ops q2 all rest ks) ((d, .slice none 0 0) :: l) H) : WS c Q n (.ops q1 all (o :: rest) ks) l H := by
  refine W.val hg hd hn (fun a w hf _ => ?_) k
  simp [execOp, ho, hf.eval hx, hf.eval hy, Instr.sliceAt, Instr.slice, run_underlying ht.eq, Instr.sliceBounds, Instr.sliceBound, asIntOf, ti.size]
/-- append of nothing -/
theorem W.appe [hNL : NL q1 q2] {t e : TypeId} {x y : Operand} {z : Value} {s : Nat} {ag : Bool} {p p' : Option Addr} {m cp cp' : Nat} (hg : o.guard = none) (hd : o.dst = some d) (hn : Nat.blt d n = true) (ho : o.op = .call { callee := .builtin .append, args := #[x, y], argTypes := #[t, t] }) [ht : TD t (.slice e)] [ti : TI e z s ag]
    (hx : ev l x = some (.slice p m cp)) (hy : ev l y = some (.slice p' 0 cp')) (h : m ≤ cp)
    (k : WS c Q n (.ops q2 all rest ks) ((d, .slice p m cp) :: l) H) : WS c Q n (.ops q1 all (o :: rest) ks) l H := by
  refine W.val hg hd hn (fun a w hf _ => ?_) k
  cases p <;> cases p' <;> simp [execOp, ho, resolve, hf.eval hx, hf.eval hy, invoke, builtin, Builtin.append_, run_underlying ht.eq, ti.size, Builtin.lenOf, Builtin.firstCells, h, storeCells, loadCells, loadCellsFrom]
/-- append of what can be read somewhere to a slice of one's own -/
theorem W.appr [NX q1 q2] {t e : TypeId} {x y : Operand} {z : Value} {i : TypeInfo} {kk by' : Nat} {a : Option Nat} {cap g off m cp n' : Nat} {xs news : List Value}
    (hr : Reads H g off news) (hg : o.guard = none) (hd : o.dst = some d) (hn : Nat.blt d n = true) (ho : o.op = .call { callee := .builtin .append, args := #[x, y], argTypes := #[t, t] }) [ht : TD t (.slice e)] [tb : TB e i z kk by']
    (hcl : z.cells.size = kk) (hk : Nat.blt 0 kk = true) (hx : ev l x = some (sv a n' cap)) (hy : ev l y = some (.slice (some ⟨g, off, none⟩) m cp))
    [hp : Sk H a e kk n' cap xs R] (hl : news.length = m * kk) (h1 : ∀ u ∈ news, u.oneCell' = true) (h2 : (n' + m) * by' ≤ 140737488355328) (h3 : n' + m ≤ 9223372036854775807)
    (k : ∀ a' cap', WS c Q n (.ops q2 all rest ks) ((d, sv a' (n' + m) cap') :: l) (slck kk e (sv a' (n' + m) cap') (n' + m) (xs ++ news) • R)) : WS c Q n (.ops q1 all (o :: rest) ks) l H := by
  refine W.valw (σ := Option Nat × Nat) (val := fun p => sv p.1 (n' + m) p.2) (K := fun p => slck kk e (sv p.1 (n' + m) p.2) (n' + m) (xs ++ news) • R) hg hd hn (fun ac w hf hs' => ?_) (fun p => k p.1 p.2)
  have hk : 0 < kk := Nat.le_of_ble_eq_true hk
  have h3 : n' + m ≤ maxLen := by simpa [maxLen] using h3
  have hnews : ∀ (j : Nat) (u : Value), news[j]? = some u → w.cell? ((⟨g, off, none⟩ : Addr).add j) = some u := fun j u hu => by
    rw [add_none]; exact hr c w hs' j u hu
  rw [hp.eq] at hs'
  obtain ⟨v', w', r1, r2, r3, r4⟩ := run_append_own (P := Pg) w 0 t o.type e i z kk by' ht.eq tb.eq tb.zero tb.size tb.bytes hcl hk (sv a n' cap) n' xs hs'.owns ⟨g, off, none⟩ m cp news hl hnews h1 h3 h2 (Nat.zero_le _)
  have h5 := append_block t o.type e i z kk by' ht.eq tb.eq tb.zero tb.size tb.bytes hcl hk (sv a n' cap) v' n' xs hs'.owns ⟨g, off, none⟩ m cp news hl hnews h1 h3 h2 r1
  obtain ⟨a', cap', rfl⟩ := owns_sv r2
  refine ⟨(a', cap'), w', ?_, hs'.grown r2 r3 h5⟩
  simp [execOp, ho, resolve, hf.eval hx, hf.eval hy, invoke, builtin, r1]
/-- append of nothing to a slice of one's own -/
theorem W.appk0 [hNL : NL q1 q2] {t e : TypeId} {x y : Operand} {z : Value} {s kk : Nat} {ag : Bool} {a : Option Nat} {p' : Option Addr} {m cp cp' : Nat} {xs : List Value} (hg : o.guard = none) (hd : o.dst = some d) (hn : Nat.blt d n = true) (ho : o.op = .call { callee := .builtin .append, args := #[x, y], argTypes := #[t, t] }) [ht : TD t (.slice e)] [ti : TI e z s ag]
    (hx : ev l x = some (sv a m cp)) (hy : ev l y = some (.slice p' 0 cp')) [hp : Sk H a e kk m cp xs R]
    (k : WS c Q n (.ops q2 all rest ks) ((d, sv a m cp) :: l) H) : WS c Q n (.ops q1 all (o :: rest) ks) l H := by
  intro ac w hf hs
  have h : m ≤ cp := by have hs2 := hs; rw [hp.eq] at hs2; exact hs2.skv.2.1
  exact W.appe hg hd hn ho hx hy h k ac w hf hs
end
end Go.Proofs.YtbdhhedfplkidaaGreat
/- Slices laid one behind the other. -/
namespace Go.Proofs.YtbdhhedfplkidaaGreat
open Go
set_option maxHeartbeats 400000
set_option maxRecDepth 2000
theorem grow_u64 (m : Nat) (hm : m ≤ 65536) : CS 180 [.slice none 0 0, int m] emp fun v H' => ∃ a cap, v = sv a 0 cap ∧ H' = slck 1 35 (sv a 0 cap) 0 [] := by
  refine CS.walk Tryz.func180 rfl Tryz.ntmps180 rfl fun c R => ?_
  (repeat (first | refine W.ctl rfl ?_ | refine W.op rfl rfl rfl rfl ?_ | refine W.skip rfl rfl ?_ | refine W.fld rfl rfl rfl rfl rfl ?_ | refine W.ld rfl rfl rfl rfl rfl ?_))
  refine W.no rfl rfl rfl rfl (by omega : ¬ (m : Int) < 0) ?_
  (repeat (first | refine W.ctl rfl ?_ | refine W.op rfl rfl rfl rfl ?_ | refine W.skip rfl rfl ?_ | refine W.fld rfl rfl rfl rfl rfl ?_ | refine W.ld rfl rfl rfl rfl rfl ?_))
  refine W.cap rfl rfl rfl rfl rfl ?_
  (repeat (first | refine W.ctl rfl ?_ | refine W.op rfl rfl rfl rfl ?_ | refine W.skip rfl rfl ?_ | refine W.fld rfl rfl rfl rfl rfl ?_ | refine W.ld rfl rfl rfl rfl rfl ?_))
  refine W.len rfl rfl rfl rfl rfl ?_
  refine W.ar (r := 0) rfl rfl rfl rfl rfl rfl rfl (wrap_i64 (by omega) (by omega)) ?_
  refine W.ar (r := (m : Int)) rfl rfl rfl rfl rfl rfl (congrArg some (by omega)) (wrap_i64 (by omega) (by omega)) ?_
  (repeat (first | refine W.ctl rfl ?_ | refine W.op rfl rfl rfl rfl ?_ | refine W.skip rfl rfl ?_ | refine W.fld rfl rfl rfl rfl rfl ?_ | refine W.ld rfl rfl rfl rfl rfl ?_))
  by_cases h : (0 : Int) < m
  · refine W.yes rfl rfl rfl rfl h ?_
    (repeat (first | refine W.ctl rfl ?_ | refine W.op rfl rfl rfl rfl ?_ | refine W.skip rfl rfl ?_ | refine W.fld rfl rfl rfl rfl rfl ?_ | refine W.ld rfl rfl rfl rfl rfl ?_))
    refine W.cap rfl rfl rfl rfl rfl ?_
    refine W.slt0 rfl rfl rfl rfl rfl rfl ?_
    (repeat (first | refine W.ctl rfl ?_ | refine W.op rfl rfl rfl rfl ?_ | refine W.skip rfl rfl ?_ | refine W.fld rfl rfl rfl rfl rfl ?_ | refine W.ld rfl rfl rfl rfl rfl ?_))
    refine W.app0 rfl rfl rfl rfl rfl rfl rfl (by omega) (by omega) (by omega) fun b cap h1 h2 => ?_
    (repeat (first | refine W.ctl rfl ?_ | refine W.op rfl rfl rfl rfl ?_ | refine W.skip rfl rfl ?_ | refine W.fld rfl rfl rfl rfl rfl ?_ | refine W.ld rfl rfl rfl rfl rfl ?_))
    refine W.len rfl rfl rfl rfl rfl ?_
    refine W.slt rfl rfl rfl rfl rfl rfl (by omega) (by omega) ?_
    (repeat (first | refine W.ctl rfl ?_ | refine W.op rfl rfl rfl rfl ?_ | refine W.skip rfl rfl ?_ | refine W.fld rfl rfl rfl rfl rfl ?_ | refine W.ld rfl rfl rfl rfl rfl ?_))
    refine W.ret1 (.inr rfl) rfl rfl _ ⟨some b, cap, rfl, rfl⟩ ?_
    have e := slck_mk (k := 1) (E := 35) (g := b) (n := 0) (cap := cap) (xs := []) (sp := List.replicate cap (Value.int IntKind.u64 0)) rfl (by omega) h2 (by simp)
    rw [List.nil_append] at e
    exact Imp.pack e Imp.all
  · refine W.no rfl rfl rfl rfl h ?_
    (repeat (first | refine W.ctl rfl ?_ | refine W.op rfl rfl rfl rfl ?_ | refine W.skip rfl rfl ?_ | refine W.fld rfl rfl rfl rfl rfl ?_ | refine W.ld rfl rfl rfl rfl rfl ?_))
    refine W.ret1 (.inr rfl) rfl rfl _ ⟨none, 0, rfl, rfl⟩ ?_
    rw [skv_nil]
    exact Imp.all
theorem grow_str (m : Nat) (hm : m ≤ 65536) : CS 181 [.slice none 0 0, int m] emp fun v H' => ∃ a cap, v = sv a 0 cap ∧ H' = slck 1 9 (sv a 0 cap) 0 [] := by
  refine CS.walk Tryz.func181 rfl Tryz.ntmps181 rfl fun c R => ?_
  (repeat (first | refine W.ctl rfl ?_ | refine W.op rfl rfl rfl rfl ?_ | refine W.skip rfl rfl ?_ | refine W.fld rfl rfl rfl rfl rfl ?_ | refine W.ld rfl rfl rfl rfl rfl ?_))
  refine W.no rfl rfl rfl rfl (by omega : ¬ (m : Int) < 0) ?_
  (repeat (first | refine W.ctl rfl ?_ | refine W.op rfl rfl rfl rfl ?_ | refine W.skip rfl rfl ?_ | refine W.fld rfl rfl rfl rfl rfl ?_ | refine W.ld rfl rfl rfl rfl rfl ?_))
  refine W.cap rfl rfl rfl rfl rfl ?_
  (repeat (first | refine W.ctl rfl ?_ | refine W.op rfl rfl rfl rfl ?_ | refine W.skip rfl rfl ?_ | refine W.fld rfl rfl rfl rfl rfl ?_ | refine W.ld rfl rfl rfl rfl rfl ?_))
  refine W.len rfl rfl rfl rfl rfl ?_
  refine W.ar (r := 0) rfl rfl rfl rfl rfl rfl rfl (wrap_i64 (by omega) (by omega)) ?_
  refine W.ar (r := (m : Int)) rfl rfl rfl rfl rfl rfl (congrArg some (by omega)) (wrap_i64 (by omega) (by omega)) ?_
  (repeat (first | refine W.ctl rfl ?_ | refine W.op rfl rfl rfl rfl ?_ | refine W.skip rfl rfl ?_ | refine W.fld rfl rfl rfl rfl rfl ?_ | refine W.ld rfl rfl rfl rfl rfl ?_))
  by_cases h : (0 : Int) < m
  · refine W.yes rfl rfl rfl rfl h ?_
    (repeat (first | refine W.ctl rfl ?_ | refine W.op rfl rfl rfl rfl ?_ | refine W.skip rfl rfl ?_ | refine W.fld rfl rfl rfl rfl rfl ?_ | refine W.ld rfl rfl rfl rfl rfl ?_))
    refine W.cap rfl rfl rfl rfl rfl ?_
    refine W.slt0 rfl rfl rfl rfl rfl rfl ?_
    (repeat (first | refine W.ctl rfl ?_ | refine W.op rfl rfl rfl rfl ?_ | refine W.skip rfl rfl ?_ | refine W.fld rfl rfl rfl rfl rfl ?_ | refine W.ld rfl rfl rfl rfl rfl ?_))
    refine W.app0 rfl rfl rfl rfl rfl rfl rfl (by omega) (by omega) (by omega) fun b cap h1 h2 => ?_
    (repeat (first | refine W.ctl rfl ?_ | refine W.op rfl rfl rfl rfl ?_ | refine W.skip rfl rfl ?_ | refine W.fld rfl rfl rfl rfl rfl ?_ | refine W.ld rfl rfl rfl rfl rfl ?_))
    refine W.len rfl rfl rfl rfl rfl ?_
    refine W.slt rfl rfl rfl rfl rfl rfl (by omega) (by omega) ?_
    (repeat (first | refine W.ctl rfl ?_ | refine W.op rfl rfl rfl rfl ?_ | refine W.skip rfl rfl ?_ | refine W.fld rfl rfl rfl rfl rfl ?_ | refine W.ld rfl rfl rfl rfl rfl ?_))
    refine W.ret1 (.inr rfl) rfl rfl _ ⟨some b, cap, rfl, rfl⟩ ?_
    have e := slck_mk (k := 1) (E := 9) (g := b) (n := 0) (cap := cap) (xs := []) (sp := List.replicate cap (Value.string { data := #[] })) rfl (by omega) h2 (by simp)
    rw [List.nil_append] at e
    exact Imp.pack e Imp.all
  · refine W.no rfl rfl rfl rfl h ?_
    (repeat (first | refine W.ctl rfl ?_ | refine W.op rfl rfl rfl rfl ?_ | refine W.skip rfl rfl ?_ | refine W.fld rfl rfl rfl rfl rfl ?_ | refine W.ld rfl rfl rfl rfl rfl ?_))
    refine W.ret1 (.inr rfl) rfl rfl _ ⟨none, 0, rfl, rfl⟩ ?_
    rw [skv_nil]
    exact Imp.all
theorem grow_int (m : Nat) (hm : m ≤ 65536) : CS 182 [.slice none 0 0, int m] emp fun v H' => ∃ a cap, v = sv a 0 cap ∧ H' = slck 1 3 (sv a 0 cap) 0 [] := by
  refine CS.walk Tryz.func182 rfl Tryz.ntmps182 rfl fun c R => ?_
  (repeat (first | refine W.ctl rfl ?_ | refine W.op rfl rfl rfl rfl ?_ | refine W.skip rfl rfl ?_ | refine W.fld rfl rfl rfl rfl rfl ?_ | refine W.ld rfl rfl rfl rfl rfl ?_))
  refine W.no rfl rfl rfl rfl (by omega : ¬ (m : Int) < 0) ?_
  (repeat (first | refine W.ctl rfl ?_ | refine W.op rfl rfl rfl rfl ?_ | refine W.skip rfl rfl ?_ | refine W.fld rfl rfl rfl rfl rfl ?_ | refine W.ld rfl rfl rfl rfl rfl ?_))
  refine W.cap rfl rfl rfl rfl rfl ?_
  (repeat (first | refine W.ctl rfl ?_ | refine W.op rfl rfl rfl rfl ?_ | refine W.skip rfl rfl ?_ | refine W.fld rfl rfl rfl rfl rfl ?_ | refine W.ld rfl rfl rfl rfl rfl ?_))
  refine W.len rfl rfl rfl rfl rfl ?_
  refine W.ar (r := 0) rfl rfl rfl rfl rfl rfl rfl (wrap_i64 (by omega) (by omega)) ?_
  refine W.ar (r := (m : Int)) rfl rfl rfl rfl rfl rfl (congrArg some (by omega)) (wrap_i64 (by omega) (by omega)) ?_
  (repeat (first | refine W.ctl rfl ?_ | refine W.op rfl rfl rfl rfl ?_ | refine W.skip rfl rfl ?_ | refine W.fld rfl rfl rfl rfl rfl ?_ | refine W.ld rfl rfl rfl rfl rfl ?_))
  by_cases h : (0 : Int) < m
  · refine W.yes rfl rfl rfl rfl h ?_
    (repeat (first | refine W.ctl rfl ?_ | refine W.op rfl rfl rfl rfl ?_ | refine W.skip rfl rfl ?_ | refine W.fld rfl rfl rfl rfl rfl ?_ | refine W.ld rfl rfl rfl rfl rfl ?_))
    refine W.cap rfl rfl rfl rfl rfl ?_
    refine W.slt0 rfl rfl rfl rfl rfl rfl ?_
    (repeat (first | refine W.ctl rfl ?_ | refine W.op rfl rfl rfl rfl ?_ | refine W.skip rfl rfl ?_ | refine W.fld rfl rfl rfl rfl rfl ?_ | refine W.ld rfl rfl rfl rfl rfl ?_))
    refine W.app0 rfl rfl rfl rfl rfl rfl rfl (by omega) (by omega) (by omega) fun b cap h1 h2 => ?_
    (repeat (first | refine W.ctl rfl ?_ | refine W.op rfl rfl rfl rfl ?_ | refine W.skip rfl rfl ?_ | refine W.fld rfl rfl rfl rfl rfl ?_ | refine W.ld rfl rfl rfl rfl rfl ?_))
    refine W.len rfl rfl rfl rfl rfl ?_
    refine W.slt rfl rfl rfl rfl rfl rfl (by omega) (by omega) ?_
    (repeat (first | refine W.ctl rfl ?_ | refine W.op rfl rfl rfl rfl ?_ | refine W.skip rfl rfl ?_ | refine W.fld rfl rfl rfl rfl rfl ?_ | refine W.ld rfl rfl rfl rfl rfl ?_))
    refine W.ret1 (.inr rfl) rfl rfl _ ⟨some b, cap, rfl, rfl⟩ ?_
    have e := slck_mk (k := 1) (E := 3) (g := b) (n := 0) (cap := cap) (xs := []) (sp := List.replicate cap (Value.int IntKind.i64 0)) rfl (by omega) h2 (by simp)
    rw [List.nil_append] at e
    exact Imp.pack e Imp.all
  · refine W.no rfl rfl rfl rfl h ?_
    (repeat (first | refine W.ctl rfl ?_ | refine W.op rfl rfl rfl rfl ?_ | refine W.skip rfl rfl ?_ | refine W.fld rfl rfl rfl rfl rfl ?_ | refine W.ld rfl rfl rfl rfl rfl ?_))
    refine W.ret1 (.inr rfl) rfl rfl _ ⟨none, 0, rfl, rfl⟩ ?_
    rw [skv_nil]
    exact Imp.all
/-- A part that is laid: where its elements can be read. -/
structure Part where
  p : Option (Nat × Nat)
  cap : Nat
  xs : List Value
abbrev Part.v (x : Part) : Value := .slice (x.p.map fun q => ⟨q.1, q.2, none⟩) x.xs.length x.cap
def Part.ok (F : HProp) (x : Part) : Prop := x.xs = [] ∨ ∃ b o, x.p = some (b, o) ∧ Reads F b o x.xs
theorem concat_u64 (F : HProp) (pb : Nat) (ps : List Part) (hp : ∀ x ∈ ps, x.ok F ∧ (∀ u ∈ x.xs, u.oneCell' = true) ∧ x.xs.length ≤ 8192) (hl : ps.length ≤ 4) :
    CS 151 [.slice (some ⟨pb, 0, none⟩) ps.length ps.length] (row pb 111 (ps.map Part.v) • F)
      fun v H' => ∃ a cap, v = sv a (ps.map Part.xs).flatten.length cap ∧ H' = (slck 1 35 (sv a (ps.map Part.xs).flatten.length cap) (ps.map Part.xs).flatten.length (ps.map Part.xs).flatten • F) := by
  refine CS.walk Tryz.func151 rfl Tryz.ntmps151 rfl fun c R => ?_
  (repeat (first | refine W.ctl rfl ?_ | refine W.op rfl rfl rfl rfl ?_ | refine W.skip rfl rfl ?_ | refine W.fld rfl rfl rfl rfl rfl ?_ | refine W.ld rfl rfl rfl rfl rfl ?_))
  refine W.len rfl rfl rfl rfl rfl ?_
  (repeat (first | refine W.ctl rfl ?_ | refine W.op rfl rfl rfl rfl ?_ | refine W.skip rfl rfl ?_ | refine W.fld rfl rfl rfl rfl rfl ?_ | refine W.ld rfl rfl rfl rfl rfl ?_))
  simp only [sep_assoc']
  have hstep : ∀ i (h : i < ps.length), ((ps.take (i + 1)).map Part.xs).flatten = ((ps.take i).map Part.xs).flatten ++ (ps[i]).xs := by
    intro i h
    rw [List.take_add_one, List.getElem?_eq_getElem h, Option.toList_some, List.map_append, List.flatten_append]
    simp only [List.map_cons, List.map_nil, List.flatten_cons, List.flatten_nil, List.append_nil]
  have hsum : ∀ i, i ≤ ps.length → (((ps.take i).map Part.xs).flatten).length ≤ i * 8192 := by
    intro i
    induction i with
    | zero => intro _; simp
    | succ i ih =>
      intro h
      have := ih (by omega)
      have h2 := (hp (ps[i]'(by omega)) (List.getElem_mem _)).2.2
      rw [hstep i (by omega), List.length_append]; omega
  refine W.loop (σ := Nat) (fun i => i ≤ ps.length) (fun i => [(0, .slice (some ⟨pb, 0, none⟩) ps.length ps.length), (9, .slice (some ⟨pb, 0, none⟩) ps.length ps.length), (3, int ((ps.take i).map Part.xs).flatten.length), (10, int ps.length), (11, int i)])
    (fun _ => row pb 111 (ps.map Part.v) • F • R) (fun i => ps.length - i) 0 (by omega) ⟨rfl, rfl, rfl, rfl, rfl, trivial⟩ Imp.all ?_
  intro i hi
  have s1 := hsum i hi
  (repeat (first | refine W.ctl rfl ?_ | refine W.op rfl rfl rfl rfl ?_ | refine W.skip rfl rfl ?_ | refine W.fld rfl rfl rfl rfl rfl ?_ | refine W.ld rfl rfl rfl rfl rfl ?_))
  by_cases h1 : (i : Int) < ps.length
  · refine W.yes rfl rfl rfl rfl h1 ?_
    have h1' : i < ps.length := by omega
    have s2 := hsum (i + 1) h1'
    have e := hstep i h1'
    have e' := congrArg List.length e
    rw [List.length_append] at e'
    (repeat (first | refine W.ctl rfl ?_ | refine W.op rfl rfl rfl rfl ?_ | refine W.skip rfl rfl ?_ | refine W.fld rfl rfl rfl rfl rfl ?_ | refine W.ld rfl rfl rfl rfl rfl ?_))
    refine W.idx rfl rfl rfl rfl rfl rfl (by omega) (by omega) ?_
    refine W.ldi (v := (ps[i]).v) rfl rfl rfl rfl rfl (by simp [h1']) ?_
    (repeat (first | refine W.ctl rfl ?_ | refine W.op rfl rfl rfl rfl ?_ | refine W.skip rfl rfl ?_ | refine W.fld rfl rfl rfl rfl rfl ?_ | refine W.ld rfl rfl rfl rfl rfl ?_))
    refine W.len rfl rfl rfl rfl rfl ?_
    refine W.ar (r := ((((ps.take (i + 1)).map Part.xs).flatten.length : Nat) : Int)) rfl rfl rfl rfl rfl rfl (congrArg some (by omega)) (wrap_i64 (by omega) (by omega)) ?_
    (repeat (first | refine W.ctl rfl ?_ | refine W.op rfl rfl rfl rfl ?_ | refine W.skip rfl rfl ?_ | refine W.fld rfl rfl rfl rfl rfl ?_ | refine W.ld rfl rfl rfl rfl rfl ?_))
    refine W.no rfl rfl rfl rfl (by omega : ¬ ((((ps.take (i + 1)).map Part.xs).flatten.length : Nat) : Int) < 0) ?_
    (repeat (first | refine W.ctl rfl ?_ | refine W.op rfl rfl rfl rfl ?_ | refine W.skip rfl rfl ?_ | refine W.fld rfl rfl rfl rfl rfl ?_ | refine W.ld rfl rfl rfl rfl rfl ?_))
    refine W.ar (r := ((i + 1 : Nat) : Int)) rfl rfl rfl rfl rfl rfl rfl (wrap_i64 (by omega) (by omega)) ?_
    (repeat (first | refine W.ctl rfl ?_ | refine W.op rfl rfl rfl rfl ?_ | refine W.skip rfl rfl ?_ | refine W.fld rfl rfl rfl rfl rfl ?_ | refine W.ld rfl rfl rfl rfl rfl ?_))
    exact W.again (i + 1) (by omega) (by omega) ⟨rfl, rfl, rfl, rfl, rfl, trivial⟩ Imp.all
  · refine W.no rfl rfl rfl rfl h1 ?_
    have hi' : i = ps.length := by omega
    subst hi'
    rw [List.take_length] at s1 ⊢
    (repeat (first | refine W.ctl rfl ?_ | refine W.op rfl rfl rfl rfl ?_ | refine W.skip rfl rfl ?_ | refine W.fld rfl rfl rfl rfl rfl ?_ | refine W.ld rfl rfl rfl rfl rfl ?_))
    refine W.call (grow_u64 (ps.map Part.xs).flatten.length (by omega)) rfl rfl rfl rfl Tryz.call180 ⟨rfl, rfl, trivial⟩ ?_
    rintro _ _ ⟨a0, c0, rfl, rfl⟩
    (repeat (first | refine W.ctl rfl ?_ | refine W.op rfl rfl rfl rfl ?_ | refine W.skip rfl rfl ?_ | refine W.fld rfl rfl rfl rfl rfl ?_ | refine W.ld rfl rfl rfl rfl rfl ?_))
    refine W.len rfl rfl rfl rfl rfl ?_
    (repeat (first | refine W.ctl rfl ?_ | refine W.op rfl rfl rfl rfl ?_ | refine W.skip rfl rfl ?_ | refine W.fld rfl rfl rfl rfl rfl ?_ | refine W.ld rfl rfl rfl rfl rfl ?_))
    refine W.loop (σ := Nat × Option Nat × Nat) (fun p => p.1 ≤ ps.length) (fun p => [(6, sv p.2.1 ((ps.take p.1).map Part.xs).flatten.length p.2.2), (25, .slice (some ⟨pb, 0, none⟩) ps.length ps.length), (26, int ps.length), (27, int p.1)])
      (fun p => slck 1 35 (sv p.2.1 ((ps.take p.1).map Part.xs).flatten.length p.2.2) ((ps.take p.1).map Part.xs).flatten.length ((ps.take p.1).map Part.xs).flatten • row pb 111 (ps.map Part.v) • F • R) (fun p => ps.length - p.1) (0, a0, c0) (by dsimp only; omega) ⟨rfl, rfl, rfl, rfl, trivial⟩ (by simp only [List.take_zero, List.map_nil, List.flatten_nil, List.length_nil]; exact Imp.all) ?_
    rintro ⟨i, a, cap⟩ hi
    dsimp only at hi ⊢
    have s1 := hsum i hi
    (repeat (first | refine W.ctl rfl ?_ | refine W.op rfl rfl rfl rfl ?_ | refine W.skip rfl rfl ?_ | refine W.fld rfl rfl rfl rfl rfl ?_ | refine W.ld rfl rfl rfl rfl rfl ?_))
    by_cases h1 : (i : Int) < ps.length
    · refine W.yes rfl rfl rfl rfl h1 ?_
      (repeat (first | refine W.ctl rfl ?_ | refine W.op rfl rfl rfl rfl ?_ | refine W.skip rfl rfl ?_ | refine W.fld rfl rfl rfl rfl rfl ?_ | refine W.ld rfl rfl rfl rfl rfl ?_))
      have h1' : i < ps.length := by omega
      have s2 := hsum (i + 1) h1'
      have e := hstep i h1'
      have e' := congrArg List.length e
      rw [List.length_append] at e'
      refine W.idx rfl rfl rfl rfl rfl rfl (by omega) (by omega) ?_
      refine W.ldi (v := (ps[i]).v) rfl rfl rfl rfl rfl (by simp [h1']) ?_
      (repeat (first | refine W.ctl rfl ?_ | refine W.op rfl rfl rfl rfl ?_ | refine W.skip rfl rfl ?_ | refine W.fld rfl rfl rfl rfl rfl ?_ | refine W.ld rfl rfl rfl rfl rfl ?_))
      obtain ⟨ok, one, len⟩ := hp ps[i] (List.getElem_mem _)
      obtain ⟨x, hx⟩ : ∃ x, ps[i] = x := ⟨_, rfl⟩
      rw [hx] at ok one len e e' ⊢
      obtain ⟨p, c2, xs⟩ := x
      rcases ok with hnil | ⟨b, o, hb, hr⟩
      · dsimp only at hnil
        subst hnil
        rw [List.append_nil] at e
        refine W.appk0 rfl rfl rfl rfl rfl rfl ?_
        (repeat (first | refine W.ctl rfl ?_ | refine W.op rfl rfl rfl rfl ?_ | refine W.skip rfl rfl ?_ | refine W.fld rfl rfl rfl rfl rfl ?_ | refine W.ld rfl rfl rfl rfl rfl ?_))
        refine W.ar (r := ((i + 1 : Nat) : Int)) rfl rfl rfl rfl rfl rfl rfl (wrap_i64 (by omega) (by omega)) ?_
        (repeat (first | refine W.ctl rfl ?_ | refine W.op rfl rfl rfl rfl ?_ | refine W.skip rfl rfl ?_ | refine W.fld rfl rfl rfl rfl rfl ?_ | refine W.ld rfl rfl rfl rfl rfl ?_))
        rw [← e]
        exact W.again (i + 1, a, cap) (by dsimp only; omega) (by dsimp only; omega) ⟨rfl, rfl, rfl, rfl, trivial⟩ Imp.all
      · dsimp only at hb hr one len e e'
        subst hb
        refine W.appr (kk := 1) (news := xs) (m := xs.length) (g := b) (off := o) (fun c w hs j u hu => hr c w (hs.imp Imp.all) j u hu) rfl rfl rfl rfl rfl rfl rfl rfl (by omega) one (by omega) (by omega) fun a' cap' => ?_
        (repeat (first | refine W.ctl rfl ?_ | refine W.op rfl rfl rfl rfl ?_ | refine W.skip rfl rfl ?_ | refine W.fld rfl rfl rfl rfl rfl ?_ | refine W.ld rfl rfl rfl rfl rfl ?_))
        refine W.ar (r := ((i + 1 : Nat) : Int)) rfl rfl rfl rfl rfl rfl rfl (wrap_i64 (by omega) (by omega)) ?_
        (repeat (first | refine W.ctl rfl ?_ | refine W.op rfl rfl rfl rfl ?_ | refine W.skip rfl rfl ?_ | refine W.fld rfl rfl rfl rfl rfl ?_ | refine W.ld rfl rfl rfl rfl rfl ?_))
        rw [← e, ← e']
        exact W.again (i + 1, a', cap') (by dsimp only; omega) (by dsimp only; omega) ⟨rfl, rfl, rfl, rfl, trivial⟩ Imp.all
    · refine W.no rfl rfl rfl rfl h1 ?_
      have hi' : i = ps.length := by omega
      subst hi'
      rw [List.take_length]
      (repeat (first | refine W.ctl rfl ?_ | refine W.op rfl rfl rfl rfl ?_ | refine W.skip rfl rfl ?_ | refine W.fld rfl rfl rfl rfl rfl ?_ | refine W.ld rfl rfl rfl rfl rfl ?_))
      exact W.ret1 (.inr rfl) rfl rfl _ ⟨a, cap, rfl, rfl⟩ Imp.all
theorem concat_str (F : HProp) (pb : Nat) (ps : List Part) (hp : ∀ x ∈ ps, x.ok F ∧ (∀ u ∈ x.xs, u.oneCell' = true) ∧ x.xs.length ≤ 8192) (hl : ps.length ≤ 4) :
    CS 152 [.slice (some ⟨pb, 0, none⟩) ps.length ps.length] (row pb 112 (ps.map Part.v) • F)
      fun v H' => ∃ a cap, v = sv a (ps.map Part.xs).flatten.length cap ∧ H' = (slck 1 9 (sv a (ps.map Part.xs).flatten.length cap) (ps.map Part.xs).flatten.length (ps.map Part.xs).flatten • F) := by
  refine CS.walk Tryz.func152 rfl Tryz.ntmps152 rfl fun c R => ?_
  (repeat (first | refine W.ctl rfl ?_ | refine W.op rfl rfl rfl rfl ?_ | refine W.skip rfl rfl ?_ | refine W.fld rfl rfl rfl rfl rfl ?_ | refine W.ld rfl rfl rfl rfl rfl ?_))
  refine W.len rfl rfl rfl rfl rfl ?_
  (repeat (first | refine W.ctl rfl ?_ | refine W.op rfl rfl rfl rfl ?_ | refine W.skip rfl rfl ?_ | refine W.fld rfl rfl rfl rfl rfl ?_ | refine W.ld rfl rfl rfl rfl rfl ?_))
  simp only [sep_assoc']
  have hstep : ∀ i (h : i < ps.length), ((ps.take (i + 1)).map Part.xs).flatten = ((ps.take i).map Part.xs).flatten ++ (ps[i]).xs := by
    intro i h
    rw [List.take_add_one, List.getElem?_eq_getElem h, Option.toList_some, List.map_append, List.flatten_append]
    simp only [List.map_cons, List.map_nil, List.flatten_cons, List.flatten_nil, List.append_nil]
  have hsum : ∀ i, i ≤ ps.length → (((ps.take i).map Part.xs).flatten).length ≤ i * 8192 := by
    intro i
    induction i with
    | zero => intro _; simp
    | succ i ih =>
      intro h
      have := ih (by omega)
      have h2 := (hp (ps[i]'(by omega)) (List.getElem_mem _)).2.2
      rw [hstep i (by omega), List.length_append]; omega
  refine W.loop (σ := Nat) (fun i => i ≤ ps.length) (fun i => [(0, .slice (some ⟨pb, 0, none⟩) ps.length ps.length), (9, .slice (some ⟨pb, 0, none⟩) ps.length ps.length), (3, int ((ps.take i).map Part.xs).flatten.length), (10, int ps.length), (11, int i)])
    (fun _ => row pb 112 (ps.map Part.v) • F • R) (fun i => ps.length - i) 0 (by omega) ⟨rfl, rfl, rfl, rfl, rfl, trivial⟩ Imp.all ?_
  intro i hi
  have s1 := hsum i hi
  (repeat (first | refine W.ctl rfl ?_ | refine W.op rfl rfl rfl rfl ?_ | refine W.skip rfl rfl ?_ | refine W.fld rfl rfl rfl rfl rfl ?_ | refine W.ld rfl rfl rfl rfl rfl ?_))
  by_cases h1 : (i : Int) < ps.length
  · refine W.yes rfl rfl rfl rfl h1 ?_
    have h1' : i < ps.length := by omega
    have s2 := hsum (i + 1) h1'
    have e := hstep i h1'
    have e' := congrArg List.length e
    rw [List.length_append] at e'
    (repeat (first | refine W.ctl rfl ?_ | refine W.op rfl rfl rfl rfl ?_ | refine W.skip rfl rfl ?_ | refine W.fld rfl rfl rfl rfl rfl ?_ | refine W.ld rfl rfl rfl rfl rfl ?_))
    refine W.idx rfl rfl rfl rfl rfl rfl (by omega) (by omega) ?_
    refine W.ldi (v := (ps[i]).v) rfl rfl rfl rfl rfl (by simp [h1']) ?_
    (repeat (first | refine W.ctl rfl ?_ | refine W.op rfl rfl rfl rfl ?_ | refine W.skip rfl rfl ?_ | refine W.fld rfl rfl rfl rfl rfl ?_ | refine W.ld rfl rfl rfl rfl rfl ?_))
    refine W.len rfl rfl rfl rfl rfl ?_
    refine W.ar (r := ((((ps.take (i + 1)).map Part.xs).flatten.length : Nat) : Int)) rfl rfl rfl rfl rfl rfl (congrArg some (by omega)) (wrap_i64 (by omega) (by omega)) ?_
    (repeat (first | refine W.ctl rfl ?_ | refine W.op rfl rfl rfl rfl ?_ | refine W.skip rfl rfl ?_ | refine W.fld rfl rfl rfl rfl rfl ?_ | refine W.ld rfl rfl rfl rfl rfl ?_))
    refine W.no rfl rfl rfl rfl (by omega : ¬ ((((ps.take (i + 1)).map Part.xs).flatten.length : Nat) : Int) < 0) ?_
    (repeat (first | refine W.ctl rfl ?_ | refine W.op rfl rfl rfl rfl ?_ | refine W.skip rfl rfl ?_ | refine W.fld rfl rfl rfl rfl rfl ?_ | refine W.ld rfl rfl rfl rfl rfl ?_))
    refine W.ar (r := ((i + 1 : Nat) : Int)) rfl rfl rfl rfl rfl rfl rfl (wrap_i64 (by omega) (by omega)) ?_
    (repeat (first | refine W.ctl rfl ?_ | refine W.op rfl rfl rfl rfl ?_ | refine W.skip rfl rfl ?_ | refine W.fld rfl rfl rfl rfl rfl ?_ | refine W.ld rfl rfl rfl rfl rfl ?_))
    exact W.again (i + 1) (by omega) (by omega) ⟨rfl, rfl, rfl, rfl, rfl, trivial⟩ Imp.all
  · refine W.no rfl rfl rfl rfl h1 ?_
    have hi' : i = ps.length := by omega
    subst hi'
    rw [List.take_length] at s1 ⊢
    (repeat (first | refine W.ctl rfl ?_ | refine W.op rfl rfl rfl rfl ?_ | refine W.skip rfl rfl ?_ | refine W.fld rfl rfl rfl rfl rfl ?_ | refine W.ld rfl rfl rfl rfl rfl ?_))
    refine W.call (grow_str (ps.map Part.xs).flatten.length (by omega)) rfl rfl rfl rfl Tryz.call181 ⟨rfl, rfl, trivial⟩ ?_
    rintro _ _ ⟨a0, c0, rfl, rfl⟩
    (repeat (first | refine W.ctl rfl ?_ | refine W.op rfl rfl rfl rfl ?_ | refine W.skip rfl rfl ?_ | refine W.fld rfl rfl rfl rfl rfl ?_ | refine W.ld rfl rfl rfl rfl rfl ?_))
    refine W.len rfl rfl rfl rfl rfl ?_
    (repeat (first | refine W.ctl rfl ?_ | refine W.op rfl rfl rfl rfl ?_ | refine W.skip rfl rfl ?_ | refine W.fld rfl rfl rfl rfl rfl ?_ | refine W.ld rfl rfl rfl rfl rfl ?_))
    refine W.loop (σ := Nat × Option Nat × Nat) (fun p => p.1 ≤ ps.length) (fun p => [(6, sv p.2.1 ((ps.take p.1).map Part.xs).flatten.length p.2.2), (25, .slice (some ⟨pb, 0, none⟩) ps.length ps.length), (26, int ps.length), (27, int p.1)])
      (fun p => slck 1 9 (sv p.2.1 ((ps.take p.1).map Part.xs).flatten.length p.2.2) ((ps.take p.1).map Part.xs).flatten.length ((ps.take p.1).map Part.xs).flatten • row pb 112 (ps.map Part.v) • F • R) (fun p => ps.length - p.1) (0, a0, c0) (by dsimp only; omega) ⟨rfl, rfl, rfl, rfl, trivial⟩ (by simp only [List.take_zero, List.map_nil, List.flatten_nil, List.length_nil]; exact Imp.all) ?_
    rintro ⟨i, a, cap⟩ hi
    dsimp only at hi ⊢
    have s1 := hsum i hi
    (repeat (first | refine W.ctl rfl ?_ | refine W.op rfl rfl rfl rfl ?_ | refine W.skip rfl rfl ?_ | refine W.fld rfl rfl rfl rfl rfl ?_ | refine W.ld rfl rfl rfl rfl rfl ?_))
    by_cases h1 : (i : Int) < ps.length
    · refine W.yes rfl rfl rfl rfl h1 ?_
      (repeat (first | refine W.ctl rfl ?_ | refine W.op rfl rfl rfl rfl ?_ | refine W.skip rfl rfl ?_ | refine W.fld rfl rfl rfl rfl rfl ?_ | refine W.ld rfl rfl rfl rfl rfl ?_))
      have h1' : i < ps.length := by omega
      have s2 := hsum (i + 1) h1'
      have e := hstep i h1'
      have e' := congrArg List.length e
      rw [List.length_append] at e'
      refine W.idx rfl rfl rfl rfl rfl rfl (by omega) (by omega) ?_
      refine W.ldi (v := (ps[i]).v) rfl rfl rfl rfl rfl (by simp [h1']) ?_
      (repeat (first | refine W.ctl rfl ?_ | refine W.op rfl rfl rfl rfl ?_ | refine W.skip rfl rfl ?_ | refine W.fld rfl rfl rfl rfl rfl ?_ | refine W.ld rfl rfl rfl rfl rfl ?_))
      obtain ⟨ok, one, len⟩ := hp ps[i] (List.getElem_mem _)
      obtain ⟨x, hx⟩ : ∃ x, ps[i] = x := ⟨_, rfl⟩
      rw [hx] at ok one len e e' ⊢
      obtain ⟨p, c2, xs⟩ := x
      rcases ok with hnil | ⟨b, o, hb, hr⟩
      · dsimp only at hnil
        subst hnil
        rw [List.append_nil] at e
        refine W.appk0 rfl rfl rfl rfl rfl rfl ?_
        (repeat (first | refine W.ctl rfl ?_ | refine W.op rfl rfl rfl rfl ?_ | refine W.skip rfl rfl ?_ | refine W.fld rfl rfl rfl rfl rfl ?_ | refine W.ld rfl rfl rfl rfl rfl ?_))
        refine W.ar (r := ((i + 1 : Nat) : Int)) rfl rfl rfl rfl rfl rfl rfl (wrap_i64 (by omega) (by omega)) ?_
        (repeat (first | refine W.ctl rfl ?_ | refine W.op rfl rfl rfl rfl ?_ | refine W.skip rfl rfl ?_ | refine W.fld rfl rfl rfl rfl rfl ?_ | refine W.ld rfl rfl rfl rfl rfl ?_))
        rw [← e]
        exact W.again (i + 1, a, cap) (by dsimp only; omega) (by dsimp only; omega) ⟨rfl, rfl, rfl, rfl, trivial⟩ Imp.all
      · dsimp only at hb hr one len e e'
        subst hb
        refine W.appr (kk := 1) (news := xs) (m := xs.length) (g := b) (off := o) (fun c w hs j u hu => hr c w (hs.imp Imp.all) j u hu) rfl rfl rfl rfl rfl rfl rfl rfl (by omega) one (by omega) (by omega) fun a' cap' => ?_
        (repeat (first | refine W.ctl rfl ?_ | refine W.op rfl rfl rfl rfl ?_ | refine W.skip rfl rfl ?_ | refine W.fld rfl rfl rfl rfl rfl ?_ | refine W.ld rfl rfl rfl rfl rfl ?_))
        refine W.ar (r := ((i + 1 : Nat) : Int)) rfl rfl rfl rfl rfl rfl rfl (wrap_i64 (by omega) (by omega)) ?_
        (repeat (first | refine W.ctl rfl ?_ | refine W.op rfl rfl rfl rfl ?_ | refine W.skip rfl rfl ?_ | refine W.fld rfl rfl rfl rfl rfl ?_ | refine W.ld rfl rfl rfl rfl rfl ?_))
        rw [← e, ← e']
        exact W.again (i + 1, a', cap') (by dsimp only; omega) (by dsimp only; omega) ⟨rfl, rfl, rfl, rfl, trivial⟩ Imp.all
    · refine W.no rfl rfl rfl rfl h1 ?_
      have hi' : i = ps.length := by omega
      subst hi'
      rw [List.take_length]
      (repeat (first | refine W.ctl rfl ?_ | refine W.op rfl rfl rfl rfl ?_ | refine W.skip rfl rfl ?_ | refine W.fld rfl rfl rfl rfl rfl ?_ | refine W.ld rfl rfl rfl rfl rfl ?_))
      exact W.ret1 (.inr rfl) rfl rfl _ ⟨a, cap, rfl, rfl⟩ Imp.all
theorem concat_int (F : HProp) (pb : Nat) (ps : List Part) (hp : ∀ x ∈ ps, x.ok F ∧ (∀ u ∈ x.xs, u.oneCell' = true) ∧ x.xs.length ≤ 8192) (hl : ps.length ≤ 4) :
    CS 153 [.slice (some ⟨pb, 0, none⟩) ps.length ps.length] (row pb 22 (ps.map Part.v) • F)
      fun v H' => ∃ a cap, v = sv a (ps.map Part.xs).flatten.length cap ∧ H' = (slck 1 3 (sv a (ps.map Part.xs).flatten.length cap) (ps.map Part.xs).flatten.length (ps.map Part.xs).flatten • F) := by
  refine CS.walk Tryz.func153 rfl Tryz.ntmps153 rfl fun c R => ?_
  (repeat (first | refine W.ctl rfl ?_ | refine W.op rfl rfl rfl rfl ?_ | refine W.skip rfl rfl ?_ | refine W.fld rfl rfl rfl rfl rfl ?_ | refine W.ld rfl rfl rfl rfl rfl ?_))
  refine W.len rfl rfl rfl rfl rfl ?_
  (repeat (first | refine W.ctl rfl ?_ | refine W.op rfl rfl rfl rfl ?_ | refine W.skip rfl rfl ?_ | refine W.fld rfl rfl rfl rfl rfl ?_ | refine W.ld rfl rfl rfl rfl rfl ?_))
  simp only [sep_assoc']
  have hstep : ∀ i (h : i < ps.length), ((ps.take (i + 1)).map Part.xs).flatten = ((ps.take i).map Part.xs).flatten ++ (ps[i]).xs := by
    intro i h
    rw [List.take_add_one, List.getElem?_eq_getElem h, Option.toList_some, List.map_append, List.flatten_append]
    simp only [List.map_cons, List.map_nil, List.flatten_cons, List.flatten_nil, List.append_nil]
  have hsum : ∀ i, i ≤ ps.length → (((ps.take i).map Part.xs).flatten).length ≤ i * 8192 := by
    intro i
    induction i with
    | zero => intro _; simp
    | succ i ih =>
      intro h
      have := ih (by omega)
      have h2 := (hp (ps[i]'(by omega)) (List.getElem_mem _)).2.2
      rw [hstep i (by omega), List.length_append]; omega
  refine W.loop (σ := Nat) (fun i => i ≤ ps.length) (fun i => [(0, .slice (some ⟨pb, 0, none⟩) ps.length ps.length), (9, .slice (some ⟨pb, 0, none⟩) ps.length ps.length), (3, int ((ps.take i).map Part.xs).flatten.length), (10, int ps.length), (11, int i)])
    (fun _ => row pb 22 (ps.map Part.v) • F • R) (fun i => ps.length - i) 0 (by omega) ⟨rfl, rfl, rfl, rfl, rfl, trivial⟩ Imp.all ?_
  intro i hi
  have s1 := hsum i hi
  (repeat (first | refine W.ctl rfl ?_ | refine W.op rfl rfl rfl rfl ?_ | refine W.skip rfl rfl ?_ | refine W.fld rfl rfl rfl rfl rfl ?_ | refine W.ld rfl rfl rfl rfl rfl ?_))
  by_cases h1 : (i : Int) < ps.length
  · refine W.yes rfl rfl rfl rfl h1 ?_
    have h1' : i < ps.length := by omega
    have s2 := hsum (i + 1) h1'
    have e := hstep i h1'
    have e' := congrArg List.length e
    rw [List.length_append] at e'
    (repeat (first | refine W.ctl rfl ?_ | refine W.op rfl rfl rfl rfl ?_ | refine W.skip rfl rfl ?_ | refine W.fld rfl rfl rfl rfl rfl ?_ | refine W.ld rfl rfl rfl rfl rfl ?_))
    refine W.idx rfl rfl rfl rfl rfl rfl (by omega) (by omega) ?_
    refine W.ldi (v := (ps[i]).v) rfl rfl rfl rfl rfl (by simp [h1']) ?_
    (repeat (first | refine W.ctl rfl ?_ | refine W.op rfl rfl rfl rfl ?_ | refine W.skip rfl rfl ?_ | refine W.fld rfl rfl rfl rfl rfl ?_ | refine W.ld rfl rfl rfl rfl rfl ?_))
    refine W.len rfl rfl rfl rfl rfl ?_
    refine W.ar (r := ((((ps.take (i + 1)).map Part.xs).flatten.length : Nat) : Int)) rfl rfl rfl rfl rfl rfl (congrArg some (by omega)) (wrap_i64 (by omega) (by omega)) ?_
    (repeat (first | refine W.ctl rfl ?_ | refine W.op rfl rfl rfl rfl ?_ | refine W.skip rfl rfl ?_ | refine W.fld rfl rfl rfl rfl rfl ?_ | refine W.ld rfl rfl rfl rfl rfl ?_))
    refine W.no rfl rfl rfl rfl (by omega : ¬ ((((ps.take (i + 1)).map Part.xs).flatten.length : Nat) : Int) < 0) ?_
    (repeat (first | refine W.ctl rfl ?_ | refine W.op rfl rfl rfl rfl ?_ | refine W.skip rfl rfl ?_ | refine W.fld rfl rfl rfl rfl rfl ?_ | refine W.ld rfl rfl rfl rfl rfl ?_))
    refine W.ar (r := ((i + 1 : Nat) : Int)) rfl rfl rfl rfl rfl rfl rfl (wrap_i64 (by omega) (by omega)) ?_
    (repeat (first | refine W.ctl rfl ?_ | refine W.op rfl rfl rfl rfl ?_ | refine W.skip rfl rfl ?_ | refine W.fld rfl rfl rfl rfl rfl ?_ | refine W.ld rfl rfl rfl rfl rfl ?_))
    exact W.again (i + 1) (by omega) (by omega) ⟨rfl, rfl, rfl, rfl, rfl, trivial⟩ Imp.all
  · refine W.no rfl rfl rfl rfl h1 ?_
    have hi' : i = ps.length := by omega
    subst hi'
    rw [List.take_length] at s1 ⊢
    (repeat (first | refine W.ctl rfl ?_ | refine W.op rfl rfl rfl rfl ?_ | refine W.skip rfl rfl ?_ | refine W.fld rfl rfl rfl rfl rfl ?_ | refine W.ld rfl rfl rfl rfl rfl ?_))
    refine W.call (grow_int (ps.map Part.xs).flatten.length (by omega)) rfl rfl rfl rfl Tryz.call182 ⟨rfl, rfl, trivial⟩ ?_
    rintro _ _ ⟨a0, c0, rfl, rfl⟩
    (repeat (first | refine W.ctl rfl ?_ | refine W.op rfl rfl rfl rfl ?_ | refine W.skip rfl rfl ?_ | refine W.fld rfl rfl rfl rfl rfl ?_ | refine W.ld rfl rfl rfl rfl rfl ?_))
    refine W.len rfl rfl rfl rfl rfl ?_
    (repeat (first | refine W.ctl rfl ?_ | refine W.op rfl rfl rfl rfl ?_ | refine W.skip rfl rfl ?_ | refine W.fld rfl rfl rfl rfl rfl ?_ | refine W.ld rfl rfl rfl rfl rfl ?_))
    refine W.loop (σ := Nat × Option Nat × Nat) (fun p => p.1 ≤ ps.length) (fun p => [(6, sv p.2.1 ((ps.take p.1).map Part.xs).flatten.length p.2.2), (25, .slice (some ⟨pb, 0, none⟩) ps.length ps.length), (26, int ps.length), (27, int p.1)])
      (fun p => slck 1 3 (sv p.2.1 ((ps.take p.1).map Part.xs).flatten.length p.2.2) ((ps.take p.1).map Part.xs).flatten.length ((ps.take p.1).map Part.xs).flatten • row pb 22 (ps.map Part.v) • F • R) (fun p => ps.length - p.1) (0, a0, c0) (by dsimp only; omega) ⟨rfl, rfl, rfl, rfl, trivial⟩ (by simp only [List.take_zero, List.map_nil, List.flatten_nil, List.length_nil]; exact Imp.all) ?_
    rintro ⟨i, a, cap⟩ hi
    dsimp only at hi ⊢
    have s1 := hsum i hi
    (repeat (first | refine W.ctl rfl ?_ | refine W.op rfl rfl rfl rfl ?_ | refine W.skip rfl rfl ?_ | refine W.fld rfl rfl rfl rfl rfl ?_ | refine W.ld rfl rfl rfl rfl rfl ?_))
    by_cases h1 : (i : Int) < ps.length
    · refine W.yes rfl rfl rfl rfl h1 ?_
      (repeat (first | refine W.ctl rfl ?_ | refine W.op rfl rfl rfl rfl ?_ | refine W.skip rfl rfl ?_ | refine W.fld rfl rfl rfl rfl rfl ?_ | refine W.ld rfl rfl rfl rfl rfl ?_))
      have h1' : i < ps.length := by omega
      have s2 := hsum (i + 1) h1'
      have e := hstep i h1'
      have e' := congrArg List.length e
      rw [List.length_append] at e'
      refine W.idx rfl rfl rfl rfl rfl rfl (by omega) (by omega) ?_
      refine W.ldi (v := (ps[i]).v) rfl rfl rfl rfl rfl (by simp [h1']) ?_
      (repeat (first | refine W.ctl rfl ?_ | refine W.op rfl rfl rfl rfl ?_ | refine W.skip rfl rfl ?_ | refine W.fld rfl rfl rfl rfl rfl ?_ | refine W.ld rfl rfl rfl rfl rfl ?_))
      obtain ⟨ok, one, len⟩ := hp ps[i] (List.getElem_mem _)
      obtain ⟨x, hx⟩ : ∃ x, ps[i] = x := ⟨_, rfl⟩
      rw [hx] at ok one len e e' ⊢
      obtain ⟨p, c2, xs⟩ := x
      rcases ok with hnil | ⟨b, o, hb, hr⟩
      · dsimp only at hnil
        subst hnil
        rw [List.append_nil] at e
        refine W.appk0 rfl rfl rfl rfl rfl rfl ?_
        (repeat (first | refine W.ctl rfl ?_ | refine W.op rfl rfl rfl rfl ?_ | refine W.skip rfl rfl ?_ | refine W.fld rfl rfl rfl rfl rfl ?_ | refine W.ld rfl rfl rfl rfl rfl ?_))
        refine W.ar (r := ((i + 1 : Nat) : Int)) rfl rfl rfl rfl rfl rfl rfl (wrap_i64 (by omega) (by omega)) ?_
        (repeat (first | refine W.ctl rfl ?_ | refine W.op rfl rfl rfl rfl ?_ | refine W.skip rfl rfl ?_ | refine W.fld rfl rfl rfl rfl rfl ?_ | refine W.ld rfl rfl rfl rfl rfl ?_))
        rw [← e]
        exact W.again (i + 1, a, cap) (by dsimp only; omega) (by dsimp only; omega) ⟨rfl, rfl, rfl, rfl, trivial⟩ Imp.all
      · dsimp only at hb hr one len e e'
        subst hb
        refine W.appr (kk := 1) (news := xs) (m := xs.length) (g := b) (off := o) (fun c w hs j u hu => hr c w (hs.imp Imp.all) j u hu) rfl rfl rfl rfl rfl rfl rfl rfl (by omega) one (by omega) (by omega) fun a' cap' => ?_
        (repeat (first | refine W.ctl rfl ?_ | refine W.op rfl rfl rfl rfl ?_ | refine W.skip rfl rfl ?_ | refine W.fld rfl rfl rfl rfl rfl ?_ | refine W.ld rfl rfl rfl rfl rfl ?_))
        refine W.ar (r := ((i + 1 : Nat) : Int)) rfl rfl rfl rfl rfl rfl rfl (wrap_i64 (by omega) (by omega)) ?_
        (repeat (first | refine W.ctl rfl ?_ | refine W.op rfl rfl rfl rfl ?_ | refine W.skip rfl rfl ?_ | refine W.fld rfl rfl rfl rfl rfl ?_ | refine W.ld rfl rfl rfl rfl rfl ?_))
        rw [← e, ← e']
        exact W.again (i + 1, a', cap') (by dsimp only; omega) (by dsimp only; omega) ⟨rfl, rfl, rfl, rfl, trivial⟩ Imp.all
    · refine W.no rfl rfl rfl rfl h1 ?_
      have hi' : i = ps.length := by omega
      subst hi'
      rw [List.take_length]
      (repeat (first | refine W.ctl rfl ?_ | refine W.op rfl rfl rfl rfl ?_ | refine W.skip rfl rfl ?_ | refine W.fld rfl rfl rfl rfl rfl ?_ | refine W.ld rfl rfl rfl rfl rfl ?_))
      exact W.ret1 (.inr rfl) rfl rfl _ ⟨a, cap, rfl, rfl⟩ Imp.all
end Go.Proofs.YtbdhhedfplkidaaGreat
/- The plain model, third part: a node written; nodes changed. -/
namespace Go.Proofs.YtbdhhedfplkidaaGreat.M
/-! node: its text -/
def encK (k : Nat) (v : Str) : Str := be 8 k ++ (UInt8.ofNat v.length :: v)
def encB (k : Nat) (d : Int) : Str := be 8 k ++ be 2 d.toNat
def encBody (n : Node) : Str :=
  if n.leaf then 1 :: (List.zipWith encK n.keys n.vals).flatten else 2 :: (be 2 (n.kids.headD 0).toNat ++ (List.zipWith encB n.keys n.kids.tail).flatten)
def encode (n : Node) : Str × Int := if right n = false then ([], 1) else (encBody n, 0)
/-! node: changed -/
def laid {α : Type} (l : List α) (at' gone : Int) (more : List α) : List α := l.take (min at' l.length).toNat ++ more ++ l.drop (min (min at' l.length + gone) l.length).toNat
def nput (n : Node) (key : Nat) (value : Str) : Node :=
  if n.leaf = false then n else
  let p := place n.keys key
  let gone := if p.2 then 1 else 0
  ⟨true, laid n.keys p.1 gone [key], laid n.vals p.1 gone [value], []⟩
def nwithout (n : Node) (i : Int) : Node :=
  if n.leaf = false ∨ i < 0 ∨ i ≥ n.keys.length then n else ⟨true, laid n.keys i 1 [], laid n.vals i 1 [], []⟩
def nhang (n : Node) (i : Int) (key : Nat) (kid : Int) : Node :=
  if n.leaf = true ∨ i < 0 ∨ i > n.keys.length then n else ⟨false, laid n.keys i 0 [key], [], laid n.kids (i + 1) 0 [kid]⟩
def nunhang (n : Node) (i : Int) : Node :=
  if n.leaf = true ∨ i < 0 ∨ i ≥ n.keys.length then n else ⟨false, laid n.keys i 1 [], [], laid n.kids (i + 1) 1 []⟩
def nfront (n : Node) (k : Nat) : Node :=
  if n.leaf then ⟨true, n.keys.take k, n.vals.take k, []⟩ else ⟨false, n.keys.take k, [], n.kids.take (k + 1)⟩
def nback (n : Node) (k : Nat) : Node :=
  if n.leaf then ⟨true, n.keys.drop k, n.vals.drop k, []⟩ else ⟨false, n.keys.drop (k + 1), [], n.kids.drop (k + 1)⟩
/-- Where a node is split: the first place from k on, and below k + f, at which the front is half of it. -/
def splitAt (n : Node) : Nat → Nat → Nat
  | 0, k => k
  | f + 1, k => if nsize (nfront n k) < nsize n / 2 then splitAt n f (k + 1) else k
def nsplit (n : Node) : Node × Nat × Node × Bool :=
  let most : Int := n.keys.length - 1 - (if n.leaf then 0 else 1)
  if most < 1 then (Node.zero, 0, Node.zero, false) else
  let k := splitAt n (most - 1).toNat 1
  (nfront n k, n.keys.getD k 0, nback n k, true)
def nboth (a : Node) (mid : Nat) (b : Node) : Node :=
  ⟨a.leaf, if a.leaf then a.keys ++ b.keys else a.keys ++ [mid] ++ b.keys, a.vals ++ b.vals, a.kids ++ b.kids⟩
end Go.Proofs.YtbdhhedfplkidaaGreat.M
/-
  DERIVED: THE SHELF's CONTRACTS AT THIS DUMP, IN PLAIN WORDS (tools/lay-plain.mjs out of 'TryzShelf.lean', which tools/lay-shelf.mjs wrote): THE SAME DECLARATIONS UNDER THE SAME NAMES: 'import', 'namespace', 'open', 'def', 'theorem' AND NOTHING ELSE: no command of the shelf's: FOR A HAND-IN. Each laying: the table of numbers ('.._ren') and one theorem, a field a fact of the dump's own or the kernel's comparison; each contract: ONE APPLICATION.
-/
namespace Go.Proofs
open Go.Shelf
def Tryz.lays135_ren : Go.Shelf.Ren := ⟨fun | 135 => 126 | n => n, fun | 5 => 5 | 3 => 3 | 9 => 9 | n => n, fun | n => n⟩
theorem Tryz.lays135 : Go.Proofs.Lays.n135 Tryz.prog Tryz.lays135_ren := {
  mixed := by kernel_rfl
  f135 := Tryz.func126.trans (congrArg some (by kernel_rfl))
  t3 := Tryz.underlying3
  a3 := Tryz.isAgg3
  z3 := Tryz.sizeOf3
  v3 := Tryz.zeroValue3
  t5 := Tryz.underlying5
  a5 := Tryz.isAgg5
  z5 := Tryz.sizeOf5
  v5 := Tryz.zeroValue5
  t9 := Tryz.underlying9
  a9 := Tryz.isAgg9
  z9 := Tryz.sizeOf9
  v9 := Tryz.zeroValue9 }
/-- bits.OnesCount8: "OnesCount8 returns the number of one bits ("population count") in x.": IT RETURNS 'Lib.onesCount x'; the world is as it was. ('h0', 'h1': x is a uint8.) (LAID: no walk: one application.) -/
theorem Tryz.bits_OnesCount8 (x : Int) (w : World) (h0 : 0 ≤ x) (h1 : x ≤ 255) :
    Calls Tryz.prog 126 #[.int .u8 x] w fun e w' => e = .returned (.int .i64 (Lib.onesCount x.toNat)) ∧ w' = w := Any.bits_OnesCount8 Tryz.lays135 x w h0 h1
def Tryz.lays189_ren : Go.Shelf.Ren := ⟨fun | 189 => 135 | 125 => 167 | 257 => 166 | 128 => 198 | 129 => 199 | 294 => 189 | 295 => 190 | 296 => 191 | 297 => 192 | 298 => 193 | 299 => 194 | 216 => 195 | 300 => 196 | 301 => 197 | 328 => 206 | 329 => 207 | 330 => 208 | 331 => 209 | 332 => 210 | 215 => 211 | 343 => 214 | n => n, fun | 28 => 22 | 3 => 3 | 46 => 184 | 0 => 0 | 51 => 59 | 53 => 35 | 4 => 4 | 183 => 299 | 182 => 298 | 131 => 154 | 5 => 5 | 9 => 9 | 218 => 312 | 222 => 316 | 228 => 320 | 229 => 321 | n => n, fun | n => n⟩
theorem Tryz.lays189 : Go.Proofs.Lays.n189 Tryz.prog Tryz.lays189_ren := {
  mixed := by kernel_rfl
  f125 := Tryz.func167.trans (congrArg some (by kernel_rfl))
  f128 := Tryz.func198.trans (congrArg some (by kernel_rfl))
  f129 := Tryz.func199.trans (congrArg some (by kernel_rfl))
  f189 := Tryz.func135.trans (congrArg some (by kernel_rfl))
  f215 := Tryz.func211.trans (congrArg some (by kernel_rfl))
  f216 := Tryz.func195.trans (congrArg some (by kernel_rfl))
  f257 := Tryz.func166.trans (congrArg some (by kernel_rfl))
  f294 := Tryz.func189.trans (congrArg some (by kernel_rfl))
  f295 := Tryz.func190.trans (congrArg some (by kernel_rfl))
  f296 := Tryz.func191.trans (congrArg some (by kernel_rfl))
  f297 := Tryz.func192.trans (congrArg some (by kernel_rfl))
  f298 := Tryz.func193.trans (congrArg some (by kernel_rfl))
  f299 := Tryz.func194.trans (congrArg some (by kernel_rfl))
  f300 := Tryz.func196.trans (congrArg some (by kernel_rfl))
  f301 := Tryz.func197.trans (congrArg some (by kernel_rfl))
  f328 := Tryz.func206.trans (congrArg some (by kernel_rfl))
  f329 := Tryz.func207.trans (congrArg some (by kernel_rfl))
  f330 := Tryz.func208.trans (congrArg some (by kernel_rfl))
  f331 := Tryz.func209.trans (congrArg some (by kernel_rfl))
  f332 := Tryz.func210.trans (congrArg some (by kernel_rfl))
  f343 := Tryz.func214.trans (congrArg some (by kernel_rfl))
  t0 := Tryz.underlying0
  a0 := Tryz.isAgg0
  z0 := Tryz.sizeOf0
  v0 := Tryz.zeroValue0
  t3 := Tryz.underlying3
  a3 := Tryz.isAgg3
  z3 := Tryz.sizeOf3
  v3 := Tryz.zeroValue3
  t4 := Tryz.underlying4
  a4 := Tryz.isAgg4
  z4 := Tryz.sizeOf4
  v4 := Tryz.zeroValue4
  t5 := Tryz.underlying5
  a5 := Tryz.isAgg5
  z5 := Tryz.sizeOf5
  v5 := Tryz.zeroValue5
  t9 := Tryz.underlying9
  a9 := Tryz.isAgg9
  z9 := Tryz.sizeOf9
  v9 := Tryz.zeroValue9
  t28 := Tryz.underlying22
  a28 := Tryz.isAgg22
  z28 := Tryz.sizeOf22
  v28 := Tryz.zeroValue22
  t46 := Tryz.underlying184
  a46 := Tryz.isAgg184
  z46 := Tryz.sizeOf184
  v46 := Tryz.zeroValue184
  t51 := Tryz.underlying59
  a51 := Tryz.isAgg59
  z51 := Tryz.sizeOf59
  v51 := Tryz.zeroValue59
  t53 := Tryz.underlying35
  a53 := Tryz.isAgg35
  z53 := Tryz.sizeOf35
  v53 := Tryz.zeroValue35
  t131 := Tryz.underlying154
  a131 := Tryz.isAgg154
  z131 := Tryz.sizeOf154
  v131 := Tryz.zeroValue154
  t182 := Tryz.underlying298
  a182 := Tryz.isAgg298
  z182 := Tryz.sizeOf298
  v182 := Tryz.zeroValue298
  t183 := Tryz.underlying299
  a183 := Tryz.isAgg299
  z183 := Tryz.sizeOf299
  v183 := Tryz.zeroValue299
  t218 := Tryz.underlying312
  a218 := Tryz.isAgg312
  z218 := Tryz.sizeOf312
  v218 := Tryz.zeroValue312
  t222 := Tryz.underlying316
  a222 := Tryz.isAgg316
  z222 := Tryz.sizeOf316
  v222 := Tryz.zeroValue316
  t228 := Tryz.underlying320
  a228 := Tryz.isAgg320
  z228 := Tryz.sizeOf320
  v228 := Tryz.zeroValue320
  t229 := Tryz.underlying321
  a229 := Tryz.isAgg321
  z229 := Tryz.sizeOf321
  v229 := Tryz.zeroValue321 }
open Go.Sort Go.RowKit in
theorem Tryz.slices_Sort_int (blk off cap : Nat) (zs : List Int) (w : World) (hH : Holds (Value.int .i64) w blk off zs.toArray) (hblk : blk < w.heap.size) (hsz : zs.length < 4611686018427387904) :
    Calls Tryz.prog 135 #[.slice (some ⟨blk, off, none⟩) zs.length cap] w fun e w' =>
      e = .returned (.tuple #[]) ∧ ∃ n os, w' = grow (putRow (Value.int .i64) (Sort.ahead w n) blk off (zs.mergeSort fun x y => decide (x ≤ y)).toArray) os := Any.slices_Sort_int Tryz.lays189 blk off cap zs w hH hblk hsz
def Tryz.lays212_ren : Go.Shelf.Ren := ⟨fun | 212 => 139 | 263 => 170 | 264 => 171 | n => n, fun | 46 => 184 | 51 => 59 | 146 => 266 | 53 => 35 | 148 => 268 | n => n, fun | n => n⟩
theorem Tryz.lays212 : Go.Proofs.Lays.n212 Tryz.prog Tryz.lays212_ren := {
  mixed := by kernel_rfl
  f212 := Tryz.func139.trans (congrArg some (by kernel_rfl))
  f263 := Tryz.func170.trans (congrArg some (by kernel_rfl))
  f264 := Tryz.func171.trans (congrArg some (by kernel_rfl))
  t46 := Tryz.underlying184
  a46 := Tryz.isAgg184
  z46 := Tryz.sizeOf184
  v46 := Tryz.zeroValue184
  t51 := Tryz.underlying59
  a51 := Tryz.isAgg59
  z51 := Tryz.sizeOf59
  v51 := Tryz.zeroValue59
  t53 := Tryz.underlying35
  a53 := Tryz.isAgg35
  z53 := Tryz.sizeOf35
  v53 := Tryz.zeroValue35
  t146 := Tryz.underlying266
  a146 := Tryz.isAgg266
  z146 := Tryz.sizeOf266
  v146 := Tryz.zeroValue266
  t148 := Tryz.underlying268
  a148 := Tryz.isAgg268
  z148 := Tryz.sizeOf268
  v148 := Tryz.zeroValue268 }
open Go.RowKit Go.Lib in
/-- math/bits.Mul: "Mul returns the full-width product of x and y": on a machine of 64 bits: Mul64's. (LAID: no walk: one application.) -/
theorem Tryz.bits_Mul (x y : Nat) (hx : x < 18446744073709551616) (hy : y < 18446744073709551616) (w : World) :
    Calls Tryz.prog 139 #[.int .u64 x, .int .u64 y] w fun e w' => e = .returned (.tuple #[.int .u64 ((x * y / 18446744073709551616 : Nat) : Int), .int .u64 ((x * y % 18446744073709551616 : Nat) : Int)]) ∧ w' = w := Any.bits_Mul Tryz.lays212 x y hx hy w
def Tryz.lays105_ren : Go.Shelf.Ren := ⟨fun | 105 => 100 | 212 => 139 | 99 => 140 | 165 => 141 | 166 => 142 | 170 => 143 | 169 => 144 | 263 => 170 | 264 => 171 | 206 => 172 | 240 => 173 | 241 => 174 | 276 => 200 | 277 => 201 | n => n, fun | 9 => 9 | 3 => 3 | 4 => 4 | 20 => 20 | 0 => 0 | 46 => 184 | 109 => 225 | 5 => 5 | 72 => 230 | 76 => 234 | 51 => 59 | 146 => 266 | 53 => 35 | 148 => 268 | 70 => 228 | 37 => 67 | 75 => 233 | 127 => 270 | 164 => 306 | 80 => 190 | n => n, fun | n => n⟩
theorem Tryz.lays105 : Go.Proofs.Lays.n105 Tryz.prog Tryz.lays105_ren := {
  mixed := by kernel_rfl
  f99 := Tryz.func140.trans (congrArg some (by kernel_rfl))
  f105 := Tryz.func100.trans (congrArg some (by kernel_rfl))
  f165 := Tryz.func141.trans (congrArg some (by kernel_rfl))
  f166 := Tryz.func142.trans (congrArg some (by kernel_rfl))
  f169 := Tryz.func144.trans (congrArg some (by kernel_rfl))
  f170 := Tryz.func143.trans (congrArg some (by kernel_rfl))
  f206 := Tryz.func172.trans (congrArg some (by kernel_rfl))
  f212 := Tryz.func139.trans (congrArg some (by kernel_rfl))
  f240 := Tryz.func173.trans (congrArg some (by kernel_rfl))
  f241 := Tryz.func174.trans (congrArg some (by kernel_rfl))
  f263 := Tryz.func170.trans (congrArg some (by kernel_rfl))
  f264 := Tryz.func171.trans (congrArg some (by kernel_rfl))
  f276 := Tryz.func200.trans (congrArg some (by kernel_rfl))
  f277 := Tryz.func201.trans (congrArg some (by kernel_rfl))
  t0 := Tryz.underlying0
  a0 := Tryz.isAgg0
  z0 := Tryz.sizeOf0
  v0 := Tryz.zeroValue0
  t3 := Tryz.underlying3
  a3 := Tryz.isAgg3
  z3 := Tryz.sizeOf3
  v3 := Tryz.zeroValue3
  t4 := Tryz.underlying4
  a4 := Tryz.isAgg4
  z4 := Tryz.sizeOf4
  v4 := Tryz.zeroValue4
  t5 := Tryz.underlying5
  a5 := Tryz.isAgg5
  z5 := Tryz.sizeOf5
  v5 := Tryz.zeroValue5
  t9 := Tryz.underlying9
  a9 := Tryz.isAgg9
  z9 := Tryz.sizeOf9
  v9 := Tryz.zeroValue9
  t20 := Tryz.underlying20
  a20 := Tryz.isAgg20
  z20 := Tryz.sizeOf20
  v20 := Tryz.zeroValue20
  t37 := Tryz.underlying67
  a37 := Tryz.isAgg67
  z37 := Tryz.sizeOf67
  v37 := Tryz.zeroValue67
  t46 := Tryz.underlying184
  a46 := Tryz.isAgg184
  z46 := Tryz.sizeOf184
  v46 := Tryz.zeroValue184
  t51 := Tryz.underlying59
  a51 := Tryz.isAgg59
  z51 := Tryz.sizeOf59
  v51 := Tryz.zeroValue59
  t53 := Tryz.underlying35
  a53 := Tryz.isAgg35
  z53 := Tryz.sizeOf35
  v53 := Tryz.zeroValue35
  t70 := Tryz.underlying228
  a70 := Tryz.isAgg228
  z70 := Tryz.sizeOf228
  v70 := Tryz.zeroValue228
  t72 := Tryz.underlying230
  a72 := Tryz.isAgg230
  z72 := Tryz.sizeOf230
  v72 := Tryz.zeroValue230
  t75 := Tryz.underlying233
  a75 := Tryz.isAgg233
  z75 := Tryz.sizeOf233
  v75 := Tryz.zeroValue233
  t76 := Tryz.underlying234
  a76 := Tryz.isAgg234
  z76 := Tryz.sizeOf234
  v76 := Tryz.zeroValue234
  t109 := Tryz.underlying225
  a109 := Tryz.isAgg225
  z109 := Tryz.sizeOf225
  v109 := Tryz.zeroValue225
  t127 := Tryz.underlying270
  a127 := Tryz.isAgg270
  z127 := Tryz.sizeOf270
  v127 := Tryz.zeroValue270
  t146 := Tryz.underlying266
  a146 := Tryz.isAgg266
  z146 := Tryz.sizeOf266
  v146 := Tryz.zeroValue266
  t148 := Tryz.underlying268
  a148 := Tryz.isAgg268
  z148 := Tryz.sizeOf268
  v148 := Tryz.zeroValue268
  t164 := Tryz.underlying306
  a164 := Tryz.isAgg306
  z164 := Tryz.sizeOf306
  v164 := Tryz.zeroValue306 }
theorem Tryz.Builder_Extra_105 : Builder.Extra Tryz.prog Tryz.lays105_ren := {
  sizeBuilder := by kernel_rfl
  liesBuilder := by kernel_rfl
  t5 := Tryz.underlying5
  a5 := Tryz.isAgg5
  z5 := Tryz.sizeOf5
  v5 := Tryz.zeroValue5
  infoByte := by kernel_rfl
  cellsByte := by kernel_rfl
  sizeByte := by kernel_rfl
  neB5 := by decide }
open Go.RowKit Go.Lib in
/-- **strings.Repeat: count ≥ 0, the result within one allocation: count copies of s.** (LAID: no walk: one application.) -/
theorem Tryz.strings_Repeat (s : ByteArray) (c : Nat) (w : World) (hc : c ≤ 9223372036854775807) (hlen : s.size * c ≤ 140737488355328) :
    Calls Tryz.prog 100 #[.string s, .int .i64 c] w fun e w' => e = .returned (.string ⟨(Lib.repeatL s.data.toList c).toArray⟩) ∧ Below w.heap.size w w' := Any.strings_Repeat Tryz.lays105 Tryz.Builder_Extra_105 s c w hc hlen
open Go.RowKit Go.Sort in
/-- .. and plain. (LAID: no walk: one application.) -/
theorem Tryz.slices_Sort_int_none (p : Option Addr) (cap : Nat) (w : World) :
    Calls Tryz.prog 135 #[.slice p 0 cap] w fun e w' => e = .returned (.tuple #[]) ∧ w' = w := Any.slices_Sort_int_none Tryz.lays189 p cap w
end Go.Proofs
/- Rules for what package strings does: bytes appended off a text, unsafe.String; owned slices opened. -/
namespace Go.Proofs.YtbdhhedfplkidaaGreat
open Go
open M (Str)
theorem sep_emp' (P : HProp) : (P • emp) = P := by rw [sep_comm', emp_sep]
theorem SL.drop {c w w' : World} {R : HProp} {b : Nat} {o : Obj} (h : SL c (pt b o • R) w) (ho : w'.os = w.os) (ht : w'.tape = w.tape) (hu : w'.output = w.output)
    (hk : ∀ k, k ≠ b → k < w.heap.size → w'.heap[k]? = w.heap[k]?) : SL c R w' := by
  obtain ⟨hp, ⟨h1, h2, d, e, p, q⟩, s⟩ := h.heap
  refine ⟨ho.trans h.os, ht.trans h.tape, hu.trans h.output, h2, q, fun k x hx => ?_⟩
  have hne : k ≠ b := by
    rintro rfl
    rcases d k with y | y
    · rw [p k] at y; simp at y
    · rw [y] at hx; cases hx
  have h0 := s k x (by rw [e k, hx]; rcases d k with y | y <;> simp_all)
  rw [hk k hne (Array.getElem?_eq_some_iff.1 h0).1]; exact h0
theorem SL.frz {c w : World} {R : HProp} {b : Nat} {o : Obj} (h : SL c (pt b o • R) w) (i n : Nat) : SL c R (w.freeze ⟨b, i, none⟩ n) := by
  unfold World.freeze
  split
  · exact h.drop rfl rfl rfl fun _ _ _ => rfl
  · exact h.drop rfl rfl rfl fun k hk _ => by simp [Array.getElem?_modify, Ne.symm hk]
theorem strCells_str (u : Str) : Lib.strCells ⟨u.toArray⟩ = u.map u8 := by
  simp [Lib.strCells]
/-- What append of a text's bytes hands back lies where the slice lay, or in a new block. -/
theorem append_block_str {w w' : World} (t t' ty e : TypeId) (i : TypeInfo) (ht : Pg.underlying t = some (.slice e)) (hu : Pg.underlying t' = some .string) (hi : Pg.info? e = some i) (hz : i.zero = some (.int .u8 0))
    (hsize : i.size = 1) (hby : i.bytes = 1) (v v' : Value) (n : Nat) (xs : List Value) (hown : w.ownsRow 0 e 1 v n xs) (s : ByteArray)
    (h63 : n + s.size ≤ maxLen) (hbytes : n + s.size ≤ 140737488355328) (hr1 : (Builtin.append_ #[t, t'] ty #[v, .string s]).run Pg w = .ok v' w') (b : Nat) (hb : v'.ownBlock = some b) : v.ownBlock = some b ∨ w.heap.size ≤ b := by
  rcases hown.2 with ⟨rfl, rfl⟩ | ⟨g, cap, cur, rfl, hbg, hg, hnc, hcm, hcs, htake⟩
  · have hown' : w.ownsRow w.heap.size e 1 (.slice none 0 0) 0 xs := ⟨hown.1, .inl ⟨rfl, rfl⟩⟩
    obtain ⟨v2, w2, r1, r2, _, _⟩ := Lib.run_append_own_string (P := Pg) w w.heap.size t t' ty e i ht hu hi hz hsize hby (.slice none 0 0) 0 xs hown' s h63 hbytes (Nat.le_refl _)
    rw [hr1] at r1
    injection r1 with e1 e2
    subst e1
    exact .inr (r2.lt b hb).1
  · by_cases hroom : n + s.size ≤ cap
    · have hr := Lib.run_append_room_string (P := Pg) w t t' ty e i ht hu hi hsize g n cap cur hg s hroom (by rw [hcs]; omega)
      rw [hr1] at hr
      injection hr with e1 e2
      subst e1
      exact .inl hb
    · have holds : ∀ j u, xs[j]? = some u → w.cell? ((⟨g, 0, none⟩ : Addr).add j) = some u := hown.cells (g := g) rfl
      have hsmall : n + s.size ≤ 9223372036854775807 := by simp only [maxLen] at h63; omega
      have hr := Lib.run_append_grow_string (P := Pg) w t t' ty e i (.int .u8 0) ht hu hi hz ⟨g, 0, none⟩ n cap xs (by rw [hsize]; exact hown.1) holds s (by omega) (by omega) (by rw [hby]; exact growslice_fits (by omega) (by omega))
      rw [hr1] at hr
      injection hr with e1 e2
      subst e1
      simp [Value.ownBlock] at hb
      exact .inr (by omega)
section
variable {c : World} {Q : Exit → Act → World → Prop} {n : Nat} {l : List (Nat × Value)} {H R : HProp} {ks : List Kn}
variable {q q1 q2 : Md} {all : Array Oper} {o : Oper} {rest : List Oper} {d : Nat} {v : Value}
/-- append of a text's bytes to a slice of one's own -/
theorem W.apps [NX q1 q2] {t t' e : TypeId} {x y : Operand} {i : TypeInfo} {a : Option Nat} {cap n' : Nat} {xs : List Value} {u : Str}
    (hg : o.guard = none) (hd : o.dst = some d) (hn : Nat.blt d n = true) (ho : o.op = .call { callee := .builtin .append, args := #[x, y], argTypes := #[t, t'] }) [ht : TD t (.slice e)] [hu : TD t' .string] [tb : TB e i (.int .u8 0) 1 1]
    (hx : ev l x = some (sv a n' cap)) (hy : ev l y = some (str u)) [hp : Sk H a e 1 n' cap xs R] (h2 : n' + u.length ≤ 140737488355328)
    (k : ∀ a' cap', WS c Q n (.ops q2 all rest ks) ((d, sv a' (n' + u.length) cap') :: l) (slck 1 e (sv a' (n' + u.length) cap') (n' + u.length) (xs ++ u.map u8) • R)) : WS c Q n (.ops q1 all (o :: rest) ks) l H := by
  refine W.valw (σ := Option Nat × Nat) (val := fun p => sv p.1 (n' + u.length) p.2) (K := fun p => slck 1 e (sv p.1 (n' + u.length) p.2) (n' + u.length) (xs ++ u.map u8) • R) hg hd hn (fun ac w hf hs' => ?_) (fun p => k p.1 p.2)
  have hsz : (⟨u.toArray⟩ : ByteArray).size = u.length := by simp [ByteArray.size]
  have h3 : n' + (⟨u.toArray⟩ : ByteArray).size ≤ maxLen := by rw [hsz]; simp only [maxLen]; omega
  rw [hp.eq] at hs'
  obtain ⟨v', w', r1, r2, r3, r4⟩ := Lib.run_append_own_string (P := Pg) w 0 t t' o.type e i ht.eq hu.eq tb.eq tb.zero tb.size tb.bytes (sv a n' cap) n' xs hs'.owns ⟨u.toArray⟩ h3 (by rw [hsz]; exact h2) (Nat.zero_le _)
  have h5 := append_block_str t t' o.type e i ht.eq hu.eq tb.eq tb.zero tb.size tb.bytes (sv a n' cap) v' n' xs hs'.owns ⟨u.toArray⟩ h3 (by rw [hsz]; exact h2) r1
  rw [hsz, strCells_str] at r2
  obtain ⟨a', cap', rfl⟩ := owns_sv r2
  refine ⟨(a', cap'), w', ?_, hs'.grown r2 r3 h5⟩
  simp [execOp, ho, resolve, hf.eval hx, hf.eval hy, invoke, builtin, str, r1]
/-- p == nil -/
theorem W.peq [hNL : NL q1 q2] {t e t' : TypeId} {x y : Operand} {p : Option Addr} (hg : o.guard = none) (hd : o.dst = some d) (hn : Nat.blt d n = true) (ho : o.op = .binOp .eql t x y t') [ht : TD t (.pointer e)]
    (hx : ev l x = some (.pointer p)) (hy : ev l y = some (.pointer none)) (k : WS c Q n (.ops q2 all rest ks) ((d, .bool p.isNone) :: l) H) : WS c Q n (.ops q1 all (o :: rest) ks) l H := by
  refine W.val hg hd hn (fun a w hf _ => ?_) k
  have h1 : Pg.underlying t = some (.pointer (Pg.pointee t)) := by rw [ht.eq]; simp [Program.pointee, ht.eq]
  have h2 := run_eql_pointer_nil (P := Pg) w t p h1
  simp [execOp, ho, hf.eval hx, hf.eval hy, h2, eqGuard]
/-- unsafe.SliceData -/
theorem W.uss [hNL : NL q1 q2] {ts : Array TypeId} {x : Operand} {g m cap : Nat} (hg : o.guard = none) (hd : o.dst = some d) (hn : Nat.blt d n = true) (ho : o.op = .call { callee := .builtin .unsafeSliceData, args := #[x], argTypes := ts })
    (hx : ev l x = some (.slice (some ⟨g, 0, none⟩) m cap)) (hc : cap ≠ 0) (k : WS c Q n (.ops q2 all rest ks) ((d, .pointer (some ⟨g, 0, none⟩)) :: l) H) : WS c Q n (.ops q1 all (o :: rest) ks) l H := by
  refine W.val hg hd hn (fun a w hf _ => ?_) k
  have h2 := Lib.run_unsafeSliceData_row (P := Pg) w ts o.type ⟨g, 0, none⟩ m cap hc
  simp [execOp, ho, resolve, hf.eval hx, invoke, builtin, h2]
/-- unsafe.String of a row's first bytes; the row is given up -/
theorem W.ust [NX q1 q2] {pt it e : TypeId} {x y : Operand} {g : Nat} {u : Str} {sp : List Value} (hg : o.guard = none) (hd : o.dst = some d) (hn : Nat.blt d n = true) (ho : o.op = .call { callee := .builtin .unsafeString, args := #[x, y], argTypes := #[pt, it] })
    [ht : TD pt (.pointer e)] (hc : Pg.cellsOf e = 1) (hx : ev l x = some (.pointer (some ⟨g, 0, none⟩))) (hy : ev l y = some (.int .i64 u.length)) [hr : Rw H g e (u.map u8 ++ sp) R] (h0 : u ≠ []) (h1 : u.length ≤ 9223372036854775807)
    (k : WS c Q n (.ops q2 all rest ks) ((d, str u) :: l) R) : WS c Q n (.ops q1 all (o :: rest) ks) l H := by
  refine W.valw (σ := Unit) (val := fun _ => str u) (K := fun _ => R) hg hd hn (fun ac w hf hs => ?_) (fun _ => k)
  rw [hr.eq] at hs
  have hg := hs.get
  have hsh : w.shape? g = some (e, (u.map u8 ++ sp).length) := by simp [World.shape?, hg]
  have h2 := Lib.run_unsafeString_row (P := Pg) w pt it o.type e ht.eq hc g _ hsh u h0 (by simp) h1 (fun j x hj => by
    rw [add_none, hs.rcell, Nat.zero_add, List.getElem?_append_left (by simpa using (List.getElem?_eq_some_iff.1 hj).1)]
    simp [hj, u8])
  refine ⟨(), _, ?_, hs.frz 0 u.length⟩
  simp [execOp, ho, resolve, hf.eval hx, hf.eval hy, invoke, builtin, h2, str]
/-- An owned slice that is not empty is opened. -/
theorem W.skE {s : Ctl} (a : Option Nat) (E : TypeId) {kk m cap : Nat} {xs : List Value} [hk : Sk H a E kk m cap xs R] (hq : loud s = true) (h : 0 < m)
    (k : ∀ g sp, a = some g → m ≤ cap → cap ≤ maxLen → (xs ++ sp).length = cap * kk → xs.length = m * kk → WS c Q n s l (row g E (xs ++ sp) • R)) : WS c Q n s l H := by
  intro ac w hf hs
  rw [hk.eq] at hs
  obtain ⟨h0, h1, h2, h3⟩ := hs.skv
  rcases h3 with ⟨_, hz, _⟩ | ⟨g, sp, ha, h4, h5⟩
  · omega
  · exact (sem_loud hq).1 (k g sp ha h1 h2 h4 h0 ac w hf h5)
end
end Go.Proofs.YtbdhhedfplkidaaGreat
/- A text that is built; a node's text. -/
namespace Go.Proofs.YtbdhhedfplkidaaGreat
open Go
open M (Str)
set_option maxHeartbeats 400000
set_option maxRecDepth 2000
/-- A builder that holds these bytes. -/
abbrev BdB (b : Nat) (bs : Str) (x : Bool × Option Nat × Nat) (R : HProp) : HProp := row b 230 [.pointer (if x.1 then some ⟨b, 0, none⟩ else none), sv x.2.1 bs.length x.2.2] • slck 1 5 (sv x.2.1 bs.length x.2.2) bs.length (bs.map u8) • R
def Bd (b : Nat) (bs : Str) : HProp := ex fun x => pr True • BdB b bs x emp
theorem Bd.opn (b : Nat) (bs : Str) (R : HProp) : Imp (Bd b bs • R) (ex fun x => pr True • BdB b bs x R) :=
  Imp.opn' fun x => by simp only [BdB, sep_assoc', emp_sep]
theorem Bd.mk {b : Nat} {bs : Str} (x : Bool × Option Nat × Nat) : Imp (BdB b bs x emp) (Bd b bs) := Imp.mk (B := fun x => BdB b bs x emp) (φ := fun _ => True) x trivial
theorem bd_lays : Lays.n240 Tryz.prog Tryz.lays105_ren := { Tryz.lays105 with }
theorem bd_used (b : Nat) (w : World) (h0 : w.cell? ⟨b, 0, none⟩ = some (.pointer (some ⟨b, 0, none⟩))) :
    Calls Tryz.prog 173 #[.pointer (some ⟨b, 0, none⟩)] w fun e w' => e = .returned (.tuple #[]) ∧ w' = w := Any.Builder_copyCheck_used bd_lays Tryz.Builder_Extra_105.toX72 b w h0
theorem bd_fresh (b : Nat) (w : World) (h0 : w.cell? ⟨b, 0, none⟩ = some (.pointer none)) (hsh : w.shape? b = some (230, 2)) (hfz : w.frozen? ⟨b, 0, none⟩ = false) :
    Calls Tryz.prog 173 #[.pointer (some ⟨b, 0, none⟩)] w fun e w' => e = .returned (.tuple #[]) ∧ w' = w.setCell ⟨b, 0, none⟩ (.pointer (some ⟨b, 0, none⟩)) := Any.Builder_copyCheck_fresh bd_lays Tryz.Builder_Extra_105.toX72 b w h0 hsh hfz
theorem bd_copyCheck (b : Nat) (u : Bool) (v : Value) : CS 173 [ptr b] (row b 230 [.pointer (if u then some ⟨b, 0, none⟩ else none), v])
    fun r H' => r = .tuple #[] ∧ H' = row b 230 [ptr b, v] := by
  intro c R w hs
  cases u with
  | true =>
    refine (bd_used b w (hs.rcell 0)).mono ?_
    rintro e w' ⟨rfl, rfl⟩
    exact ⟨_, _, ⟨rfl, rfl⟩, rfl, hs⟩
  | false =>
    have hsh : w.shape? b = some (230, 2) := by have := hs.get; simp [World.shape?, this]
    refine (bd_fresh b w (hs.rcell 0) hsh (hs.rfrozen 0)).mono ?_
    rintro e w' ⟨rfl, rfl⟩
    exact ⟨_, _, ⟨rfl, rfl⟩, rfl, hs.rset 0 (ptr b)⟩
theorem bd_WriteString (b : Nat) (bs s : Str) (h : bs.length + s.length ≤ 140737488355328) : CS 142 [ptr b, str s] (Bd b bs)
    fun r H' => r = .tuple #[int s.length, .nilIface] ∧ H' = Bd b (bs ++ s) := by
  refine CS.walk Tryz.func142 rfl Tryz.ntmps142 rfl fun c R => ?_
  refine W.open (Bd.opn b bs) rfl ?_
  rintro ⟨u, a, cap⟩ _
  (repeat (first | refine W.ctl rfl ?_ | refine W.op rfl rfl rfl rfl ?_ | refine W.skip rfl rfl ?_ | refine W.fld rfl rfl rfl rfl rfl ?_ | refine W.ld rfl rfl rfl rfl rfl ?_))
  refine W.call (bd_copyCheck b u (sv a bs.length cap)) rfl rfl rfl rfl Tryz.call173 ⟨rfl, trivial⟩ ?_
  rintro _ _ ⟨rfl, rfl⟩
  (repeat (first | refine W.ctl rfl ?_ | refine W.op rfl rfl rfl rfl ?_ | refine W.skip rfl rfl ?_ | refine W.fld rfl rfl rfl rfl rfl ?_ | refine W.ld rfl rfl rfl rfl rfl ?_))
  refine W.apps (u := s) rfl rfl rfl rfl rfl rfl h fun a' cap' => ?_
  (repeat (first | refine W.ctl rfl ?_ | refine W.op rfl rfl rfl rfl ?_ | refine W.skip rfl rfl ?_ | refine W.fld rfl rfl rfl rfl rfl ?_ | refine W.ld rfl rfl rfl rfl rfl ?_))
  refine W.st rfl rfl rfl rfl rfl ?_
  (repeat (first | refine W.ctl rfl ?_ | refine W.op rfl rfl rfl rfl ?_ | refine W.skip rfl rfl ?_ | refine W.fld rfl rfl rfl rfl rfl ?_ | refine W.ld rfl rfl rfl rfl rfl ?_))
  refine W.slen rfl rfl rfl rfl rfl ?_
  (repeat (first | refine W.ctl rfl ?_ | refine W.op rfl rfl rfl rfl ?_ | refine W.skip rfl rfl ?_ | refine W.fld rfl rfl rfl rfl rfl ?_ | refine W.ld rfl rfl rfl rfl rfl ?_))
  have e := Bd.mk (b := b) (bs := bs ++ s) (true, a', cap')
  simp only [BdB, List.length_append, List.map_append, if_true, sep_emp'] at e
  exact W.ret2 (.inr rfl) rfl rfl rfl _ ⟨rfl, rfl⟩ (Imp.pack e Imp.all)
theorem bd_WriteByte (b : Nat) (bs : Str) (x : UInt8) (h : bs.length + 1 ≤ 140737488355328) : CS 178 [ptr b, u8 x] (Bd b bs)
    fun r H' => r = .nilIface ∧ H' = Bd b (bs ++ [x]) := by
  refine CS.walk Tryz.func178 rfl Tryz.ntmps178 rfl fun c R => ?_
  refine W.open (Bd.opn b bs) rfl ?_
  rintro ⟨u, a, cap⟩ _
  (repeat (first | refine W.ctl rfl ?_ | refine W.op rfl rfl rfl rfl ?_ | refine W.skip rfl rfl ?_ | refine W.fld rfl rfl rfl rfl rfl ?_ | refine W.ld rfl rfl rfl rfl rfl ?_))
  refine W.call (bd_copyCheck b u (sv a bs.length cap)) rfl rfl rfl rfl Tryz.call173 ⟨rfl, trivial⟩ ?_
  rintro _ _ ⟨rfl, rfl⟩
  (repeat (first | refine W.ctl rfl ?_ | refine W.op rfl rfl rfl rfl ?_ | refine W.skip rfl rfl ?_ | refine W.fld rfl rfl rfl rfl rfl ?_ | refine W.ld rfl rfl rfl rfl rfl ?_))
  refine W.bsl (vs := [_]) rfl rfl rfl rfl ⟨rfl, rfl, trivial⟩ rfl rfl rfl fun g => ?_
  refine W.appk (kk := 1) (news := [u8 x]) rfl rfl rfl rfl rfl rfl rfl rfl rfl (by omega) (by omega) fun a' cap' => ?_
  (repeat (first | refine W.ctl rfl ?_ | refine W.op rfl rfl rfl rfl ?_ | refine W.skip rfl rfl ?_ | refine W.fld rfl rfl rfl rfl rfl ?_ | refine W.ld rfl rfl rfl rfl rfl ?_))
  refine W.st rfl rfl rfl rfl rfl ?_
  (repeat (first | refine W.ctl rfl ?_ | refine W.op rfl rfl rfl rfl ?_ | refine W.skip rfl rfl ?_ | refine W.fld rfl rfl rfl rfl rfl ?_ | refine W.ld rfl rfl rfl rfl rfl ?_))
  have e := Bd.mk (b := b) (bs := bs ++ [x]) (true, a', cap')
  simp only [BdB, List.length_append, List.map_append, List.length_singleton, List.map_cons, List.map_nil, if_true, sep_emp'] at e
  exact W.ret1 (.inr rfl) rfl rfl _ ⟨rfl, rfl⟩ (Imp.pack e Imp.all)
theorem bd_String (b : Nat) (bs : Str) (h : bs.length < 140737488355328) (h0 : bs ≠ []) : CS 144 [ptr b] (Bd b bs)
    fun r H' => r = str bs ∧ H' = emp := by
  refine CS.walk Tryz.func144 rfl Tryz.ntmps144 rfl fun c R => ?_
  refine W.open (Bd.opn b bs) rfl ?_
  rintro ⟨u, a, cap⟩ _
  have hl := List.length_pos_iff.2 h0
  refine W.skE (m := bs.length) a 5 rfl hl ?_
  rintro g sp rfl h1 h2 h3 h4
  (repeat (first | refine W.ctl rfl ?_ | refine W.op rfl rfl rfl rfl ?_ | refine W.skip rfl rfl ?_ | refine W.fld rfl rfl rfl rfl rfl ?_ | refine W.ld rfl rfl rfl rfl rfl ?_))
  refine W.anyq (f := 2) (fun j => !Nat.beq j 10 && !Nat.beq j 11) [0, 1, 2, 3, 4, 5, 6, 7, 8, 9] (by kernel_rfl) (by kernel_rfl) (by kernel_rfl) (by kernel_rfl) rfl ?_
  (repeat (first | refine W.ctl rfl ?_ | refine W.op rfl rfl rfl rfl ?_ | refine W.skip rfl rfl ?_ | refine W.fld rfl rfl rfl rfl rfl ?_ | refine W.ld rfl rfl rfl rfl rfl ?_))
  refine W.uss rfl rfl rfl rfl rfl (by omega) ?_
  (repeat (first | refine W.ctl rfl ?_ | refine W.op rfl rfl rfl rfl ?_ | refine W.skip rfl rfl ?_ | refine W.fld rfl rfl rfl rfl rfl ?_ | refine W.ld rfl rfl rfl rfl rfl ?_))
  refine W.len rfl rfl rfl rfl rfl ?_
  refine W.tdn ?_
  refine W.ald1 10 (by kernel_rfl) rfl ?_
  refine W.ust (u := bs) rfl rfl rfl rfl (by kernel_rfl) rfl rfl h0 (by omega) ?_
  refine W.afb ?_
  refine W.ald1 11 (by kernel_rfl) rfl ?_
  (repeat (first | refine W.ctl rfl ?_ | refine W.op rfl rfl rfl rfl ?_ | refine W.skip rfl rfl ?_ | refine W.fld rfl rfl rfl rfl rfl ?_ | refine W.ld rfl rfl rfl rfl rfl ?_))
  refine W.afb (W.adn (by kernel_rfl) ?_)
  (repeat (first | refine W.ctl rfl ?_ | refine W.op rfl rfl rfl rfl ?_ | refine W.skip rfl rfl ?_ | refine W.fld rfl rfl rfl rfl rfl ?_ | refine W.ld rfl rfl rfl rfl rfl ?_))
  exact W.ret1 (.inr rfl) rfl rfl _ ⟨rfl, rfl⟩ Imp.all
theorem enc_number (b : Nat) (bs : Str) (k : Nat) (size : Int) (h : bs.length < 1000000) (hk : k < 18446744073709551616) (hs0 : 0 ≤ size) (hs1 : size ≤ 8) : CS 177 [u64 k, int size, ptr b] (Bd b bs)
    fun r H' => r = .tuple #[] ∧ H' = Bd b (bs ++ (M.put k size).1) := by
  refine CS.walk Tryz.func177 rfl Tryz.ntmps177 rfl fun c R => ?_
  (repeat (first | refine W.ctl rfl ?_ | refine W.op rfl rfl rfl rfl ?_ | refine W.skip rfl rfl ?_ | refine W.fld rfl rfl rfl rfl rfl ?_ | refine W.ld rfl rfl rfl rfl rfl ?_))
  refine W.call (num_Put k size hk (by omega) (by omega)) rfl rfl rfl rfl Tryz.call54 ⟨rfl, rfl, trivial⟩ ?_
  rintro _ _ ⟨rfl, rfl⟩
  (repeat (first | refine W.ctl rfl ?_ | refine W.op rfl rfl rfl rfl ?_ | refine W.skip rfl rfl ?_ | refine W.fld rfl rfl rfl rfl rfl ?_ | refine W.ld rfl rfl rfl rfl rfl ?_))
  have hl : (M.put k size).1.length ≤ 8 := by
    unfold M.put
    split
    · rename_i h; simp [M.be_length]; omega
    · simp
  refine W.call (bd_WriteString b bs (M.put k size).1 (by omega)) rfl rfl rfl rfl Tryz.call142 ⟨rfl, rfl, trivial⟩ ?_
  rintro _ _ ⟨rfl, rfl⟩
  (repeat (first | refine W.ctl rfl ?_ | refine W.op rfl rfl rfl rfl ?_ | refine W.skip rfl rfl ?_ | refine W.fld rfl rfl rfl rfl rfl ?_ | refine W.ld rfl rfl rfl rfl rfl ?_))
  exact W.ret0 (.inl rfl) rfl _ ⟨rfl, rfl⟩ Imp.all
/-- The keys are numbers of 64 bits. -/
def KB (N : M.Node) : Prop := ∀ k ∈ N.keys, k < 18446744073709551616
theorem put_lit {s k : Nat} (hs : 1 ≤ s) (hs8 : s ≤ 8) (hk : k < 256 ^ s) : (M.put k (s : Int)).1 = M.be s k := congrArg (·.1) (put_be hs hs8 hk)
theorem enc_take {α β γ : Type} (f : α → β → List γ) (xs : List α) (ys : List β) (i : Nat) (a : α) (b : β) (ha : xs[i]? = some a) (hb : ys[i]? = some b) :
    ((List.zipWith f xs ys).take (i + 1)).flatten = ((List.zipWith f xs ys).take i).flatten ++ f a b := by
  rw [List.take_add_one]
  simp [List.getElem?_zipWith, ha, hb]
theorem enc_len {α β γ : Type} (f : α → β → List γ) (m : Nat) (ys : List β) (h : ∀ a b, b ∈ ys → (f a b).length ≤ m) (xs : List α) : ∀ i, ((List.zipWith f xs ys).take i).flatten.length ≤ i * m
  | 0 => by simp
  | i + 1 => by
    have ih := enc_len f m ys h xs i
    rw [List.take_add_one, List.flatten_append, List.length_append]
    cases hz : (List.zipWith f xs ys)[i]? with
    | none => simp only [Option.toList_none, List.flatten_nil, List.length_nil]; rw [Nat.add_mul]; omega
    | some z =>
      rw [List.getElem?_zipWith] at hz
      split at hz
      · rename_i a b ha hb
        cases hz
        have := h a b (List.mem_of_getElem? hb)
        simp only [Option.toList_some, List.flatten_cons, List.flatten_nil, List.append_nil]; rw [Nat.add_mul]; omega
      · cases hz
theorem right_bounds {N : M.Node} (h : M.right N = true) : N.keys.length ≤ 29 ∧ N.vals.length = (if N.leaf then N.keys.length else 0) ∧ N.kids.length = (if N.leaf then 0 else N.keys.length + 1) ∧ (∀ v ∈ N.vals, v.length ≤ 40) ∧ (∀ k ∈ N.kids, 2 ≤ k ∧ k < 640) ∧ (N.leaf = true → 0 < N.keys.length) := by
  simp only [M.right, M.plain, M.nsize, Bool.and_eq_true, beq_iff_eq, List.all_eq_true, decide_eq_true_eq, Bool.or_eq_true, Bool.not_eq_true'] at h
  obtain ⟨⟨⟨⟨⟨⟨h1, h2⟩, h3⟩, h4⟩, h5⟩, h6⟩, h7⟩ := h
  have h7 := of_decide_eq_true h7
  refine ⟨by split at h7 <;> omega, h1, h2, h4, h5, fun hl => ?_⟩
  rcases h6 with h6 | h6
  · rw [hl] at h6; cases h6
  · exact h6
theorem node_Encode (N : M.Node) (x : NP) (hN : NB N) (hK : KB N) : CS 149 [nodeV N x] (NodeH N x)
    fun v H' => v = .tuple #[str (M.encode N).1, int (M.encode N).2] ∧ H' = NodeH N x := by
  refine CS.walk Tryz.func149 rfl Tryz.ntmps149 rfl fun c R => ?_
  (repeat (first | refine W.ctl rfl ?_ | refine W.op rfl rfl rfl rfl ?_ | refine W.skip rfl rfl ?_ | refine W.fld rfl rfl rfl rfl rfl ?_ | refine W.ld rfl rfl rfl rfl rfl ?_))
  refine W.box rfl rfl rfl rfl rfl fun nb => ?_
  (repeat (first | refine W.ctl rfl ?_ | refine W.op rfl rfl rfl rfl ?_ | refine W.skip rfl rfl ?_ | refine W.fld rfl rfl rfl rfl rfl ?_ | refine W.ld rfl rfl rfl rfl rfl ?_))
  refine W.lds rfl rfl rfl rfl rfl ?_
  (repeat (first | refine W.ctl rfl ?_ | refine W.op rfl rfl rfl rfl ?_ | refine W.skip rfl rfl ?_))
  refine W.call (node_Right N x hN) rfl rfl rfl rfl Tryz.call156 ⟨rfl, trivial⟩ ?_
  rintro _ _ ⟨rfl, rfl⟩
  simp only [NodeH, NodeB, sep_assoc', emp_sep]
  cases hr : M.right N with
  | false =>
    (repeat (first | refine W.ctl rfl ?_ | refine W.op rfl rfl rfl rfl ?_ | refine W.skip rfl rfl ?_ | refine W.fld rfl rfl rfl rfl rfl ?_ | refine W.ld rfl rfl rfl rfl rfl ?_))
    have e : M.encode N = ([], 1) := by rw [M.encode, if_pos hr]
    rw [e]
    exact W.ret2 (.inr rfl) rfl rfl rfl _ ⟨rfl, rfl⟩ Imp.all
  | true =>
  (repeat (first | refine W.ctl rfl ?_ | refine W.op rfl rfl rfl rfl ?_ | refine W.skip rfl rfl ?_ | refine W.fld rfl rfl rfl rfl rfl ?_ | refine W.ld rfl rfl rfl rfl rfl ?_))
  have e : M.encode N = (M.encBody N, 0) := by rw [M.encode, if_neg (by simp [hr])]
  rw [e]
  obtain ⟨q1, q2, q3, q4, q5, q6⟩ := right_bounds hr
  refine W.alc rfl rfl rfl rfl fun b => ?_
  refine W.imp (H' := Bd b [] • row nb 114 [Value.bool N.leaf, sv x.ka N.keys.length x.kc, sv x.va N.vals.length x.vc, sv x.da N.kids.length x.dc] • NodeB N x R) rfl ?_ ?_
  · have e := Bd.mk (b := b) (bs := []) (false, none, 0)
    simp only [BdB, List.length_nil, List.map_nil, Bool.false_eq_true, if_false, skv_nil, sep_emp'] at e
    simp only [sv, Option.map_none] at e
    exact Imp.pack e Imp.all
  (repeat (first | refine W.ctl rfl ?_ | refine W.op rfl rfl rfl rfl ?_ | refine W.skip rfl rfl ?_ | refine W.fld rfl rfl rfl rfl rfl ?_ | refine W.ld rfl rfl rfl rfl rfl ?_))
  refine W.mkf (vs := [ptr b]) rfl rfl rfl rfl ⟨rfl, trivial⟩ ?_
  (repeat (first | refine W.ctl rfl ?_ | refine W.op rfl rfl rfl rfl ?_ | refine W.skip rfl rfl ?_ | refine W.fld rfl rfl rfl rfl rfl ?_ | refine W.ld rfl rfl rfl rfl rfl ?_))
  have hkl : ∀ i (h : i < N.keys.length), N.keys[i] < 18446744073709551616 := fun i h => hK _ (List.getElem_mem h)
  cases hl : N.leaf with
  | true =>
    rw [hl, if_pos rfl] at q2 q3
    (repeat (first | refine W.ctl rfl ?_ | refine W.op rfl rfl rfl rfl ?_ | refine W.skip rfl rfl ?_ | refine W.fld rfl rfl rfl rfl rfl ?_ | refine W.ld rfl rfl rfl rfl rfl ?_))
    refine W.call (bd_WriteByte b [] 1 (by simp)) rfl rfl rfl rfl Tryz.call178 ⟨rfl, rfl, trivial⟩ ?_
    rintro _ _ ⟨rfl, rfl⟩
    (repeat (first | refine W.ctl rfl ?_ | refine W.op rfl rfl rfl rfl ?_ | refine W.skip rfl rfl ?_ | refine W.fld rfl rfl rfl rfl rfl ?_ | refine W.ld rfl rfl rfl rfl rfl ?_))
    refine W.len rfl rfl rfl rfl rfl ?_
    (repeat (first | refine W.ctl rfl ?_ | refine W.op rfl rfl rfl rfl ?_ | refine W.skip rfl rfl ?_ | refine W.fld rfl rfl rfl rfl rfl ?_ | refine W.ld rfl rfl rfl rfl rfl ?_))
    have hL := enc_len M.encK 49 N.vals (fun a v hv => by have := q4 v hv; simp [M.encK, M.be_length]; omega) N.keys
    refine W.loop (σ := Nat) (fun i => i ≤ N.keys.length) (fun i => [(1, ptr nb), (4, ptr b), (5, .func (.func 177) #[] #[ptr b]), (26, sv x.ka N.keys.length x.kc), (27, int N.keys.length), (28, int i)])
      (fun i => Bd b (1 :: ((List.zipWith M.encK N.keys N.vals).take i).flatten) • row nb 114 [Value.bool true, sv x.ka N.keys.length x.kc, sv x.va N.vals.length x.vc, sv x.da N.kids.length x.dc] • NodeB N x R) (fun i => N.keys.length - i) 0 (by omega) ⟨rfl, rfl, rfl, rfl, rfl, rfl, trivial⟩ (by simp only [List.nil_append, List.take_zero, List.flatten_nil]; exact Imp.all) ?_
    intro i hi
    have hLi := hL i
    (repeat (first | refine W.ctl rfl ?_ | refine W.op rfl rfl rfl rfl ?_ | refine W.skip rfl rfl ?_ | refine W.fld rfl rfl rfl rfl rfl ?_ | refine W.ld rfl rfl rfl rfl rfl ?_))
    by_cases h1 : (i : Int) < N.keys.length
    · refine W.yes rfl rfl rfl rfl h1 ?_
      have h1' : i < N.keys.length := by omega
      have h1v : i < N.vals.length := by omega
      have hki := hkl i h1'
      (repeat (first | refine W.ctl rfl ?_ | refine W.op rfl rfl rfl rfl ?_ | refine W.skip rfl rfl ?_ | refine W.fld rfl rfl rfl rfl rfl ?_ | refine W.ld rfl rfl rfl rfl rfl ?_))
      refine W.idxk rfl rfl rfl rfl rfl rfl (by omega) (by omega) ?_
      refine W.ldk (v := u64 (N.keys[i])) rfl rfl rfl rfl rfl (by simp [h1']) ?_
      (repeat (first | refine W.ctl rfl ?_ | refine W.op rfl rfl rfl rfl ?_ | refine W.skip rfl rfl ?_ | refine W.fld rfl rfl rfl rfl rfl ?_ | refine W.ld rfl rfl rfl rfl rfl ?_))
      refine W.callv (vs := [u64 N.keys[i], int 8]) (caps := [ptr b]) (enc_number b (1 :: ((List.zipWith M.encK N.keys N.vals).take i).flatten) N.keys[i] 8 (by simp only [List.length_cons]; omega) hki (by omega) (by omega)) rfl rfl rfl rfl rfl Tryz.call177 ⟨rfl, rfl, trivial⟩ ?_
      rintro _ _ ⟨rfl, rfl⟩
      rw [show (M.put N.keys[i] 8).1 = M.be 8 N.keys[i] from put_lit (s := 8) (by omega) (by omega) (by omega)]
      (repeat (first | refine W.ctl rfl ?_ | refine W.op rfl rfl rfl rfl ?_ | refine W.skip rfl rfl ?_ | refine W.fld rfl rfl rfl rfl rfl ?_ | refine W.ld rfl rfl rfl rfl rfl ?_))
      refine W.idxk rfl rfl rfl rfl rfl rfl (by omega) (by omega) ?_
      refine W.ldk (v := str (N.vals[i])) rfl rfl rfl rfl rfl (by simp [h1v]) ?_
      have hvi := q4 _ (List.getElem_mem h1v)
      refine W.call (num_Text N.vals[i] (by omega)) rfl rfl rfl rfl Tryz.call179 ⟨rfl, trivial⟩ ?_
      rintro _ _ ⟨rfl, rfl⟩
      (repeat (first | refine W.ctl rfl ?_ | refine W.op rfl rfl rfl rfl ?_ | refine W.skip rfl rfl ?_ | refine W.fld rfl rfl rfl rfl rfl ?_ | refine W.ld rfl rfl rfl rfl rfl ?_))
      have et : M.text N.vals[i] = (UInt8.ofNat N.vals[i].length :: N.vals[i], 0) := by rw [M.text, if_neg (by omega)]
      rw [et]
      refine W.call (bd_WriteString b ((1 :: ((List.zipWith M.encK N.keys N.vals).take i).flatten) ++ M.be 8 N.keys[i]) (UInt8.ofNat N.vals[i].length :: N.vals[i]) (by simp only [List.length_append, List.length_cons, M.be_length]; omega)) rfl rfl rfl rfl Tryz.call142 ⟨rfl, rfl, trivial⟩ ?_
      rintro _ _ ⟨rfl, rfl⟩
      (repeat (first | refine W.ctl rfl ?_ | refine W.op rfl rfl rfl rfl ?_ | refine W.skip rfl rfl ?_ | refine W.fld rfl rfl rfl rfl rfl ?_ | refine W.ld rfl rfl rfl rfl rfl ?_))
      refine W.ar (r := ((i + 1 : Nat) : Int)) rfl rfl rfl rfl rfl rfl rfl (wrap_i64 (by omega) (by omega)) ?_
      (repeat (first | refine W.ctl rfl ?_ | refine W.op rfl rfl rfl rfl ?_ | refine W.skip rfl rfl ?_ | refine W.fld rfl rfl rfl rfl rfl ?_ | refine W.ld rfl rfl rfl rfl rfl ?_))
      refine W.again (i + 1) (by omega) (by omega) ⟨rfl, rfl, rfl, rfl, rfl, rfl, trivial⟩ ?_
      rw [enc_take M.encK N.keys N.vals i N.keys[i] N.vals[i] (by simp [h1']) (by simp [h1v])]
      simp only [M.encK, List.cons_append, List.append_assoc]
      exact Imp.all
    · refine W.no rfl rfl rfl rfl h1 ?_
      (repeat (first | refine W.ctl rfl ?_ | refine W.op rfl rfl rfl rfl ?_ | refine W.skip rfl rfl ?_ | refine W.fld rfl rfl rfl rfl rfl ?_ | refine W.ld rfl rfl rfl rfl rfl ?_))
      have ez : (List.zipWith M.encK N.keys N.vals).take i = List.zipWith M.encK N.keys N.vals := List.take_of_length_le (by rw [List.length_zipWith]; omega)
      refine W.call (bd_String b (1 :: ((List.zipWith M.encK N.keys N.vals).take i).flatten) (by simp only [List.length_cons]; omega) (by simp)) rfl rfl rfl rfl Tryz.call144 ⟨rfl, trivial⟩ ?_
      rintro _ _ ⟨rfl, rfl⟩
      (repeat (first | refine W.ctl rfl ?_ | refine W.op rfl rfl rfl rfl ?_ | refine W.skip rfl rfl ?_ | refine W.fld rfl rfl rfl rfl rfl ?_ | refine W.ld rfl rfl rfl rfl rfl ?_))
      refine W.ret2 (.inr rfl) rfl rfl rfl _ ⟨?_, rfl⟩ Imp.all
      rw [ez, M.encBody, if_pos hl]
  | false =>
    rw [hl, if_neg (by simp)] at q2 q3
    (repeat (first | refine W.ctl rfl ?_ | refine W.op rfl rfl rfl rfl ?_ | refine W.skip rfl rfl ?_ | refine W.fld rfl rfl rfl rfl rfl ?_ | refine W.ld rfl rfl rfl rfl rfl ?_))
    refine W.call (bd_WriteByte b [] 2 (by simp)) rfl rfl rfl rfl Tryz.call178 ⟨rfl, rfl, trivial⟩ ?_
    rintro _ _ ⟨rfl, rfl⟩
    have h0 : 0 < N.kids.length := by omega
    (repeat (first | refine W.ctl rfl ?_ | refine W.op rfl rfl rfl rfl ?_ | refine W.skip rfl rfl ?_ | refine W.fld rfl rfl rfl rfl rfl ?_ | refine W.ld rfl rfl rfl rfl rfl ?_))
    refine W.idxk rfl rfl rfl rfl rfl rfl (by omega) (by omega) ?_
    refine W.ldk (v := int (N.kids[0])) rfl rfl rfl rfl rfl (by simp [h0]) ?_
    have hd0 := q5 _ (List.getElem_mem h0)
    obtain ⟨d0, hd⟩ := Int.eq_ofNat_of_zero_le (show 0 ≤ N.kids[0] by omega)
    rw [hd] at hd0 ⊢
    refine W.cv rfl rfl rfl rfl rfl (wrap_u64 (by omega) (by omega)) ?_
    rw [List.nil_append]
    refine W.callv (vs := [u64 d0, int 2]) (caps := [ptr b]) (enc_number b [2] d0 2 (by simp) (by omega) (by omega) (by omega)) rfl rfl rfl rfl rfl Tryz.call177 ⟨rfl, rfl, trivial⟩ ?_
    rintro _ _ ⟨rfl, rfl⟩
    rw [show (M.put d0 2).1 = M.be 2 d0 from put_lit (s := 2) (by omega) (by omega) (by omega)]
    (repeat (first | refine W.ctl rfl ?_ | refine W.op rfl rfl rfl rfl ?_ | refine W.skip rfl rfl ?_ | refine W.fld rfl rfl rfl rfl rfl ?_ | refine W.ld rfl rfl rfl rfl rfl ?_))
    refine W.len rfl rfl rfl rfl rfl ?_
    (repeat (first | refine W.ctl rfl ?_ | refine W.op rfl rfl rfl rfl ?_ | refine W.skip rfl rfl ?_ | refine W.fld rfl rfl rfl rfl rfl ?_ | refine W.ld rfl rfl rfl rfl rfl ?_))
    have hL := enc_len M.encB 10 N.kids.tail (fun a v hv => by simp [M.encB, M.be_length]) N.keys
    refine W.loop (σ := Nat) (fun i => i ≤ N.keys.length) (fun i => [(1, ptr nb), (4, ptr b), (5, .func (.func 177) #[] #[ptr b]), (26, sv x.ka N.keys.length x.kc), (27, int N.keys.length), (28, int i)])
      (fun i => Bd b (([2] ++ M.be 2 d0) ++ ((List.zipWith M.encB N.keys N.kids.tail).take i).flatten) • row nb 114 [Value.bool false, sv x.ka N.keys.length x.kc, sv x.va N.vals.length x.vc, sv x.da N.kids.length x.dc] • NodeB N x R) (fun i => N.keys.length - i) 0 (by omega) ⟨rfl, rfl, rfl, rfl, rfl, rfl, trivial⟩ (by simp only [List.take_zero, List.flatten_nil, List.append_nil]; exact Imp.all) ?_
    intro i hi
    have hLi := hL i
    (repeat (first | refine W.ctl rfl ?_ | refine W.op rfl rfl rfl rfl ?_ | refine W.skip rfl rfl ?_ | refine W.fld rfl rfl rfl rfl rfl ?_ | refine W.ld rfl rfl rfl rfl rfl ?_))
    by_cases h1 : (i : Int) < N.keys.length
    · refine W.yes rfl rfl rfl rfl h1 ?_
      have h1' : i < N.keys.length := by omega
      have h1v : i + 1 < N.kids.length := by omega
      have hki := hkl i h1'
      (repeat (first | refine W.ctl rfl ?_ | refine W.op rfl rfl rfl rfl ?_ | refine W.skip rfl rfl ?_ | refine W.fld rfl rfl rfl rfl rfl ?_ | refine W.ld rfl rfl rfl rfl rfl ?_))
      refine W.idxk rfl rfl rfl rfl rfl rfl (by omega) (by omega) ?_
      refine W.ldk (v := u64 (N.keys[i])) rfl rfl rfl rfl rfl (by simp [h1']) ?_
      (repeat (first | refine W.ctl rfl ?_ | refine W.op rfl rfl rfl rfl ?_ | refine W.skip rfl rfl ?_ | refine W.fld rfl rfl rfl rfl rfl ?_ | refine W.ld rfl rfl rfl rfl rfl ?_))
      refine W.callv (vs := [u64 N.keys[i], int 8]) (caps := [ptr b]) (enc_number b (([2] ++ M.be 2 d0) ++ ((List.zipWith M.encB N.keys N.kids.tail).take i).flatten) N.keys[i] 8 (by simp only [List.length_append, M.be_length, List.length_singleton]; omega) hki (by omega) (by omega)) rfl rfl rfl rfl rfl Tryz.call177 ⟨rfl, rfl, trivial⟩ ?_
      rintro _ _ ⟨rfl, rfl⟩
      rw [show (M.put N.keys[i] 8).1 = M.be 8 N.keys[i] from put_lit (s := 8) (by omega) (by omega) (by omega)]
      (repeat (first | refine W.ctl rfl ?_ | refine W.op rfl rfl rfl rfl ?_ | refine W.skip rfl rfl ?_ | refine W.fld rfl rfl rfl rfl rfl ?_ | refine W.ld rfl rfl rfl rfl rfl ?_))
      refine W.ar (r := ((i + 1 : Nat) : Int)) rfl rfl rfl rfl rfl rfl rfl (wrap_i64 (by omega) (by omega)) ?_
      refine W.idxk rfl rfl rfl rfl rfl rfl (by omega) (by omega) ?_
      refine W.ldk (v := int (N.kids[i + 1])) rfl rfl rfl rfl rfl (by simp [h1v]) ?_
      have hdi := q5 _ (List.getElem_mem h1v)
      obtain ⟨di, hd⟩ := Int.eq_ofNat_of_zero_le (show 0 ≤ N.kids[i + 1] by omega)
      have hdn : N.kids[i + 1].toNat = di := by omega
      rw [hd] at hdi ⊢
      refine W.cv rfl rfl rfl rfl rfl (wrap_u64 (by omega) (by omega)) ?_
      refine W.callv (vs := [u64 di, int 2]) (caps := [ptr b]) (enc_number b ((([2] ++ M.be 2 d0) ++ ((List.zipWith M.encB N.keys N.kids.tail).take i).flatten) ++ M.be 8 N.keys[i]) di 2 (by simp only [List.length_append, M.be_length, List.length_singleton]; omega) (by omega) (by omega) (by omega)) rfl rfl rfl rfl rfl Tryz.call177 ⟨rfl, rfl, trivial⟩ ?_
      rintro _ _ ⟨rfl, rfl⟩
      rw [show (M.put di 2).1 = M.be 2 di from put_lit (s := 2) (by omega) (by omega) (by omega)]
      (repeat (first | refine W.ctl rfl ?_ | refine W.op rfl rfl rfl rfl ?_ | refine W.skip rfl rfl ?_ | refine W.fld rfl rfl rfl rfl rfl ?_ | refine W.ld rfl rfl rfl rfl rfl ?_))
      refine W.ar (r := ((i + 1 : Nat) : Int)) rfl rfl rfl rfl rfl rfl rfl (wrap_i64 (by omega) (by omega)) ?_
      (repeat (first | refine W.ctl rfl ?_ | refine W.op rfl rfl rfl rfl ?_ | refine W.skip rfl rfl ?_ | refine W.fld rfl rfl rfl rfl rfl ?_ | refine W.ld rfl rfl rfl rfl rfl ?_))
      refine W.again (i + 1) (by omega) (by omega) ⟨rfl, rfl, rfl, rfl, rfl, rfl, trivial⟩ ?_
      rw [enc_take M.encB N.keys N.kids.tail i N.keys[i] N.kids[i + 1] (by simp [h1']) (by simp [h1v])]
      simp only [M.encB, List.append_assoc, hdn]
      exact Imp.all
    · refine W.no rfl rfl rfl rfl h1 ?_
      (repeat (first | refine W.ctl rfl ?_ | refine W.op rfl rfl rfl rfl ?_ | refine W.skip rfl rfl ?_ | refine W.fld rfl rfl rfl rfl rfl ?_ | refine W.ld rfl rfl rfl rfl rfl ?_))
      have ez : (List.zipWith M.encB N.keys N.kids.tail).take i = List.zipWith M.encB N.keys N.kids.tail := List.take_of_length_le (by rw [List.length_zipWith]; omega)
      refine W.call (bd_String b (([2] ++ M.be 2 d0) ++ ((List.zipWith M.encB N.keys N.kids.tail).take i).flatten) (by simp only [List.length_append, M.be_length, List.length_singleton]; omega) (by simp)) rfl rfl rfl rfl Tryz.call144 ⟨rfl, trivial⟩ ?_
      rintro _ _ ⟨rfl, rfl⟩
      (repeat (first | refine W.ctl rfl ?_ | refine W.op rfl rfl rfl rfl ?_ | refine W.skip rfl rfl ?_ | refine W.fld rfl rfl rfl rfl rfl ?_ | refine W.ld rfl rfl rfl rfl rfl ?_))
      refine W.ret2 (.inr rfl) rfl rfl rfl _ ⟨?_, rfl⟩ Imp.all
      have hh : (N.kids.headD 0).toNat = d0 := by
        rw [List.headD_eq_head?_getD, List.head?_eq_getElem?, List.getElem?_eq_getElem h0]
        simp; omega
      rw [ez, M.encBody, if_neg (by simp [hl]), hh]
      simp
end Go.Proofs.YtbdhhedfplkidaaGreat
