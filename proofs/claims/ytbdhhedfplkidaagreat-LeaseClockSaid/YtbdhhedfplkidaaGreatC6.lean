/- Nodes: reading their parts, their size, whether they are right. -/
import Derived.Test.YtbdhhedfplkidaaGreatC2
import Derived.Test.YtbdhhedfplkidaaGreatE8
import Derived.Test.YtbdhhedfplkidaaGreatTys
namespace Go.Proofs.YtbdhhedfplkidaaGreat
open Go
open M (Str)
set_option maxHeartbeats 400000
set_option maxRecDepth 2000
abbrev ReaderP (p : Nat) (b : Str) (bad : Bool) : HProp := row p 249 [str b, .bool bad]
theorem reader_number (p : Nat) (b : Str) (bad : Bool) (size : Int) (hb : b.length < 9223372036854775808) (hs0 : -9223372036854775808 ≤ size) (hs1 : size < 9223372036854775808) : CS 154 [.pointer (some ⟨p, 0, none⟩), int size] (ReaderP p b bad)
    fun v H' => v = u64 (M.take b size).1 ∧ H' = ReaderP p (M.take b size).2.1 (bad || decide ((M.take b size).2.2 ≠ 0)) := by
  refine CS.walk Tryz.func154 rfl Tryz.ntmps154 rfl fun c R => ?_
  (repeat (first | refine W.ctl rfl ?_ | refine W.op rfl rfl rfl rfl ?_ | refine W.skip rfl rfl ?_ | refine W.fld rfl rfl rfl rfl rfl ?_ | refine W.ld rfl rfl rfl rfl rfl ?_))
  refine W.call (num_Take b size hb hs0 hs1) rfl rfl rfl rfl Tryz.call56 ⟨rfl, rfl, trivial⟩ ?_
  rintro _ _ ⟨rfl, rfl⟩
  cases bad with
  | true =>
    simp only [Bool.true_or]
    (repeat (first | refine W.ctl rfl ?_ | refine W.op rfl rfl rfl rfl ?_ | refine W.skip rfl rfl ?_ | refine W.fld rfl rfl rfl rfl rfl ?_ | refine W.ld rfl rfl rfl rfl rfl ?_))
    refine W.st rfl rfl rfl rfl rfl ?_
    (repeat (first | refine W.ctl rfl ?_ | refine W.op rfl rfl rfl rfl ?_ | refine W.skip rfl rfl ?_ | refine W.fld rfl rfl rfl rfl rfl ?_ | refine W.ld rfl rfl rfl rfl rfl ?_))
    refine W.st (v := str (M.take b size).2.1) rfl rfl rfl rfl rfl ?_
    (repeat (first | refine W.ctl rfl ?_ | refine W.op rfl rfl rfl rfl ?_ | refine W.skip rfl rfl ?_ | refine W.fld rfl rfl rfl rfl rfl ?_ | refine W.ld rfl rfl rfl rfl rfl ?_))
    exact W.ret1 (.inr rfl) rfl rfl _ ⟨rfl, rfl⟩ Imp.all
  | false =>
    (repeat (first | refine W.ctl rfl ?_ | refine W.op rfl rfl rfl rfl ?_ | refine W.skip rfl rfl ?_ | refine W.fld rfl rfl rfl rfl rfl ?_ | refine W.ld rfl rfl rfl rfl rfl ?_))
    by_cases he : (M.take b size).2.2 ≠ 0
    · refine W.yes rfl rfl rfl rfl he ?_
      (repeat (first | refine W.ctl rfl ?_ | refine W.op rfl rfl rfl rfl ?_ | refine W.skip rfl rfl ?_ | refine W.fld rfl rfl rfl rfl rfl ?_ | refine W.ld rfl rfl rfl rfl rfl ?_))
      refine W.st rfl rfl rfl rfl rfl ?_
      (repeat (first | refine W.ctl rfl ?_ | refine W.op rfl rfl rfl rfl ?_ | refine W.skip rfl rfl ?_ | refine W.fld rfl rfl rfl rfl rfl ?_ | refine W.ld rfl rfl rfl rfl rfl ?_))
      refine W.st (v := str (M.take b size).2.1) rfl rfl rfl rfl rfl ?_
      (repeat (first | refine W.ctl rfl ?_ | refine W.op rfl rfl rfl rfl ?_ | refine W.skip rfl rfl ?_ | refine W.fld rfl rfl rfl rfl rfl ?_ | refine W.ld rfl rfl rfl rfl rfl ?_))
      rw [decide_eq_true he, Bool.false_or]
      exact W.ret1 (.inr rfl) rfl rfl _ ⟨rfl, rfl⟩ Imp.all
    · refine W.no rfl rfl rfl rfl he ?_
      (repeat (first | refine W.ctl rfl ?_ | refine W.op rfl rfl rfl rfl ?_ | refine W.skip rfl rfl ?_ | refine W.fld rfl rfl rfl rfl rfl ?_ | refine W.ld rfl rfl rfl rfl rfl ?_))
      refine W.st rfl rfl rfl rfl rfl ?_
      (repeat (first | refine W.ctl rfl ?_ | refine W.op rfl rfl rfl rfl ?_ | refine W.skip rfl rfl ?_ | refine W.fld rfl rfl rfl rfl rfl ?_ | refine W.ld rfl rfl rfl rfl rfl ?_))
      refine W.st (v := str (M.take b size).2.1) rfl rfl rfl rfl rfl ?_
      (repeat (first | refine W.ctl rfl ?_ | refine W.op rfl rfl rfl rfl ?_ | refine W.skip rfl rfl ?_ | refine W.fld rfl rfl rfl rfl rfl ?_ | refine W.ld rfl rfl rfl rfl rfl ?_))
      rw [decide_eq_false he, Bool.false_or]
      exact W.ret1 (.inr rfl) rfl rfl _ ⟨rfl, rfl⟩ Imp.all
theorem reader_text (p : Nat) (b : Str) (bad : Bool) (hb : b.length < 9223372036854775808) : CS 155 [.pointer (some ⟨p, 0, none⟩)] (ReaderP p b bad)
    fun v H' => v = str (M.takeText b).1 ∧ H' = ReaderP p (M.takeText b).2.1 (bad || decide ((M.takeText b).2.2 ≠ 0)) := by
  refine CS.walk Tryz.func155 rfl Tryz.ntmps155 rfl fun c R => ?_
  (repeat (first | refine W.ctl rfl ?_ | refine W.op rfl rfl rfl rfl ?_ | refine W.skip rfl rfl ?_ | refine W.fld rfl rfl rfl rfl rfl ?_ | refine W.ld rfl rfl rfl rfl rfl ?_))
  refine W.call (num_TakeText b hb) rfl rfl rfl rfl Tryz.call183 ⟨rfl, trivial⟩ ?_
  rintro _ _ ⟨rfl, rfl⟩
  cases bad with
  | true =>
    simp only [Bool.true_or]
    (repeat (first | refine W.ctl rfl ?_ | refine W.op rfl rfl rfl rfl ?_ | refine W.skip rfl rfl ?_ | refine W.fld rfl rfl rfl rfl rfl ?_ | refine W.ld rfl rfl rfl rfl rfl ?_))
    refine W.st rfl rfl rfl rfl rfl ?_
    (repeat (first | refine W.ctl rfl ?_ | refine W.op rfl rfl rfl rfl ?_ | refine W.skip rfl rfl ?_ | refine W.fld rfl rfl rfl rfl rfl ?_ | refine W.ld rfl rfl rfl rfl rfl ?_))
    refine W.st (v := str (M.takeText b).2.1) rfl rfl rfl rfl rfl ?_
    (repeat (first | refine W.ctl rfl ?_ | refine W.op rfl rfl rfl rfl ?_ | refine W.skip rfl rfl ?_ | refine W.fld rfl rfl rfl rfl rfl ?_ | refine W.ld rfl rfl rfl rfl rfl ?_))
    exact W.ret1 (.inr rfl) rfl rfl _ ⟨rfl, rfl⟩ Imp.all
  | false =>
    (repeat (first | refine W.ctl rfl ?_ | refine W.op rfl rfl rfl rfl ?_ | refine W.skip rfl rfl ?_ | refine W.fld rfl rfl rfl rfl rfl ?_ | refine W.ld rfl rfl rfl rfl rfl ?_))
    by_cases he : (M.takeText b).2.2 ≠ 0
    · refine W.yes rfl rfl rfl rfl he ?_
      (repeat (first | refine W.ctl rfl ?_ | refine W.op rfl rfl rfl rfl ?_ | refine W.skip rfl rfl ?_ | refine W.fld rfl rfl rfl rfl rfl ?_ | refine W.ld rfl rfl rfl rfl rfl ?_))
      refine W.st rfl rfl rfl rfl rfl ?_
      (repeat (first | refine W.ctl rfl ?_ | refine W.op rfl rfl rfl rfl ?_ | refine W.skip rfl rfl ?_ | refine W.fld rfl rfl rfl rfl rfl ?_ | refine W.ld rfl rfl rfl rfl rfl ?_))
      refine W.st (v := str (M.takeText b).2.1) rfl rfl rfl rfl rfl ?_
      (repeat (first | refine W.ctl rfl ?_ | refine W.op rfl rfl rfl rfl ?_ | refine W.skip rfl rfl ?_ | refine W.fld rfl rfl rfl rfl rfl ?_ | refine W.ld rfl rfl rfl rfl rfl ?_))
      rw [decide_eq_true he, Bool.false_or]
      exact W.ret1 (.inr rfl) rfl rfl _ ⟨rfl, rfl⟩ Imp.all
    · refine W.no rfl rfl rfl rfl he ?_
      (repeat (first | refine W.ctl rfl ?_ | refine W.op rfl rfl rfl rfl ?_ | refine W.skip rfl rfl ?_ | refine W.fld rfl rfl rfl rfl rfl ?_ | refine W.ld rfl rfl rfl rfl rfl ?_))
      refine W.st rfl rfl rfl rfl rfl ?_
      (repeat (first | refine W.ctl rfl ?_ | refine W.op rfl rfl rfl rfl ?_ | refine W.skip rfl rfl ?_ | refine W.fld rfl rfl rfl rfl rfl ?_ | refine W.ld rfl rfl rfl rfl rfl ?_))
      refine W.st (v := str (M.takeText b).2.1) rfl rfl rfl rfl rfl ?_
      (repeat (first | refine W.ctl rfl ?_ | refine W.op rfl rfl rfl rfl ?_ | refine W.skip rfl rfl ?_ | refine W.fld rfl rfl rfl rfl rfl ?_ | refine W.ld rfl rfl rfl rfl rfl ?_))
      rw [decide_eq_false he, Bool.false_or]
      exact W.ret1 (.inr rfl) rfl rfl _ ⟨rfl, rfl⟩ Imp.all
/-- Where a node's slices lie. -/
structure NP where
  ka : Option Nat
  kc : Nat
  va : Option Nat
  vc : Nat
  da : Option Nat
  dc : Nat
abbrev nodeV (N : M.Node) (x : NP) : Value := .agg #[.bool N.leaf, sv x.ka N.keys.length x.kc, sv x.va N.vals.length x.vc, sv x.da N.kids.length x.dc]
abbrev NodeB (N : M.Node) (x : NP) (R : HProp) : HProp := slck 1 35 (sv x.ka N.keys.length x.kc) N.keys.length (N.keys.map u64) • slck 1 9 (sv x.va N.vals.length x.vc) N.vals.length (N.vals.map str) •
  slck 1 3 (sv x.da N.kids.length x.dc) N.kids.length (N.kids.map int) • R
abbrev NodeH (N : M.Node) (x : NP) : HProp := NodeB N x emp
structure NB (N : M.Node) : Prop where
  keys : N.keys.length ≤ 4096
  vals : N.vals.length ≤ 4096
  kids : N.kids.length ≤ 4096
  val : ∀ v ∈ N.vals, v.length ≤ 4294967296
theorem sum_le {l : List Str} {m : Nat} (h : ∀ v ∈ l, v.length ≤ m) : (l.map List.length).sum ≤ l.length * m := by
  induction l with
  | nil => simp
  | cons v l ih =>
    have h1 := h v (by simp)
    have h2 := ih fun u hu => h u (by simp [hu])
    simp only [List.map_cons, List.sum_cons, List.length_cons, Nat.add_mul, Nat.one_mul]
    omega
theorem node_Size (N : M.Node) (x : NP) (hN : NB N) : CS 64 [nodeV N x] (NodeH N x) fun v H' => v = int (M.nsize N) ∧ H' = NodeH N x := by
  have hk := hN.keys
  have hv := hN.vals
  have hd := hN.kids
  refine CS.walk Tryz.func64 rfl Tryz.ntmps64 rfl fun c R => ?_
  simp only [NodeH, NodeB, sep_assoc', emp_sep]
  (repeat (first | refine W.ctl rfl ?_ | refine W.op rfl rfl rfl rfl ?_ | refine W.skip rfl rfl ?_ | refine W.fld rfl rfl rfl rfl rfl ?_ | refine W.ld rfl rfl rfl rfl rfl ?_))
  refine W.box rfl rfl rfl rfl rfl fun b => ?_
  (repeat (first | refine W.ctl rfl ?_ | refine W.op rfl rfl rfl rfl ?_ | refine W.skip rfl rfl ?_ | refine W.fld rfl rfl rfl rfl rfl ?_ | refine W.ld rfl rfl rfl rfl rfl ?_))
  refine W.len rfl rfl rfl rfl rfl ?_
  refine W.ar (r := 8 * (N.keys.length : Int)) rfl rfl rfl rfl rfl rfl rfl (wrap_i64 (by omega) (by omega)) ?_
  refine W.ar (r := 1 + 8 * (N.keys.length : Int)) rfl rfl rfl rfl rfl rfl rfl (wrap_i64 (by omega) (by omega)) ?_
  (repeat (first | refine W.ctl rfl ?_ | refine W.op rfl rfl rfl rfl ?_ | refine W.skip rfl rfl ?_ | refine W.fld rfl rfl rfl rfl rfl ?_ | refine W.ld rfl rfl rfl rfl rfl ?_))
  cases hl : N.leaf with
  | false =>
    (repeat (first | refine W.ctl rfl ?_ | refine W.op rfl rfl rfl rfl ?_ | refine W.skip rfl rfl ?_ | refine W.fld rfl rfl rfl rfl rfl ?_ | refine W.ld rfl rfl rfl rfl rfl ?_))
    refine W.len rfl rfl rfl rfl rfl ?_
    refine W.ar (r := 2 * (N.kids.length : Int)) rfl rfl rfl rfl rfl rfl rfl (wrap_i64 (by omega) (by omega)) ?_
    refine W.ar (r := 1 + 8 * (N.keys.length : Int) + 2 * (N.kids.length : Int)) rfl rfl rfl rfl rfl rfl rfl (wrap_i64 (by omega) (by omega)) ?_
    (repeat (first | refine W.ctl rfl ?_ | refine W.op rfl rfl rfl rfl ?_ | refine W.skip rfl rfl ?_ | refine W.fld rfl rfl rfl rfl rfl ?_ | refine W.ld rfl rfl rfl rfl rfl ?_))
    refine W.ret1 (.inr rfl) rfl rfl _ ⟨?_, rfl⟩ Imp.all
    rw [M.nsize, hl]
    simp
  | true =>
    (repeat (first | refine W.ctl rfl ?_ | refine W.op rfl rfl rfl rfl ?_ | refine W.skip rfl rfl ?_ | refine W.fld rfl rfl rfl rfl rfl ?_ | refine W.ld rfl rfl rfl rfl rfl ?_))
    refine W.len rfl rfl rfl rfl rfl ?_
    refine W.ar (r := 1 + 8 * (N.keys.length : Int) + (N.keys.length : Int)) rfl rfl rfl rfl rfl rfl rfl (wrap_i64 (by omega) (by omega)) ?_
    (repeat (first | refine W.ctl rfl ?_ | refine W.op rfl rfl rfl rfl ?_ | refine W.skip rfl rfl ?_ | refine W.fld rfl rfl rfl rfl rfl ?_ | refine W.ld rfl rfl rfl rfl rfl ?_))
    refine W.len rfl rfl rfl rfl rfl ?_
    (repeat (first | refine W.ctl rfl ?_ | refine W.op rfl rfl rfl rfl ?_ | refine W.skip rfl rfl ?_ | refine W.fld rfl rfl rfl rfl rfl ?_ | refine W.ld rfl rfl rfl rfl rfl ?_))
    have hsum := fun i => sum_le (l := N.vals.take i) fun v hv => hN.val v (List.mem_of_mem_take hv)
    refine W.loop (σ := Nat) (fun i => i ≤ N.vals.length) (fun i => [(3, int (1 + 9 * N.keys.length + ((N.vals.take i).map List.length).sum : Nat)), (26, sv x.va N.vals.length x.vc), (27, int N.vals.length), (28, int i)]) (fun _ => NodeB N x R) (fun i => N.vals.length - i) 0 (by omega) ?_ Imp.all ?_
    · refine ⟨?_, rfl, rfl, rfl, trivial⟩
      show some _ = some _
      simp; omega
    intro i hi
    (repeat (first | refine W.ctl rfl ?_ | refine W.op rfl rfl rfl rfl ?_ | refine W.skip rfl rfl ?_ | refine W.fld rfl rfl rfl rfl rfl ?_ | refine W.ld rfl rfl rfl rfl rfl ?_))
    by_cases h1 : (i : Int) < N.vals.length
    · refine W.yes rfl rfl rfl rfl h1 ?_
      (repeat (first | refine W.ctl rfl ?_ | refine W.op rfl rfl rfl rfl ?_ | refine W.skip rfl rfl ?_ | refine W.fld rfl rfl rfl rfl rfl ?_ | refine W.ld rfl rfl rfl rfl rfl ?_))
      have h1' : i < N.vals.length := by omega
      refine W.idxk rfl rfl rfl rfl rfl rfl (by omega) (by omega) ?_
      refine W.ldk (v := str N.vals[i]) rfl rfl rfl rfl rfl (by simp [h1']) ?_
      (repeat (first | refine W.ctl rfl ?_ | refine W.op rfl rfl rfl rfl ?_ | refine W.skip rfl rfl ?_ | refine W.fld rfl rfl rfl rfl rfl ?_ | refine W.ld rfl rfl rfl rfl rfl ?_))
      refine W.slen rfl rfl rfl rfl rfl ?_
      have e := hsum (i + 1)
      have e1 : ((N.vals.take (i + 1)).map List.length).sum = ((N.vals.take i).map List.length).sum + (N.vals[i]).length := by
        rw [List.take_add_one, List.getElem?_eq_getElem h1', Option.toList_some, List.map_append, List.sum_append]; simp only [List.map_cons, List.map_nil, List.sum_cons, List.sum_nil, Nat.add_zero]
      have e2 : (N.vals.take (i + 1)).length ≤ 4096 := by simp; omega
      have e3 := Nat.mul_le_mul_right 4294967296 e2
      refine W.ar (r := (1 + 9 * N.keys.length + ((N.vals.take (i + 1)).map List.length).sum : Nat)) rfl rfl rfl rfl rfl rfl ?_ (wrap_i64 (by omega) (by omega)) ?_
      · rw [e1]; exact congrArg some (by omega)
      (repeat (first | refine W.ctl rfl ?_ | refine W.op rfl rfl rfl rfl ?_ | refine W.skip rfl rfl ?_ | refine W.fld rfl rfl rfl rfl rfl ?_ | refine W.ld rfl rfl rfl rfl rfl ?_))
      refine W.ar (r := ((i + 1 : Nat) : Int)) rfl rfl rfl rfl rfl rfl rfl (wrap_i64 (by omega) (by omega)) ?_
      (repeat (first | refine W.ctl rfl ?_ | refine W.op rfl rfl rfl rfl ?_ | refine W.skip rfl rfl ?_ | refine W.fld rfl rfl rfl rfl rfl ?_ | refine W.ld rfl rfl rfl rfl rfl ?_))
      exact W.again (i + 1) (by omega) (by omega) ⟨rfl, rfl, rfl, rfl, trivial⟩ Imp.all
    · refine W.no rfl rfl rfl rfl h1 ?_
      (repeat (first | refine W.ctl rfl ?_ | refine W.op rfl rfl rfl rfl ?_ | refine W.skip rfl rfl ?_ | refine W.fld rfl rfl rfl rfl rfl ?_ | refine W.ld rfl rfl rfl rfl rfl ?_))
      have hi' : i = N.vals.length := by omega
      refine W.ret1 (.inr rfl) rfl rfl (NodeH N x) ⟨?_, rfl⟩ Imp.all
      rw [hi', M.nsize, hl]
      simp; omega
theorem idx_str (f : FuncId) (p : Value → Bool) (a : Option Nat) (n cap : Nat) (vs : List Value) (hvl : vs.length = n) (hn : n < 9223372036854775808) (hc : ∀ (args : Array Value) (w : World), (callFunc f args).run Pg w = .ok (.enter f args) w)
    (hf : ∀ v ∈ vs, CS f [v] emp fun r H' => r = .bool (p v) ∧ H' = emp) : CS 212 [sv a n cap, .func (.func f) #[] #[]] (slck 1 9 (sv a n cap) n vs)
      fun v H' => v = int (match vs.findIdx? p with | some i => (i : Int) | none => -1) ∧ H' = slck 1 9 (sv a n cap) n vs := by
  subst hvl
  refine CS.walk Tryz.func212 rfl Tryz.ntmps212 rfl fun c R => ?_
  (repeat (first | refine W.ctl rfl ?_ | refine W.op rfl rfl rfl rfl ?_ | refine W.skip rfl rfl ?_ | refine W.fld rfl rfl rfl rfl rfl ?_ | refine W.ld rfl rfl rfl rfl rfl ?_))
  refine W.len rfl rfl rfl rfl rfl ?_
  (repeat (first | refine W.ctl rfl ?_ | refine W.op rfl rfl rfl rfl ?_ | refine W.skip rfl rfl ?_ | refine W.fld rfl rfl rfl rfl rfl ?_ | refine W.ld rfl rfl rfl rfl rfl ?_))
  refine W.loop (σ := Nat) (fun i => i ≤ vs.length ∧ ∀ j, j < i → ∀ v, vs[j]? = some v → p v = false) (fun i => [(0, sv a vs.length cap), (1, .func (.func f) #[] #[]), (7, int vs.length), (8, int i)]) (fun _ => slck 1 9 (sv a vs.length cap) vs.length vs • R) (fun i => vs.length - i) 0 ⟨by omega, fun j hj => absurd hj (by omega)⟩ ⟨rfl, rfl, rfl, rfl, trivial⟩ Imp.all ?_
  rintro i ⟨hi, hp⟩
  (repeat (first | refine W.ctl rfl ?_ | refine W.op rfl rfl rfl rfl ?_ | refine W.skip rfl rfl ?_ | refine W.fld rfl rfl rfl rfl rfl ?_ | refine W.ld rfl rfl rfl rfl rfl ?_))
  by_cases h1 : (i : Int) < vs.length
  · refine W.yes rfl rfl rfl rfl h1 ?_
    (repeat (first | refine W.ctl rfl ?_ | refine W.op rfl rfl rfl rfl ?_ | refine W.skip rfl rfl ?_ | refine W.fld rfl rfl rfl rfl rfl ?_ | refine W.ld rfl rfl rfl rfl rfl ?_))
    have h1' : i < vs.length := by omega
    refine W.idxk rfl rfl rfl rfl rfl rfl (by omega) (by omega) ?_
    refine W.ldk (v := vs[i]) rfl rfl rfl rfl rfl (by simp [h1']) ?_
    refine W.callv (caps := []) (vs := [vs[i]]) (hf vs[i] (List.getElem_mem _)) rfl rfl rfl rfl rfl hc ⟨rfl, trivial⟩ ?_
    rintro _ _ ⟨rfl, rfl⟩
    cases hq : p vs[i] with
    | true =>
      (repeat (first | refine W.ctl rfl ?_ | refine W.op rfl rfl rfl rfl ?_ | refine W.skip rfl rfl ?_ | refine W.fld rfl rfl rfl rfl rfl ?_ | refine W.ld rfl rfl rfl rfl rfl ?_))
      have e : vs.findIdx? p = some i := by
        rw [List.findIdx?_eq_some_iff_getElem]
        refine ⟨h1', hq, fun j hj => ?_⟩
        have := hp j hj vs[j] (by simp)
        simp [this]
      rw [e]
      exact W.ret1 (.inr rfl) rfl rfl _ ⟨rfl, rfl⟩ Imp.all
    | false =>
      (repeat (first | refine W.ctl rfl ?_ | refine W.op rfl rfl rfl rfl ?_ | refine W.skip rfl rfl ?_ | refine W.fld rfl rfl rfl rfl rfl ?_ | refine W.ld rfl rfl rfl rfl rfl ?_))
      refine W.ar (r := ((i + 1 : Nat) : Int)) rfl rfl rfl rfl rfl rfl rfl (wrap_i64 (by omega) (by omega)) ?_
      (repeat (first | refine W.ctl rfl ?_ | refine W.op rfl rfl rfl rfl ?_ | refine W.skip rfl rfl ?_ | refine W.fld rfl rfl rfl rfl rfl ?_ | refine W.ld rfl rfl rfl rfl rfl ?_))
      refine W.again (i + 1) ⟨by omega, fun j hj v hv => ?_⟩ (by omega) ⟨rfl, rfl, rfl, rfl, trivial⟩ Imp.all
      by_cases hji : j = i
      · subst hji
        rw [List.getElem?_eq_getElem h1'] at hv
        cases hv; exact hq
      · exact hp j (by omega) v hv
  · refine W.no rfl rfl rfl rfl h1 ?_
    (repeat (first | refine W.ctl rfl ?_ | refine W.op rfl rfl rfl rfl ?_ | refine W.skip rfl rfl ?_ | refine W.fld rfl rfl rfl rfl rfl ?_ | refine W.ld rfl rfl rfl rfl rfl ?_))
    have e : vs.findIdx? p = none := by
      rw [List.findIdx?_eq_none_iff]
      intro v hv
      obtain ⟨j, hj, rfl⟩ := List.getElem_of_mem hv
      exact hp j (by omega) _ (by simp)
    rw [e]
    exact W.ret1 (.inr rfl) rfl rfl _ ⟨rfl, rfl⟩ Imp.all
theorem has_str (f : FuncId) (p : Value → Bool) (a : Option Nat) (n cap : Nat) (vs : List Value) (hvl : vs.length = n) (hn : n < 9223372036854775808) (hc : ∀ (args : Array Value) (w : World), (callFunc f args).run Pg w = .ok (.enter f args) w)
    (hf : ∀ v ∈ vs, CS f [v] emp fun r H' => r = .bool (p v) ∧ H' = emp) : CS 204 [sv a n cap, .func (.func f) #[] #[]] (slck 1 9 (sv a n cap) n vs)
      fun v H' => v = .bool (vs.any p) ∧ H' = slck 1 9 (sv a n cap) n vs := by
  subst hvl
  refine CS.walk Tryz.func204 rfl Tryz.ntmps204 rfl fun c R => ?_
  (repeat (first | refine W.ctl rfl ?_ | refine W.op rfl rfl rfl rfl ?_ | refine W.skip rfl rfl ?_ | refine W.fld rfl rfl rfl rfl rfl ?_ | refine W.ld rfl rfl rfl rfl rfl ?_))
  refine W.call (idx_str f p a vs.length cap vs rfl hn hc hf) rfl rfl rfl rfl Tryz.call212 ⟨rfl, rfl, trivial⟩ ?_
  rintro _ _ ⟨rfl, rfl⟩
  refine W.cmp rfl rfl rfl rfl ?_
  (repeat (first | refine W.ctl rfl ?_ | refine W.op rfl rfl rfl rfl ?_ | refine W.skip rfl rfl ?_ | refine W.fld rfl rfl rfl rfl rfl ?_ | refine W.ld rfl rfl rfl rfl rfl ?_))
  refine W.ret1 (.inr rfl) rfl rfl _ ⟨?_, rfl⟩ Imp.all
  cases e : vs.findIdx? p with
  | none =>
    have h : vs.any p = false := by
      rw [List.findIdx?_eq_none_iff] at e
      simpa using e
    rw [h]; rfl
  | some i =>
    have h : vs.any p = true := by
      rw [List.findIdx?_eq_some_iff_getElem] at e
      obtain ⟨h1, h2, _⟩ := e
      exact List.any_eq_true.2 ⟨_, List.getElem_mem h1, h2⟩
    rw [h]
    simp
theorem idx_int (f : FuncId) (p : Value → Bool) (a : Option Nat) (n cap : Nat) (vs : List Value) (hvl : vs.length = n) (hn : n < 9223372036854775808) (hc : ∀ (args : Array Value) (w : World), (callFunc f args).run Pg w = .ok (.enter f args) w)
    (hf : ∀ v ∈ vs, CS f [v] emp fun r H' => r = .bool (p v) ∧ H' = emp) : CS 213 [sv a n cap, .func (.func f) #[] #[]] (slck 1 3 (sv a n cap) n vs)
      fun v H' => v = int (match vs.findIdx? p with | some i => (i : Int) | none => -1) ∧ H' = slck 1 3 (sv a n cap) n vs := by
  subst hvl
  refine CS.walk Tryz.func213 rfl Tryz.ntmps213 rfl fun c R => ?_
  (repeat (first | refine W.ctl rfl ?_ | refine W.op rfl rfl rfl rfl ?_ | refine W.skip rfl rfl ?_ | refine W.fld rfl rfl rfl rfl rfl ?_ | refine W.ld rfl rfl rfl rfl rfl ?_))
  refine W.len rfl rfl rfl rfl rfl ?_
  (repeat (first | refine W.ctl rfl ?_ | refine W.op rfl rfl rfl rfl ?_ | refine W.skip rfl rfl ?_ | refine W.fld rfl rfl rfl rfl rfl ?_ | refine W.ld rfl rfl rfl rfl rfl ?_))
  refine W.loop (σ := Nat) (fun i => i ≤ vs.length ∧ ∀ j, j < i → ∀ v, vs[j]? = some v → p v = false) (fun i => [(0, sv a vs.length cap), (1, .func (.func f) #[] #[]), (7, int vs.length), (8, int i)]) (fun _ => slck 1 3 (sv a vs.length cap) vs.length vs • R) (fun i => vs.length - i) 0 ⟨by omega, fun j hj => absurd hj (by omega)⟩ ⟨rfl, rfl, rfl, rfl, trivial⟩ Imp.all ?_
  rintro i ⟨hi, hp⟩
  (repeat (first | refine W.ctl rfl ?_ | refine W.op rfl rfl rfl rfl ?_ | refine W.skip rfl rfl ?_ | refine W.fld rfl rfl rfl rfl rfl ?_ | refine W.ld rfl rfl rfl rfl rfl ?_))
  by_cases h1 : (i : Int) < vs.length
  · refine W.yes rfl rfl rfl rfl h1 ?_
    (repeat (first | refine W.ctl rfl ?_ | refine W.op rfl rfl rfl rfl ?_ | refine W.skip rfl rfl ?_ | refine W.fld rfl rfl rfl rfl rfl ?_ | refine W.ld rfl rfl rfl rfl rfl ?_))
    have h1' : i < vs.length := by omega
    refine W.idxk rfl rfl rfl rfl rfl rfl (by omega) (by omega) ?_
    refine W.ldk (v := vs[i]) rfl rfl rfl rfl rfl (by simp [h1']) ?_
    refine W.callv (caps := []) (vs := [vs[i]]) (hf vs[i] (List.getElem_mem _)) rfl rfl rfl rfl rfl hc ⟨rfl, trivial⟩ ?_
    rintro _ _ ⟨rfl, rfl⟩
    cases hq : p vs[i] with
    | true =>
      (repeat (first | refine W.ctl rfl ?_ | refine W.op rfl rfl rfl rfl ?_ | refine W.skip rfl rfl ?_ | refine W.fld rfl rfl rfl rfl rfl ?_ | refine W.ld rfl rfl rfl rfl rfl ?_))
      have e : vs.findIdx? p = some i := by
        rw [List.findIdx?_eq_some_iff_getElem]
        refine ⟨h1', hq, fun j hj => ?_⟩
        have := hp j hj vs[j] (by simp)
        simp [this]
      rw [e]
      exact W.ret1 (.inr rfl) rfl rfl _ ⟨rfl, rfl⟩ Imp.all
    | false =>
      (repeat (first | refine W.ctl rfl ?_ | refine W.op rfl rfl rfl rfl ?_ | refine W.skip rfl rfl ?_ | refine W.fld rfl rfl rfl rfl rfl ?_ | refine W.ld rfl rfl rfl rfl rfl ?_))
      refine W.ar (r := ((i + 1 : Nat) : Int)) rfl rfl rfl rfl rfl rfl rfl (wrap_i64 (by omega) (by omega)) ?_
      (repeat (first | refine W.ctl rfl ?_ | refine W.op rfl rfl rfl rfl ?_ | refine W.skip rfl rfl ?_ | refine W.fld rfl rfl rfl rfl rfl ?_ | refine W.ld rfl rfl rfl rfl rfl ?_))
      refine W.again (i + 1) ⟨by omega, fun j hj v hv => ?_⟩ (by omega) ⟨rfl, rfl, rfl, rfl, trivial⟩ Imp.all
      by_cases hji : j = i
      · subst hji
        rw [List.getElem?_eq_getElem h1'] at hv
        cases hv; exact hq
      · exact hp j (by omega) v hv
  · refine W.no rfl rfl rfl rfl h1 ?_
    (repeat (first | refine W.ctl rfl ?_ | refine W.op rfl rfl rfl rfl ?_ | refine W.skip rfl rfl ?_ | refine W.fld rfl rfl rfl rfl rfl ?_ | refine W.ld rfl rfl rfl rfl rfl ?_))
    have e : vs.findIdx? p = none := by
      rw [List.findIdx?_eq_none_iff]
      intro v hv
      obtain ⟨j, hj, rfl⟩ := List.getElem_of_mem hv
      exact hp j (by omega) _ (by simp)
    rw [e]
    exact W.ret1 (.inr rfl) rfl rfl _ ⟨rfl, rfl⟩ Imp.all
theorem has_int (f : FuncId) (p : Value → Bool) (a : Option Nat) (n cap : Nat) (vs : List Value) (hvl : vs.length = n) (hn : n < 9223372036854775808) (hc : ∀ (args : Array Value) (w : World), (callFunc f args).run Pg w = .ok (.enter f args) w)
    (hf : ∀ v ∈ vs, CS f [v] emp fun r H' => r = .bool (p v) ∧ H' = emp) : CS 205 [sv a n cap, .func (.func f) #[] #[]] (slck 1 3 (sv a n cap) n vs)
      fun v H' => v = .bool (vs.any p) ∧ H' = slck 1 3 (sv a n cap) n vs := by
  subst hvl
  refine CS.walk Tryz.func205 rfl Tryz.ntmps205 rfl fun c R => ?_
  (repeat (first | refine W.ctl rfl ?_ | refine W.op rfl rfl rfl rfl ?_ | refine W.skip rfl rfl ?_ | refine W.fld rfl rfl rfl rfl rfl ?_ | refine W.ld rfl rfl rfl rfl rfl ?_))
  refine W.call (idx_int f p a vs.length cap vs rfl hn hc hf) rfl rfl rfl rfl Tryz.call213 ⟨rfl, rfl, trivial⟩ ?_
  rintro _ _ ⟨rfl, rfl⟩
  refine W.cmp rfl rfl rfl rfl ?_
  (repeat (first | refine W.ctl rfl ?_ | refine W.op rfl rfl rfl rfl ?_ | refine W.skip rfl rfl ?_ | refine W.fld rfl rfl rfl rfl rfl ?_ | refine W.ld rfl rfl rfl rfl rfl ?_))
  refine W.ret1 (.inr rfl) rfl rfl _ ⟨?_, rfl⟩ Imp.all
  cases e : vs.findIdx? p with
  | none =>
    have h : vs.any p = false := by
      rw [List.findIdx?_eq_none_iff] at e
      simpa using e
    rw [h]; rfl
  | some i =>
    have h : vs.any p = true := by
      rw [List.findIdx?_eq_some_iff_getElem] at e
      obtain ⟨h1, h2, _⟩ := e
      exact List.any_eq_true.2 ⟨_, List.getElem_mem h1, h2⟩
    rw [h]
    simp
end Go.Proofs.YtbdhhedfplkidaaGreat
