/- Whether a node is right. -/
import Derived.Test.YtbdhhedfplkidaaGreatC6
namespace Go.Proofs.YtbdhhedfplkidaaGreat
open Go
open M (Str)
set_option maxHeartbeats 400000
set_option maxRecDepth 2000
def longV : Value → Bool
  | .string s => decide (40 < s.size)
  | _ => false
def wrongV : Value → Bool
  | .int _ k => decide (k < 2 ∨ 640 ≤ k)
  | _ => false
theorem plain_long (s : Str) (hs : s.length < 9223372036854775808) : CS 202 [str s] emp fun v H' => v = .bool (longV (str s)) ∧ H' = emp := by
  refine CS.walk Tryz.func202 rfl Tryz.ntmps202 rfl fun c R => ?_
  (repeat (first | refine W.ctl rfl ?_ | refine W.op rfl rfl rfl rfl ?_ | refine W.skip rfl rfl ?_ | refine W.fld rfl rfl rfl rfl rfl ?_ | refine W.ld rfl rfl rfl rfl rfl ?_))
  refine W.slen rfl rfl rfl rfl rfl ?_
  refine W.cmp rfl rfl rfl rfl ?_
  (repeat (first | refine W.ctl rfl ?_ | refine W.op rfl rfl rfl rfl ?_ | refine W.skip rfl rfl ?_ | refine W.fld rfl rfl rfl rfl rfl ?_ | refine W.ld rfl rfl rfl rfl rfl ?_))
  refine W.ret1 (.inr rfl) rfl rfl _ ⟨?_, rfl⟩ Imp.all
  simp only [longV, str]
  congr 1
  simp [ByteArray.size]; omega
theorem plain_wrong (k : Int) : CS 203 [int k] emp fun v H' => v = .bool (wrongV (int k)) ∧ H' = emp := by
  refine CS.walk Tryz.func203 rfl Tryz.ntmps203 rfl fun c R => ?_
  (repeat (first | refine W.ctl rfl ?_ | refine W.op rfl rfl rfl rfl ?_ | refine W.skip rfl rfl ?_ | refine W.fld rfl rfl rfl rfl rfl ?_ | refine W.ld rfl rfl rfl rfl rfl ?_))
  by_cases h : k < 2
  · refine W.yes rfl rfl rfl rfl h ?_
    (repeat (first | refine W.ctl rfl ?_ | refine W.op rfl rfl rfl rfl ?_ | refine W.skip rfl rfl ?_ | refine W.fld rfl rfl rfl rfl rfl ?_ | refine W.ld rfl rfl rfl rfl rfl ?_))
    refine W.ret1 (.inr rfl) rfl rfl _ ⟨?_, rfl⟩ Imp.all
    simp [wrongV, h]
  · refine W.no rfl rfl rfl rfl h ?_
    (repeat (first | refine W.ctl rfl ?_ | refine W.op rfl rfl rfl rfl ?_ | refine W.skip rfl rfl ?_ | refine W.fld rfl rfl rfl rfl rfl ?_ | refine W.ld rfl rfl rfl rfl rfl ?_))
    refine W.cmp rfl rfl rfl rfl ?_
    (repeat (first | refine W.ctl rfl ?_ | refine W.op rfl rfl rfl rfl ?_ | refine W.skip rfl rfl ?_ | refine W.fld rfl rfl rfl rfl rfl ?_ | refine W.ld rfl rfl rfl rfl rfl ?_))
    refine W.ret1 (.inr rfl) rfl rfl _ ⟨?_, rfl⟩ Imp.all
    simp [wrongV, h]
theorem any_long (l : List Str) : (l.map str).any longV = !l.all fun v => decide (v.length ≤ 40) := by
  induction l with
  | nil => rfl
  | cons s l ih =>
    simp only [List.map_cons, List.any_cons, ih, List.all_cons, Bool.not_and]
    congr 1
    simp only [longV, str]
    by_cases h : s.length ≤ 40
    · simp [ByteArray.size, h]
    · simp [ByteArray.size, h]; try omega
theorem any_wrong (l : List Int) : (l.map int).any wrongV = !l.all fun k => decide (2 ≤ k ∧ k < 640) := by
  induction l with
  | nil => rfl
  | cons s l ih =>
    simp only [List.map_cons, List.any_cons, ih, List.all_cons, Bool.not_and]
    congr 1
    simp only [wrongV]
    by_cases h : 2 ≤ s ∧ s < 640
    · simp [h]
    · simp only [h, decide_false, Bool.not_false, decide_eq_true_eq]; omega
/-- Up to here they rise. -/
def risesTo (ks : List Nat) (i : Nat) : Prop := ∀ j a b, j + 1 < i → ks[j]? = some a → ks[j + 1]? = some b → a < b
theorem rising_iff : ∀ ks : List Nat, M.rising ks = true ↔ risesTo ks ks.length
  | [] => by simp [M.rising, risesTo]
  | [a] => by
    simp only [M.rising, risesTo, List.length_singleton, true_iff]
    intro j a b h; omega
  | a :: b :: l => by
    simp only [M.rising, Bool.and_eq_true, decide_eq_true_eq, rising_iff (b :: l)]
    constructor
    · rintro ⟨h, k⟩ j x y hj hx hy
      cases j with
      | zero => simp at hx hy; omega
      | succ j => exact k j x y (by simp at hj ⊢; omega) (by simpa using hx) (by simpa using hy)
    · intro h
      exact ⟨h 0 a b (by simp) rfl rfl, fun j x y hj hx hy => h (j + 1) x y (by simp at hj ⊢; omega) (by simpa using hx) (by simpa using hy)⟩
theorem node_plain (N : M.Node) (x : NP) (hN : NB N) : CS 184 [nodeV N x] (NodeH N x) fun v H' => v = .bool (M.plain N) ∧ H' = NodeH N x := by
  have hk := hN.keys
  have hv := hN.vals
  have hd := hN.kids
  obtain ⟨vn, hvn⟩ : ∃ vn, (if N.leaf then N.keys.length else 0) = vn := ⟨_, rfl⟩
  obtain ⟨dn, hdn⟩ : ∃ dn, (if N.leaf then 0 else N.keys.length + 1) = dn := ⟨_, rfl⟩
  have hpl : M.plain N = (N.vals.length == vn && N.kids.length == dn && M.rising N.keys && N.vals.all (fun v => decide (v.length ≤ 40)) && N.kids.all (fun k => decide (2 ≤ k ∧ k < 640))) := by rw [M.plain, hvn, hdn]
  refine CS.walk Tryz.func184 rfl Tryz.ntmps184 rfl fun c R => ?_
  simp only [NodeH, NodeB, sep_assoc', emp_sep]
  (repeat (first | refine W.ctl rfl ?_ | refine W.op rfl rfl rfl rfl ?_ | refine W.skip rfl rfl ?_ | refine W.fld rfl rfl rfl rfl rfl ?_ | refine W.ld rfl rfl rfl rfl rfl ?_))
  refine W.box rfl rfl rfl rfl rfl fun b => ?_
  (repeat (first | refine W.ctl rfl ?_ | refine W.op rfl rfl rfl rfl ?_ | refine W.skip rfl rfl ?_ | refine W.fld rfl rfl rfl rfl rfl ?_ | refine W.ld rfl rfl rfl rfl rfl ?_))
  refine W.len rfl rfl rfl rfl rfl ?_
  (repeat (first | refine W.ctl rfl ?_ | refine W.op rfl rfl rfl rfl ?_ | refine W.skip rfl rfl ?_ | refine W.fld rfl rfl rfl rfl rfl ?_ | refine W.ld rfl rfl rfl rfl rfl ?_))
  refine W.join (σ := Unit) (fun _ => True) (fun _ => [(1, .pointer (some ⟨b, 0, none⟩)), (3, int vn), (4, int dn)]) (fun _ => row b 114 [Value.bool N.leaf, sv x.ka N.keys.length x.kc, sv x.va N.vals.length x.vc, sv x.da N.kids.length x.dc] • NodeB N x R) ?_ fun _ _ => ?_
  · cases hl : N.leaf with
    | true =>
      simp only [hl, if_true] at hvn hdn
      (repeat (first | refine W.ctl rfl ?_ | refine W.op rfl rfl rfl rfl ?_ | refine W.skip rfl rfl ?_ | refine W.fld rfl rfl rfl rfl rfl ?_ | refine W.ld rfl rfl rfl rfl rfl ?_))
      exact W.meet () trivial ⟨rfl, by rw [← hvn]; rfl, by rw [← hdn]; rfl, trivial⟩ Imp.all
    | false =>
      simp only [hl, Bool.false_eq_true, if_false] at hvn hdn
      (repeat (first | refine W.ctl rfl ?_ | refine W.op rfl rfl rfl rfl ?_ | refine W.skip rfl rfl ?_ | refine W.fld rfl rfl rfl rfl rfl ?_ | refine W.ld rfl rfl rfl rfl rfl ?_))
      refine W.draw (by kernel_rfl) (by kernel_rfl) ?_
      (repeat (first | refine W.ctl rfl ?_ | refine W.op rfl rfl rfl rfl ?_ | refine W.skip rfl rfl ?_ | refine W.fld rfl rfl rfl rfl rfl ?_ | refine W.ld rfl rfl rfl rfl rfl ?_))
      refine W.len rfl rfl rfl rfl rfl ?_
      refine W.ar (r := (N.keys.length : Int) + 1) rfl rfl rfl rfl rfl rfl rfl (wrap_i64 (by omega) (by omega)) ?_
      (repeat (first | refine W.ctl rfl ?_ | refine W.op rfl rfl rfl rfl ?_ | refine W.skip rfl rfl ?_ | refine W.fld rfl rfl rfl rfl rfl ?_ | refine W.ld rfl rfl rfl rfl rfl ?_))
      exact W.meet () trivial ⟨rfl, by rw [← hvn]; rfl, by rw [← hdn]; rfl, trivial⟩ Imp.all
  have hvn' : vn ≤ 4096 := by rw [← hvn]; split <;> omega
  have hdn' : dn ≤ 4097 := by rw [← hdn]; split <;> omega
  (repeat (first | refine W.ctl rfl ?_ | refine W.op rfl rfl rfl rfl ?_ | refine W.skip rfl rfl ?_ | refine W.fld rfl rfl rfl rfl rfl ?_ | refine W.ld rfl rfl rfl rfl rfl ?_))
  refine W.len rfl rfl rfl rfl rfl ?_
  (repeat (first | refine W.ctl rfl ?_ | refine W.op rfl rfl rfl rfl ?_ | refine W.skip rfl rfl ?_ | refine W.fld rfl rfl rfl rfl rfl ?_ | refine W.ld rfl rfl rfl rfl rfl ?_))
  by_cases h1 : (N.vals.length : Int) ≠ vn
  · refine W.yes rfl rfl rfl rfl h1 ?_
    (repeat (first | refine W.ctl rfl ?_ | refine W.op rfl rfl rfl rfl ?_ | refine W.skip rfl rfl ?_ | refine W.fld rfl rfl rfl rfl rfl ?_ | refine W.ld rfl rfl rfl rfl rfl ?_))
    refine W.ret1 (.inr rfl) rfl rfl _ ⟨?_, rfl⟩ Imp.all
    rw [hpl, show (N.vals.length == vn) = false by simp; omega]; simp
  refine W.no rfl rfl rfl rfl h1 ?_
  (repeat (first | refine W.ctl rfl ?_ | refine W.op rfl rfl rfl rfl ?_ | refine W.skip rfl rfl ?_ | refine W.fld rfl rfl rfl rfl rfl ?_ | refine W.ld rfl rfl rfl rfl rfl ?_))
  refine W.len rfl rfl rfl rfl rfl ?_
  (repeat (first | refine W.ctl rfl ?_ | refine W.op rfl rfl rfl rfl ?_ | refine W.skip rfl rfl ?_ | refine W.fld rfl rfl rfl rfl rfl ?_ | refine W.ld rfl rfl rfl rfl rfl ?_))
  by_cases h2 : (N.kids.length : Int) ≠ dn
  · refine W.yes rfl rfl rfl rfl h2 ?_
    (repeat (first | refine W.ctl rfl ?_ | refine W.op rfl rfl rfl rfl ?_ | refine W.skip rfl rfl ?_ | refine W.fld rfl rfl rfl rfl rfl ?_ | refine W.ld rfl rfl rfl rfl rfl ?_))
    refine W.ret1 (.inr rfl) rfl rfl _ ⟨?_, rfl⟩ Imp.all
    rw [hpl, show (N.kids.length == dn) = false by simp; omega]; simp
  refine W.no rfl rfl rfl rfl h2 ?_
  have e1 : (N.vals.length == vn) = true := by simp; omega
  have e2 : (N.kids.length == dn) = true := by simp; omega
  rw [e1, e2] at hpl
  (repeat (first | refine W.ctl rfl ?_ | refine W.op rfl rfl rfl rfl ?_ | refine W.skip rfl rfl ?_ | refine W.fld rfl rfl rfl rfl rfl ?_ | refine W.ld rfl rfl rfl rfl rfl ?_))
  refine W.len rfl rfl rfl rfl rfl ?_
  (repeat (first | refine W.ctl rfl ?_ | refine W.op rfl rfl rfl rfl ?_ | refine W.skip rfl rfl ?_ | refine W.fld rfl rfl rfl rfl rfl ?_ | refine W.ld rfl rfl rfl rfl rfl ?_))
  refine W.loop (σ := Nat) (fun i => i ≤ N.keys.length ∧ risesTo N.keys i) (fun i => [(1, .pointer (some ⟨b, 0, none⟩)), (32, int N.keys.length), (33, int i)]) (fun _ => row b 114 [Value.bool N.leaf, sv x.ka N.keys.length x.kc, sv x.va N.vals.length x.vc, sv x.da N.kids.length x.dc] • NodeB N x R) (fun i => N.keys.length - i) 0 ⟨by omega, fun j a b h => absurd h (by omega)⟩ ⟨rfl, rfl, rfl, trivial⟩ Imp.all ?_
  rintro i ⟨hi, hr⟩
  (repeat (first | refine W.ctl rfl ?_ | refine W.op rfl rfl rfl rfl ?_ | refine W.skip rfl rfl ?_ | refine W.fld rfl rfl rfl rfl rfl ?_ | refine W.ld rfl rfl rfl rfl rfl ?_))
  by_cases h3 : (i : Int) < N.keys.length
  · refine W.yes rfl rfl rfl rfl h3 ?_
    have h3' : i < N.keys.length := by omega
    (repeat (first | refine W.ctl rfl ?_ | refine W.op rfl rfl rfl rfl ?_ | refine W.skip rfl rfl ?_ | refine W.fld rfl rfl rfl rfl rfl ?_ | refine W.ld rfl rfl rfl rfl rfl ?_))
    refine W.draw (by kernel_rfl) (by kernel_rfl) ?_
    (repeat (first | refine W.ctl rfl ?_ | refine W.op rfl rfl rfl rfl ?_ | refine W.skip rfl rfl ?_ | refine W.fld rfl rfl rfl rfl rfl ?_ | refine W.ld rfl rfl rfl rfl rfl ?_))
    by_cases h4 : (0 : Int) < i
    · refine W.yes rfl rfl rfl rfl h4 ?_
      obtain ⟨m, rfl⟩ : ∃ m, i = m + 1 := ⟨i - 1, by omega⟩
      (repeat (first | refine W.ctl rfl ?_ | refine W.op rfl rfl rfl rfl ?_ | refine W.skip rfl rfl ?_ | refine W.fld rfl rfl rfl rfl rfl ?_ | refine W.ld rfl rfl rfl rfl rfl ?_))
      refine W.ar (r := (m : Int)) rfl rfl rfl rfl rfl rfl (congrArg some (by omega)) (wrap_i64 (by omega) (by omega)) ?_
      (repeat (first | refine W.ctl rfl ?_ | refine W.op rfl rfl rfl rfl ?_ | refine W.skip rfl rfl ?_))
      refine W.idxk rfl rfl rfl rfl rfl rfl (by omega) (by omega) ?_
      (repeat (first | refine W.ctl rfl ?_ | refine W.op rfl rfl rfl rfl ?_ | refine W.skip rfl rfl ?_))
      refine W.ldk (v := u64 (N.keys[m]'(by omega))) rfl rfl rfl rfl rfl (by simp [show m < N.keys.length by omega]) ?_
      (repeat (first | refine W.ctl rfl ?_ | refine W.op rfl rfl rfl rfl ?_ | refine W.skip rfl rfl ?_ | refine W.fld rfl rfl rfl rfl rfl ?_ | refine W.ld rfl rfl rfl rfl rfl ?_))
      refine W.idxk rfl rfl rfl rfl rfl rfl (by omega) (by omega) ?_
      (repeat (first | refine W.ctl rfl ?_ | refine W.op rfl rfl rfl rfl ?_ | refine W.skip rfl rfl ?_))
      refine W.ldk (v := u64 (N.keys[m + 1])) rfl rfl rfl rfl rfl (by simp [h3']) ?_
      (repeat (first | refine W.ctl rfl ?_ | refine W.op rfl rfl rfl rfl ?_ | refine W.skip rfl rfl ?_))
      by_cases h5 : ((N.keys[m + 1] : Nat) : Int) ≤ ((N.keys[m]'(by omega) : Nat) : Int)
      · refine W.yes rfl rfl rfl rfl h5 ?_
        (repeat (first | refine W.ctl rfl ?_ | refine W.op rfl rfl rfl rfl ?_ | refine W.skip rfl rfl ?_ | refine W.fld rfl rfl rfl rfl rfl ?_ | refine W.ld rfl rfl rfl rfl rfl ?_))
        refine W.ret1 (.inr rfl) rfl rfl _ ⟨?_, rfl⟩ Imp.all
        have : M.rising N.keys = false := by
          cases hh : M.rising N.keys with
          | false => rfl
          | true =>
            have := (rising_iff _).1 hh m _ _ (by omega) (List.getElem?_eq_getElem (by omega)) (List.getElem?_eq_getElem h3')
            omega
        rw [hpl, this]; simp
      · refine W.no rfl rfl rfl rfl h5 ?_
        (repeat (first | refine W.ctl rfl ?_ | refine W.op rfl rfl rfl rfl ?_ | refine W.skip rfl rfl ?_ | refine W.fld rfl rfl rfl rfl rfl ?_ | refine W.ld rfl rfl rfl rfl rfl ?_))
        refine W.ar (r := ((m + 1 + 1 : Nat) : Int)) rfl rfl rfl rfl rfl rfl rfl (wrap_i64 (by omega) (by omega)) ?_
        (repeat (first | refine W.ctl rfl ?_ | refine W.op rfl rfl rfl rfl ?_ | refine W.skip rfl rfl ?_ | refine W.fld rfl rfl rfl rfl rfl ?_ | refine W.ld rfl rfl rfl rfl rfl ?_))
        refine W.again (m + 1 + 1) ⟨by omega, fun j a b hj ha hb => ?_⟩ (by omega) ⟨rfl, rfl, rfl, trivial⟩ Imp.all
        by_cases hjm : j = m
        · subst hjm
          rw [List.getElem?_eq_getElem (by omega)] at ha hb
          cases ha; cases hb; omega
        · exact hr j a b (by omega) ha hb
    · refine W.no rfl rfl rfl rfl h4 ?_
      have : i = 0 := by omega
      subst this
      (repeat (first | refine W.ctl rfl ?_ | refine W.op rfl rfl rfl rfl ?_ | refine W.skip rfl rfl ?_ | refine W.fld rfl rfl rfl rfl rfl ?_ | refine W.ld rfl rfl rfl rfl rfl ?_))
      refine W.ar (r := ((0 + 1 : Nat) : Int)) rfl rfl rfl rfl rfl rfl rfl (wrap_i64 (by omega) (by omega)) ?_
      (repeat (first | refine W.ctl rfl ?_ | refine W.op rfl rfl rfl rfl ?_ | refine W.skip rfl rfl ?_ | refine W.fld rfl rfl rfl rfl rfl ?_ | refine W.ld rfl rfl rfl rfl rfl ?_))
      exact W.again (0 + 1) ⟨by omega, fun j a b hj => absurd hj (by omega)⟩ (by omega) ⟨rfl, rfl, rfl, trivial⟩ Imp.all
  refine W.no rfl rfl rfl rfl h3 ?_
  have hin : i = N.keys.length := by omega
  subst hin
  rw [(rising_iff _).2 hr] at hpl
  (repeat (first | refine W.ctl rfl ?_ | refine W.op rfl rfl rfl rfl ?_ | refine W.skip rfl rfl ?_ | refine W.fld rfl rfl rfl rfl rfl ?_ | refine W.ld rfl rfl rfl rfl rfl ?_))
  have hlong : ∀ v ∈ N.vals.map str, CS 202 [v] emp fun r H' => r = .bool (longV v) ∧ H' = emp := by
    intro v hv
    obtain ⟨s, hs, rfl⟩ := List.mem_map.1 hv
    exact plain_long s (by have := hN.val s hs; omega)
  have hwrong : ∀ v ∈ N.kids.map int, CS 203 [v] emp fun r H' => r = .bool (wrongV v) ∧ H' = emp := by
    intro v hv
    obtain ⟨s, hs, rfl⟩ := List.mem_map.1 hv
    exact plain_wrong s
  refine W.call (has_str 202 longV x.va N.vals.length x.vc (N.vals.map str) (by simp) (by omega) Tryz.call202 hlong) rfl rfl rfl rfl Tryz.call204 ⟨rfl, rfl, trivial⟩ ?_
  rintro _ _ ⟨rfl, rfl⟩
  rw [any_long]
  cases hq : N.vals.all (fun v => decide (v.length ≤ 40)) with
  | false =>
    (repeat (first | refine W.ctl rfl ?_ | refine W.op rfl rfl rfl rfl ?_ | refine W.skip rfl rfl ?_ | refine W.fld rfl rfl rfl rfl rfl ?_ | refine W.ld rfl rfl rfl rfl rfl ?_))
    refine W.ret1 (.inr rfl) rfl rfl _ ⟨?_, rfl⟩ Imp.all
    rw [hpl, hq]; simp
  | true =>
    (repeat (first | refine W.ctl rfl ?_ | refine W.op rfl rfl rfl rfl ?_ | refine W.skip rfl rfl ?_ | refine W.fld rfl rfl rfl rfl rfl ?_ | refine W.ld rfl rfl rfl rfl rfl ?_))
    refine W.call (has_int 203 wrongV x.da N.kids.length x.dc (N.kids.map int) (by simp) (by omega) Tryz.call203 hwrong) rfl rfl rfl rfl Tryz.call205 ⟨rfl, rfl, trivial⟩ ?_
    rintro _ _ ⟨rfl, rfl⟩
    rw [any_wrong]
    (repeat (first | refine W.ctl rfl ?_ | refine W.op rfl rfl rfl rfl ?_ | refine W.skip rfl rfl ?_ | refine W.fld rfl rfl rfl rfl rfl ?_ | refine W.ld rfl rfl rfl rfl rfl ?_))
    refine W.ret1 (.inr rfl) rfl rfl _ ⟨?_, rfl⟩ Imp.all
    rw [hpl, hq]; simp
theorem node_Right (N : M.Node) (x : NP) (hN : NB N) : CS 156 [nodeV N x] (NodeH N x) fun v H' => v = .bool (M.right N) ∧ H' = NodeH N x := by
  have hk := hN.keys
  refine CS.walk Tryz.func156 rfl Tryz.ntmps156 rfl fun c R => ?_
  simp only [NodeH, NodeB, sep_assoc', emp_sep]
  (repeat (first | refine W.ctl rfl ?_ | refine W.op rfl rfl rfl rfl ?_ | refine W.skip rfl rfl ?_ | refine W.fld rfl rfl rfl rfl rfl ?_ | refine W.ld rfl rfl rfl rfl rfl ?_))
  refine W.box rfl rfl rfl rfl rfl fun b => ?_
  (repeat (first | refine W.ctl rfl ?_ | refine W.op rfl rfl rfl rfl ?_ | refine W.skip rfl rfl ?_ | refine W.fld rfl rfl rfl rfl rfl ?_ | refine W.ld rfl rfl rfl rfl rfl ?_))
  refine W.lds rfl rfl rfl rfl rfl ?_
  refine W.call (node_plain N x hN) rfl rfl rfl rfl Tryz.call184 ⟨rfl, trivial⟩ ?_
  rintro _ _ ⟨rfl, rfl⟩
  cases hp : M.plain N with
  | false =>
    (repeat (first | refine W.ctl rfl ?_ | refine W.op rfl rfl rfl rfl ?_ | refine W.skip rfl rfl ?_ | refine W.fld rfl rfl rfl rfl rfl ?_ | refine W.ld rfl rfl rfl rfl rfl ?_))
    refine W.ret1 (.inr rfl) rfl rfl _ ⟨?_, rfl⟩ Imp.all
    simp [M.right, hp]
  | true =>
    (repeat (first | refine W.ctl rfl ?_ | refine W.op rfl rfl rfl rfl ?_ | refine W.skip rfl rfl ?_ | refine W.fld rfl rfl rfl rfl rfl ?_ | refine W.ld rfl rfl rfl rfl rfl ?_))
    cases hl : N.leaf with
    | false =>
      (repeat (first | refine W.ctl rfl ?_ | refine W.op rfl rfl rfl rfl ?_ | refine W.skip rfl rfl ?_ | refine W.fld rfl rfl rfl rfl rfl ?_ | refine W.ld rfl rfl rfl rfl rfl ?_))
      refine W.lds rfl rfl rfl rfl rfl ?_
      (repeat (first | refine W.ctl rfl ?_ | refine W.op rfl rfl rfl rfl ?_ | refine W.skip rfl rfl ?_))
      refine W.call (node_Size N x hN) rfl rfl rfl rfl Tryz.call64 ⟨by rw [nodeV, hl]; rfl, trivial⟩ ?_
      rintro _ _ ⟨rfl, rfl⟩
      (repeat (first | refine W.ctl rfl ?_ | refine W.op rfl rfl rfl rfl ?_ | refine W.skip rfl rfl ?_))
      refine W.cmp rfl rfl rfl rfl ?_
      (repeat (first | refine W.ctl rfl ?_ | refine W.op rfl rfl rfl rfl ?_ | refine W.skip rfl rfl ?_ | refine W.fld rfl rfl rfl rfl rfl ?_ | refine W.ld rfl rfl rfl rfl rfl ?_))
      refine W.ret1 (.inr rfl) rfl rfl _ ⟨?_, rfl⟩ Imp.all
      simp only [M.right, hp, hl]
      congr 1; simp; omega
    | true =>
      (repeat (first | refine W.ctl rfl ?_ | refine W.op rfl rfl rfl rfl ?_ | refine W.skip rfl rfl ?_ | refine W.fld rfl rfl rfl rfl rfl ?_ | refine W.ld rfl rfl rfl rfl rfl ?_))
      refine W.len rfl rfl rfl rfl rfl ?_
      (repeat (first | refine W.ctl rfl ?_ | refine W.op rfl rfl rfl rfl ?_ | refine W.skip rfl rfl ?_))
      by_cases h0 : (0 : Int) < N.keys.length
      · refine W.yes rfl rfl rfl rfl h0 ?_
        (repeat (first | refine W.ctl rfl ?_ | refine W.op rfl rfl rfl rfl ?_ | refine W.skip rfl rfl ?_ | refine W.fld rfl rfl rfl rfl rfl ?_ | refine W.ld rfl rfl rfl rfl rfl ?_))
        refine W.lds rfl rfl rfl rfl rfl ?_
        (repeat (first | refine W.ctl rfl ?_ | refine W.op rfl rfl rfl rfl ?_ | refine W.skip rfl rfl ?_))
        refine W.call (node_Size N x hN) rfl rfl rfl rfl Tryz.call64 ⟨by rw [nodeV, hl]; rfl, trivial⟩ ?_
        rintro _ _ ⟨rfl, rfl⟩
        (repeat (first | refine W.ctl rfl ?_ | refine W.op rfl rfl rfl rfl ?_ | refine W.skip rfl rfl ?_))
        refine W.cmp rfl rfl rfl rfl ?_
        (repeat (first | refine W.ctl rfl ?_ | refine W.op rfl rfl rfl rfl ?_ | refine W.skip rfl rfl ?_ | refine W.fld rfl rfl rfl rfl rfl ?_ | refine W.ld rfl rfl rfl rfl rfl ?_))
        refine W.ret1 (.inr rfl) rfl rfl _ ⟨?_, rfl⟩ Imp.all
        have h0' : 0 < N.keys.length := by omega
        simp only [M.right, hp, hl, h0']
        congr 1; simp; omega
      · refine W.no rfl rfl rfl rfl h0 ?_
        (repeat (first | refine W.ctl rfl ?_ | refine W.op rfl rfl rfl rfl ?_ | refine W.skip rfl rfl ?_ | refine W.fld rfl rfl rfl rfl rfl ?_ | refine W.ld rfl rfl rfl rfl rfl ?_))
        refine W.ret1 (.inr rfl) rfl rfl _ ⟨?_, rfl⟩ Imp.all
        have h0' : ¬ 0 < N.keys.length := by omega
        simp [M.right, hp, hl, h0']
end Go.Proofs.YtbdhhedfplkidaaGreat
