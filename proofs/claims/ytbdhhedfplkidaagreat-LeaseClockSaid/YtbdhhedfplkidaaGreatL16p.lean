/- The clock: what it tells. -/
import Derived.Test.YtbdhhedfplkidaaGreatP3
namespace Go.Proofs.YtbdhhedfplkidaaGreat
open M (Str Store Disk Work Spot Txn)
abbrev clockN (v : Nat) : M.Node := ⟨true, [M.clockKey], [M.be 4 v], []⟩
theorem clockN_right (v : Nat) : M.right (clockN v) = true := by
  simp only [M.right, M.plain, M.nsize, M.rising, clockN, List.length_cons, List.length_nil, List.all_cons, List.all_nil, M.be_length, List.map_cons, List.map_nil, List.sum_cons, List.sum_nil, if_true]
  rfl
theorem clockN_kb (v : Nat) : KB (clockN v) := fun k hk => by
  simp [clockN] at hk; subst hk; exact clockKey_lt
theorem clockN_place : M.place [M.clockKey] M.clockKey = (0, true) := by
  simp [M.place, M.ploop]
/-- A transaction that knows the clock alone: no page, or one. -/
structure Cs (T : Txn) (o : Option Nat) : Prop where
  e : T.e = 0
  ov : T.over = false
  hl : Hl T.s
  size : T.s.size = 640
  used : T.s.used = M.noneUsed
  tree : match o with
    | none => T.root = 0 ∧ T.s.fresh = []
    | some v => 2 ≤ T.root ∧ T.root < 640 ∧ T.s.fresh = [T.root] ∧ Pn T.s T.root (clockN v)
theorem Cs.root {T : Txn} {o : Option Nat} (h : Cs T o) : 0 ≤ T.root ∧ T.root < 640 := by
  have := h.tree
  cases o with
  | none => dsimp only at this; omega
  | some v => dsimp only at this; omega
theorem way_clock {S : Store} {p : Int} {v : Nat} (hl : Hl S) (h : Pn S p (clockN v)) : M.way 11 ⟨S, 0, 0⟩ p 1 M.clockKey [] = (⟨S, 1, 0⟩, [⟨p, clockN v, 0⟩]) := by
  have hn := node_read_ok (X := ⟨S, 0, 0⟩) (deep := 1) hl h rfl (by dsimp only; omega) (by omega)
  have hf : M.find (clockN v) M.clockKey = (0, true) := by simp only [M.find, clockN, if_true]; exact clockN_place
  rw [M.way, hn]
  simp only [ne_eq, not_true_eq_false, if_false, hf, List.nil_append, if_true]
  rfl
theorem get_none {T : Txn} (h : Cs T none) : T.get M.clockKey = (T, [], false) := by
  obtain ⟨t1, t2⟩ := h.tree
  have he := h.e
  have ho := h.ov
  obtain ⟨S, root, e, ov⟩ := T
  dsimp only at t1 t2 he ho
  subst t1 he ho
  unfold Txn.get M.treeGet
  simp
theorem get_some {T : Txn} {v : Nat} (h : Cs T (some v)) : T.get M.clockKey = (T, M.be 4 v, true) := by
  obtain ⟨t1, t2, t3, t4⟩ := h.tree
  have he := h.e
  have ho := h.ov
  have hl := h.hl
  obtain ⟨S, root, e, ov⟩ := T
  dsimp only at t1 t2 t3 t4 he ho hl
  subst he ho
  have hw := way_clock hl t4
  have hf : M.find (clockN v) M.clockKey = (0, true) := by simp only [M.find, clockN, if_true]; exact clockN_place
  have hg : M.treeGet S root M.clockKey = (S, M.be 4 v, true, 0) := by
    rw [M.treeGet, if_neg (by omega), hw]
    simp [hf]
  unfold Txn.get
  rw [if_neg (by simp), hg]
  rfl
theorem clock_none {T : Txn} (h : Cs T none) : M.clock T = (T, 0, 0) := by
  rw [M.clock, get_none h]
  simp [h.e]
theorem clock_some {T : Txn} {v : Nat} (h : Cs T (some v)) (hv : v ≤ 268435455) : M.clock T = (T, (v : Int), 0) := by
  have ht : M.take (M.be 4 v) 4 = (v, [], 0) := by
    have := take_be 4 v [] (by omega) (by omega) (by omega)
    rw [List.append_nil] at this; exact this
  rw [M.clock, get_some h]
  simp only [ht]
  rw [if_neg (by simp), if_neg (by simp; omega)]
theorem put_none {T : Txn} (h : Cs T none) (v : Nat) : (T.put M.clockKey (M.be 4 v)).2 = true ∧ Cs (T.put M.clockKey (M.be 4 v)).1 (some v) := by
  obtain ⟨t1, t2⟩ := h.tree
  have he := h.e
  have ho := h.ov
  have hl := h.hl
  have hs := h.size
  have hu := h.used
  obtain ⟨S, root, e, ov⟩ := T
  dsimp only at t1 t2 he ho hl hs hu
  subst t1 he ho
  obtain ⟨m, m1, m2, m3, m4, m5⟩ := fresh_ok (X := ⟨S, 0, 0⟩) (n := clockN v) hl (by dsimp only; omega) (clockN_right v) (clockN_kb v) rfl ⟨2, by omega, by dsimp only; omega, by dsimp only; rw [hu]; exact none_has 2, by dsimp only; rw [t2]; simp⟩
  dsimp only at m2 m3 m4 m5
  have hl' : Hl { S with fresh := S.fresh ++ [m] } := ⟨hl.down, hl.gone, hl.fuse⟩
  have hs' : m < ({ S with fresh := S.fresh ++ [m] } : Store).size := m2
  have hp : M.treePut S 0 M.clockKey (M.be 4 v) = (putN { S with fresh := S.fresh ++ [m] } m (clockN v), m, 0) := by
    rw [M.treePut, if_neg (by rw [M.be_length]; omega), if_pos rfl, m5]
    simp [M.doneE]
  unfold Txn.put
  rw [if_neg (by rw [M.be_length]; omega), if_neg (by simp), hp]
  simp only [decide_true, if_true]
  refine ⟨trivial, rfl, rfl, putN_hl hl' m1 hs' (clockN_right v), ?_, hu, m1, by dsimp only; omega, by simp [putN, t2], putN_same hl' m1 hs' (clockN_right v) (clockN_kb v)⟩
  rw [putN_size hl' m1 hs' (clockN_right v)]; exact hs
theorem put_some {T : Txn} {u : Nat} (h : Cs T (some u)) (v : Nat) : (T.put M.clockKey (M.be 4 v)).2 = true ∧ Cs (T.put M.clockKey (M.be 4 v)).1 (some v) := by
  obtain ⟨t1, t2, t3, t4⟩ := h.tree
  have he := h.e
  have ho := h.ov
  have hl := h.hl
  have hs := h.size
  have hu := h.used
  obtain ⟨S, root, e, ov⟩ := T
  dsimp only at t1 t2 t3 t4 he ho hl hs hu
  subst he ho
  have hw := way_clock hl t4
  have hn : M.nput (clockN u) M.clockKey (M.be 4 v) = clockN v := by
    rw [nput_leaf rfl, show M.place (clockN u).keys M.clockKey = (0, true) from clockN_place]
    simp [M.laid, clockN, show (min (0 : Int) 1).toNat = 0 from rfl, show (min (min (0 : Int) 1 + 1) 1).toNat = 1 from rfl]
  have hz : ¬ M.nsize (clockN v) > 240 := by have := right_size (clockN_right v); omega
  have hq : M.splitQ (clockN v) = (clockN v, 0, M.Node.zero, false) := by rw [M.splitQ, if_neg hz]
  have hlay := lay_fresh_ok (X := ⟨S, 1, 0⟩) (at' := root) (n := clockN v) hl (by dsimp only; rw [t3]; simp) t1 (by dsimp only; omega) (clockN_right v) (clockN_kb v) rfl
  have hup : M.putUp [] ⟨S, 1, 0⟩ root (clockN v) = (⟨putN S root (clockN v), 1, 0⟩, root) := by
    rw [putUp_eq, if_neg (by rintro ⟨h, _⟩; exact hz h), hq]
    simp only [Bool.false_eq_true, if_false]
    rw [hlay]
    simp
  have hp : M.treePut S root M.clockKey (M.be 4 v) = (putN S root (clockN v), root, 0) := by
    rw [M.treePut, if_neg (by rw [M.be_length]; omega), if_neg (by omega), hw]
    simp [hn, hup, M.doneE]
  unfold Txn.put
  rw [if_neg (by rw [M.be_length]; omega), if_neg (by simp), hp]
  simp only [decide_true, if_true]
  have hs' : root < S.size := by omega
  refine ⟨trivial, rfl, rfl, putN_hl hl t1 hs' (clockN_right v), ?_, hu, t1, t2, t3, putN_same hl t1 hs' (clockN_right v) (clockN_kb v)⟩
  rw [putN_size hl t1 hs' (clockN_right v)]; exact hs
/-- What the clock is. -/
def val : Option Nat → Nat
  | none => 0
  | some v => v
theorem clock_law {T : Txn} {o : Option Nat} (h : Cs T o) (hv : val o ≤ 268435455) : M.clock T = (T, (val o : Int), 0) := by
  cases o with
  | none => exact clock_none h
  | some v => exact clock_some h hv
theorem tick_neg {T : Txn} {o : Option Nat} (h : Cs T o) {n : Int} (hn : n < 0) : M.tick T n = (T, 0, 1) := by
  rw [M.tick, if_neg (by simp [h.e]), if_pos hn]
theorem tick_full {T : Txn} {o : Option Nat} (h : Cs T o) (hv : val o ≤ 268435455) {n : Int} (h0 : 0 ≤ n) (hn : 268435455 - (val o : Int) < n) : M.tick T n = (T, 0, 12) := by
  rw [M.tick, if_neg (by simp [h.e]), if_neg (by omega), clock_law h hv]
  simp only [ne_eq, not_true_eq_false, if_false]
  rw [if_pos hn]
theorem tick_ok {T : Txn} {o : Option Nat} (h : Cs T o) (hv : val o ≤ 268435455) {n : Int} (h0 : 0 ≤ n) (hn : n ≤ 268435455 - (val o : Int)) : ∃ v : Nat, (v : Int) = val o + n ∧ (M.tick T n).2 = ((v : Int), 0) ∧ Cs (M.tick T n).1 (some v) := by
  obtain ⟨m, rfl⟩ := Int.eq_ofNat_of_zero_le h0
  refine ⟨val o + m, by omega, ?_⟩
  have hput : (M.put ((val o : Int) + (m : Int)).toNat 4).1 = M.be 4 (val o + m) := by
    rw [show ((val o : Int) + (m : Int)).toNat = val o + m by omega]
    exact put_lit (s := 4) (by omega) (by omega) (by omega)
  have hp : (T.put M.clockKey (M.be 4 (val o + m))).2 = true ∧ Cs (T.put M.clockKey (M.be 4 (val o + m))).1 (some (val o + m)) := by
    cases o with
    | none => exact put_none h _
    | some u => exact put_some h _
  have e : M.tick T m = ((T.put M.clockKey (M.be 4 (val o + m))).1, (val o : Int) + m, 0) := by
    rw [M.tick, if_neg (by simp [h.e]), if_neg (by omega), clock_law h hv]
    simp only [ne_eq, not_true_eq_false, if_false]
    rw [if_neg (by omega), hput, if_neg (by simp [hp.1])]
  rw [e]
  exact ⟨by simp, hp.2⟩
theorem cs_begin (S : Store) (h : Fm 640 S.rollback) : Cs (Txn.begin S) none := ⟨rfl, rfl, h.hl, h.size, h.used, h.root, h.fresh⟩
end Go.Proofs.YtbdhhedfplkidaaGreat
