/- Slices laid one behind the other. -/
import Derived.Test.YtbdhhedfplkidaaGreatC6
import Derived.Test.YtbdhhedfplkidaaGreatE9
namespace Go.Proofs.YtbdhhedfplkidaaGreat
open Go
set_option maxHeartbeats 400000
set_option maxRecDepth 2000
theorem grow_u64 (m : Nat) (hm : m ≤ 65536) : CS 180 [.slice none 0 0, int m] emp fun v H' => ∃ a cap, v = sv a 0 cap ∧ H' = slck 1 35 (sv a 0 cap) 0 [] := by
  refine CS.walk Tryz.func180 rfl Tryz.ntmps180 rfl fun c R => ?_
  (repeat (first | refine W.ctl rfl ?_ | refine W.op rfl rfl rfl rfl ?_ | refine W.skip rfl rfl ?_ | refine W.fld rfl rfl rfl rfl rfl ?_ | refine W.ld rfl rfl rfl rfl rfl ?_))
  refine W.no rfl rfl rfl rfl (by omega : ¬ (m : Int) < 0) ?_
  (repeat (first | refine W.ctl rfl ?_ | refine W.op rfl rfl rfl rfl ?_ | refine W.skip rfl rfl ?_ | refine W.fld rfl rfl rfl rfl rfl ?_ | refine W.ld rfl rfl rfl rfl rfl ?_))
  refine W.cap rfl rfl rfl rfl rfl ?_
  (repeat (first | refine W.ctl rfl ?_ | refine W.op rfl rfl rfl rfl ?_ | refine W.skip rfl rfl ?_ | refine W.fld rfl rfl rfl rfl rfl ?_ | refine W.ld rfl rfl rfl rfl rfl ?_))
  refine W.len rfl rfl rfl rfl rfl ?_
  refine W.ar (r := 0) rfl rfl rfl rfl rfl rfl rfl (wrap_i64 (by omega) (by omega)) ?_
  refine W.ar (r := (m : Int)) rfl rfl rfl rfl rfl rfl (congrArg some (by omega)) (wrap_i64 (by omega) (by omega)) ?_
  (repeat (first | refine W.ctl rfl ?_ | refine W.op rfl rfl rfl rfl ?_ | refine W.skip rfl rfl ?_ | refine W.fld rfl rfl rfl rfl rfl ?_ | refine W.ld rfl rfl rfl rfl rfl ?_))
  by_cases h : (0 : Int) < m
  · refine W.yes rfl rfl rfl rfl h ?_
    (repeat (first | refine W.ctl rfl ?_ | refine W.op rfl rfl rfl rfl ?_ | refine W.skip rfl rfl ?_ | refine W.fld rfl rfl rfl rfl rfl ?_ | refine W.ld rfl rfl rfl rfl rfl ?_))
    refine W.cap rfl rfl rfl rfl rfl ?_
    refine W.slt0 rfl rfl rfl rfl rfl rfl ?_
    (repeat (first | refine W.ctl rfl ?_ | refine W.op rfl rfl rfl rfl ?_ | refine W.skip rfl rfl ?_ | refine W.fld rfl rfl rfl rfl rfl ?_ | refine W.ld rfl rfl rfl rfl rfl ?_))
    refine W.app0 rfl rfl rfl rfl rfl rfl rfl (by omega) (by omega) (by omega) fun b cap h1 h2 => ?_
    (repeat (first | refine W.ctl rfl ?_ | refine W.op rfl rfl rfl rfl ?_ | refine W.skip rfl rfl ?_ | refine W.fld rfl rfl rfl rfl rfl ?_ | refine W.ld rfl rfl rfl rfl rfl ?_))
    refine W.len rfl rfl rfl rfl rfl ?_
    refine W.slt rfl rfl rfl rfl rfl rfl (by omega) (by omega) ?_
    (repeat (first | refine W.ctl rfl ?_ | refine W.op rfl rfl rfl rfl ?_ | refine W.skip rfl rfl ?_ | refine W.fld rfl rfl rfl rfl rfl ?_ | refine W.ld rfl rfl rfl rfl rfl ?_))
    refine W.ret1 (.inr rfl) rfl rfl _ ⟨some b, cap, rfl, rfl⟩ ?_
    have e := slck_mk (k := 1) (E := 35) (g := b) (n := 0) (cap := cap) (xs := []) (sp := List.replicate cap (Value.int IntKind.u64 0)) rfl (by omega) h2 (by simp)
    rw [List.nil_append] at e
    exact Imp.pack e Imp.all
  · refine W.no rfl rfl rfl rfl h ?_
    (repeat (first | refine W.ctl rfl ?_ | refine W.op rfl rfl rfl rfl ?_ | refine W.skip rfl rfl ?_ | refine W.fld rfl rfl rfl rfl rfl ?_ | refine W.ld rfl rfl rfl rfl rfl ?_))
    refine W.ret1 (.inr rfl) rfl rfl _ ⟨none, 0, rfl, rfl⟩ ?_
    rw [skv_nil]
    exact Imp.all
theorem grow_str (m : Nat) (hm : m ≤ 65536) : CS 181 [.slice none 0 0, int m] emp fun v H' => ∃ a cap, v = sv a 0 cap ∧ H' = slck 1 9 (sv a 0 cap) 0 [] := by
  refine CS.walk Tryz.func181 rfl Tryz.ntmps181 rfl fun c R => ?_
  (repeat (first | refine W.ctl rfl ?_ | refine W.op rfl rfl rfl rfl ?_ | refine W.skip rfl rfl ?_ | refine W.fld rfl rfl rfl rfl rfl ?_ | refine W.ld rfl rfl rfl rfl rfl ?_))
  refine W.no rfl rfl rfl rfl (by omega : ¬ (m : Int) < 0) ?_
  (repeat (first | refine W.ctl rfl ?_ | refine W.op rfl rfl rfl rfl ?_ | refine W.skip rfl rfl ?_ | refine W.fld rfl rfl rfl rfl rfl ?_ | refine W.ld rfl rfl rfl rfl rfl ?_))
  refine W.cap rfl rfl rfl rfl rfl ?_
  (repeat (first | refine W.ctl rfl ?_ | refine W.op rfl rfl rfl rfl ?_ | refine W.skip rfl rfl ?_ | refine W.fld rfl rfl rfl rfl rfl ?_ | refine W.ld rfl rfl rfl rfl rfl ?_))
  refine W.len rfl rfl rfl rfl rfl ?_
  refine W.ar (r := 0) rfl rfl rfl rfl rfl rfl rfl (wrap_i64 (by omega) (by omega)) ?_
  refine W.ar (r := (m : Int)) rfl rfl rfl rfl rfl rfl (congrArg some (by omega)) (wrap_i64 (by omega) (by omega)) ?_
  (repeat (first | refine W.ctl rfl ?_ | refine W.op rfl rfl rfl rfl ?_ | refine W.skip rfl rfl ?_ | refine W.fld rfl rfl rfl rfl rfl ?_ | refine W.ld rfl rfl rfl rfl rfl ?_))
  by_cases h : (0 : Int) < m
  · refine W.yes rfl rfl rfl rfl h ?_
    (repeat (first | refine W.ctl rfl ?_ | refine W.op rfl rfl rfl rfl ?_ | refine W.skip rfl rfl ?_ | refine W.fld rfl rfl rfl rfl rfl ?_ | refine W.ld rfl rfl rfl rfl rfl ?_))
    refine W.cap rfl rfl rfl rfl rfl ?_
    refine W.slt0 rfl rfl rfl rfl rfl rfl ?_
    (repeat (first | refine W.ctl rfl ?_ | refine W.op rfl rfl rfl rfl ?_ | refine W.skip rfl rfl ?_ | refine W.fld rfl rfl rfl rfl rfl ?_ | refine W.ld rfl rfl rfl rfl rfl ?_))
    refine W.app0 rfl rfl rfl rfl rfl rfl rfl (by omega) (by omega) (by omega) fun b cap h1 h2 => ?_
    (repeat (first | refine W.ctl rfl ?_ | refine W.op rfl rfl rfl rfl ?_ | refine W.skip rfl rfl ?_ | refine W.fld rfl rfl rfl rfl rfl ?_ | refine W.ld rfl rfl rfl rfl rfl ?_))
    refine W.len rfl rfl rfl rfl rfl ?_
    refine W.slt rfl rfl rfl rfl rfl rfl (by omega) (by omega) ?_
    (repeat (first | refine W.ctl rfl ?_ | refine W.op rfl rfl rfl rfl ?_ | refine W.skip rfl rfl ?_ | refine W.fld rfl rfl rfl rfl rfl ?_ | refine W.ld rfl rfl rfl rfl rfl ?_))
    refine W.ret1 (.inr rfl) rfl rfl _ ⟨some b, cap, rfl, rfl⟩ ?_
    have e := slck_mk (k := 1) (E := 9) (g := b) (n := 0) (cap := cap) (xs := []) (sp := List.replicate cap (Value.string { data := #[] })) rfl (by omega) h2 (by simp)
    rw [List.nil_append] at e
    exact Imp.pack e Imp.all
  · refine W.no rfl rfl rfl rfl h ?_
    (repeat (first | refine W.ctl rfl ?_ | refine W.op rfl rfl rfl rfl ?_ | refine W.skip rfl rfl ?_ | refine W.fld rfl rfl rfl rfl rfl ?_ | refine W.ld rfl rfl rfl rfl rfl ?_))
    refine W.ret1 (.inr rfl) rfl rfl _ ⟨none, 0, rfl, rfl⟩ ?_
    rw [skv_nil]
    exact Imp.all
theorem grow_int (m : Nat) (hm : m ≤ 65536) : CS 182 [.slice none 0 0, int m] emp fun v H' => ∃ a cap, v = sv a 0 cap ∧ H' = slck 1 3 (sv a 0 cap) 0 [] := by
  refine CS.walk Tryz.func182 rfl Tryz.ntmps182 rfl fun c R => ?_
  (repeat (first | refine W.ctl rfl ?_ | refine W.op rfl rfl rfl rfl ?_ | refine W.skip rfl rfl ?_ | refine W.fld rfl rfl rfl rfl rfl ?_ | refine W.ld rfl rfl rfl rfl rfl ?_))
  refine W.no rfl rfl rfl rfl (by omega : ¬ (m : Int) < 0) ?_
  (repeat (first | refine W.ctl rfl ?_ | refine W.op rfl rfl rfl rfl ?_ | refine W.skip rfl rfl ?_ | refine W.fld rfl rfl rfl rfl rfl ?_ | refine W.ld rfl rfl rfl rfl rfl ?_))
  refine W.cap rfl rfl rfl rfl rfl ?_
  (repeat (first | refine W.ctl rfl ?_ | refine W.op rfl rfl rfl rfl ?_ | refine W.skip rfl rfl ?_ | refine W.fld rfl rfl rfl rfl rfl ?_ | refine W.ld rfl rfl rfl rfl rfl ?_))
  refine W.len rfl rfl rfl rfl rfl ?_
  refine W.ar (r := 0) rfl rfl rfl rfl rfl rfl rfl (wrap_i64 (by omega) (by omega)) ?_
  refine W.ar (r := (m : Int)) rfl rfl rfl rfl rfl rfl (congrArg some (by omega)) (wrap_i64 (by omega) (by omega)) ?_
  (repeat (first | refine W.ctl rfl ?_ | refine W.op rfl rfl rfl rfl ?_ | refine W.skip rfl rfl ?_ | refine W.fld rfl rfl rfl rfl rfl ?_ | refine W.ld rfl rfl rfl rfl rfl ?_))
  by_cases h : (0 : Int) < m
  · refine W.yes rfl rfl rfl rfl h ?_
    (repeat (first | refine W.ctl rfl ?_ | refine W.op rfl rfl rfl rfl ?_ | refine W.skip rfl rfl ?_ | refine W.fld rfl rfl rfl rfl rfl ?_ | refine W.ld rfl rfl rfl rfl rfl ?_))
    refine W.cap rfl rfl rfl rfl rfl ?_
    refine W.slt0 rfl rfl rfl rfl rfl rfl ?_
    (repeat (first | refine W.ctl rfl ?_ | refine W.op rfl rfl rfl rfl ?_ | refine W.skip rfl rfl ?_ | refine W.fld rfl rfl rfl rfl rfl ?_ | refine W.ld rfl rfl rfl rfl rfl ?_))
    refine W.app0 rfl rfl rfl rfl rfl rfl rfl (by omega) (by omega) (by omega) fun b cap h1 h2 => ?_
    (repeat (first | refine W.ctl rfl ?_ | refine W.op rfl rfl rfl rfl ?_ | refine W.skip rfl rfl ?_ | refine W.fld rfl rfl rfl rfl rfl ?_ | refine W.ld rfl rfl rfl rfl rfl ?_))
    refine W.len rfl rfl rfl rfl rfl ?_
    refine W.slt rfl rfl rfl rfl rfl rfl (by omega) (by omega) ?_
    (repeat (first | refine W.ctl rfl ?_ | refine W.op rfl rfl rfl rfl ?_ | refine W.skip rfl rfl ?_ | refine W.fld rfl rfl rfl rfl rfl ?_ | refine W.ld rfl rfl rfl rfl rfl ?_))
    refine W.ret1 (.inr rfl) rfl rfl _ ⟨some b, cap, rfl, rfl⟩ ?_
    have e := slck_mk (k := 1) (E := 3) (g := b) (n := 0) (cap := cap) (xs := []) (sp := List.replicate cap (Value.int IntKind.i64 0)) rfl (by omega) h2 (by simp)
    rw [List.nil_append] at e
    exact Imp.pack e Imp.all
  · refine W.no rfl rfl rfl rfl h ?_
    (repeat (first | refine W.ctl rfl ?_ | refine W.op rfl rfl rfl rfl ?_ | refine W.skip rfl rfl ?_ | refine W.fld rfl rfl rfl rfl rfl ?_ | refine W.ld rfl rfl rfl rfl rfl ?_))
    refine W.ret1 (.inr rfl) rfl rfl _ ⟨none, 0, rfl, rfl⟩ ?_
    rw [skv_nil]
    exact Imp.all
/-- A part that is laid: where its elements can be read. -/
structure Part where
  p : Option (Nat × Nat)
  cap : Nat
  xs : List Value
abbrev Part.v (x : Part) : Value := .slice (x.p.map fun q => ⟨q.1, q.2, none⟩) x.xs.length x.cap
def Part.ok (F : HProp) (x : Part) : Prop := x.xs = [] ∨ ∃ b o, x.p = some (b, o) ∧ Reads F b o x.xs
theorem concat_u64 (F : HProp) (pb : Nat) (ps : List Part) (hp : ∀ x ∈ ps, x.ok F ∧ (∀ u ∈ x.xs, u.oneCell' = true) ∧ x.xs.length ≤ 8192) (hl : ps.length ≤ 4) :
    CS 151 [.slice (some ⟨pb, 0, none⟩) ps.length ps.length] (row pb 111 (ps.map Part.v) • F)
      fun v H' => ∃ a cap, v = sv a (ps.map Part.xs).flatten.length cap ∧ H' = (slck 1 35 (sv a (ps.map Part.xs).flatten.length cap) (ps.map Part.xs).flatten.length (ps.map Part.xs).flatten • F) := by
  refine CS.walk Tryz.func151 rfl Tryz.ntmps151 rfl fun c R => ?_
  (repeat (first | refine W.ctl rfl ?_ | refine W.op rfl rfl rfl rfl ?_ | refine W.skip rfl rfl ?_ | refine W.fld rfl rfl rfl rfl rfl ?_ | refine W.ld rfl rfl rfl rfl rfl ?_))
  refine W.len rfl rfl rfl rfl rfl ?_
  (repeat (first | refine W.ctl rfl ?_ | refine W.op rfl rfl rfl rfl ?_ | refine W.skip rfl rfl ?_ | refine W.fld rfl rfl rfl rfl rfl ?_ | refine W.ld rfl rfl rfl rfl rfl ?_))
  simp only [sep_assoc']
  have hstep : ∀ i (h : i < ps.length), ((ps.take (i + 1)).map Part.xs).flatten = ((ps.take i).map Part.xs).flatten ++ (ps[i]).xs := by
    intro i h
    rw [List.take_add_one, List.getElem?_eq_getElem h, Option.toList_some, List.map_append, List.flatten_append]
    simp only [List.map_cons, List.map_nil, List.flatten_cons, List.flatten_nil, List.append_nil]
  have hsum : ∀ i, i ≤ ps.length → (((ps.take i).map Part.xs).flatten).length ≤ i * 8192 := by
    intro i
    induction i with
    | zero => intro _; simp
    | succ i ih =>
      intro h
      have := ih (by omega)
      have h2 := (hp (ps[i]'(by omega)) (List.getElem_mem _)).2.2
      rw [hstep i (by omega), List.length_append]; omega
  refine W.loop (σ := Nat) (fun i => i ≤ ps.length) (fun i => [(0, .slice (some ⟨pb, 0, none⟩) ps.length ps.length), (9, .slice (some ⟨pb, 0, none⟩) ps.length ps.length), (3, int ((ps.take i).map Part.xs).flatten.length), (10, int ps.length), (11, int i)])
    (fun _ => row pb 111 (ps.map Part.v) • F • R) (fun i => ps.length - i) 0 (by omega) ⟨rfl, rfl, rfl, rfl, rfl, trivial⟩ Imp.all ?_
  intro i hi
  have s1 := hsum i hi
  (repeat (first | refine W.ctl rfl ?_ | refine W.op rfl rfl rfl rfl ?_ | refine W.skip rfl rfl ?_ | refine W.fld rfl rfl rfl rfl rfl ?_ | refine W.ld rfl rfl rfl rfl rfl ?_))
  by_cases h1 : (i : Int) < ps.length
  · refine W.yes rfl rfl rfl rfl h1 ?_
    have h1' : i < ps.length := by omega
    have s2 := hsum (i + 1) h1'
    have e := hstep i h1'
    have e' := congrArg List.length e
    rw [List.length_append] at e'
    (repeat (first | refine W.ctl rfl ?_ | refine W.op rfl rfl rfl rfl ?_ | refine W.skip rfl rfl ?_ | refine W.fld rfl rfl rfl rfl rfl ?_ | refine W.ld rfl rfl rfl rfl rfl ?_))
    refine W.idx rfl rfl rfl rfl rfl rfl (by omega) (by omega) ?_
    refine W.ldi (v := (ps[i]).v) rfl rfl rfl rfl rfl (by simp [h1']) ?_
    (repeat (first | refine W.ctl rfl ?_ | refine W.op rfl rfl rfl rfl ?_ | refine W.skip rfl rfl ?_ | refine W.fld rfl rfl rfl rfl rfl ?_ | refine W.ld rfl rfl rfl rfl rfl ?_))
    refine W.len rfl rfl rfl rfl rfl ?_
    refine W.ar (r := ((((ps.take (i + 1)).map Part.xs).flatten.length : Nat) : Int)) rfl rfl rfl rfl rfl rfl (congrArg some (by omega)) (wrap_i64 (by omega) (by omega)) ?_
    (repeat (first | refine W.ctl rfl ?_ | refine W.op rfl rfl rfl rfl ?_ | refine W.skip rfl rfl ?_ | refine W.fld rfl rfl rfl rfl rfl ?_ | refine W.ld rfl rfl rfl rfl rfl ?_))
    refine W.no rfl rfl rfl rfl (by omega : ¬ ((((ps.take (i + 1)).map Part.xs).flatten.length : Nat) : Int) < 0) ?_
    (repeat (first | refine W.ctl rfl ?_ | refine W.op rfl rfl rfl rfl ?_ | refine W.skip rfl rfl ?_ | refine W.fld rfl rfl rfl rfl rfl ?_ | refine W.ld rfl rfl rfl rfl rfl ?_))
    refine W.ar (r := ((i + 1 : Nat) : Int)) rfl rfl rfl rfl rfl rfl rfl (wrap_i64 (by omega) (by omega)) ?_
    (repeat (first | refine W.ctl rfl ?_ | refine W.op rfl rfl rfl rfl ?_ | refine W.skip rfl rfl ?_ | refine W.fld rfl rfl rfl rfl rfl ?_ | refine W.ld rfl rfl rfl rfl rfl ?_))
    exact W.again (i + 1) (by omega) (by omega) ⟨rfl, rfl, rfl, rfl, rfl, trivial⟩ Imp.all
  · refine W.no rfl rfl rfl rfl h1 ?_
    have hi' : i = ps.length := by omega
    subst hi'
    rw [List.take_length] at s1 ⊢
    (repeat (first | refine W.ctl rfl ?_ | refine W.op rfl rfl rfl rfl ?_ | refine W.skip rfl rfl ?_ | refine W.fld rfl rfl rfl rfl rfl ?_ | refine W.ld rfl rfl rfl rfl rfl ?_))
    refine W.call (grow_u64 (ps.map Part.xs).flatten.length (by omega)) rfl rfl rfl rfl Tryz.call180 ⟨rfl, rfl, trivial⟩ ?_
    rintro _ _ ⟨a0, c0, rfl, rfl⟩
    (repeat (first | refine W.ctl rfl ?_ | refine W.op rfl rfl rfl rfl ?_ | refine W.skip rfl rfl ?_ | refine W.fld rfl rfl rfl rfl rfl ?_ | refine W.ld rfl rfl rfl rfl rfl ?_))
    refine W.len rfl rfl rfl rfl rfl ?_
    (repeat (first | refine W.ctl rfl ?_ | refine W.op rfl rfl rfl rfl ?_ | refine W.skip rfl rfl ?_ | refine W.fld rfl rfl rfl rfl rfl ?_ | refine W.ld rfl rfl rfl rfl rfl ?_))
    refine W.loop (σ := Nat × Option Nat × Nat) (fun p => p.1 ≤ ps.length) (fun p => [(6, sv p.2.1 ((ps.take p.1).map Part.xs).flatten.length p.2.2), (25, .slice (some ⟨pb, 0, none⟩) ps.length ps.length), (26, int ps.length), (27, int p.1)])
      (fun p => slck 1 35 (sv p.2.1 ((ps.take p.1).map Part.xs).flatten.length p.2.2) ((ps.take p.1).map Part.xs).flatten.length ((ps.take p.1).map Part.xs).flatten • row pb 111 (ps.map Part.v) • F • R) (fun p => ps.length - p.1) (0, a0, c0) (by dsimp only; omega) ⟨rfl, rfl, rfl, rfl, trivial⟩ (by simp only [List.take_zero, List.map_nil, List.flatten_nil, List.length_nil]; exact Imp.all) ?_
    rintro ⟨i, a, cap⟩ hi
    dsimp only at hi ⊢
    have s1 := hsum i hi
    (repeat (first | refine W.ctl rfl ?_ | refine W.op rfl rfl rfl rfl ?_ | refine W.skip rfl rfl ?_ | refine W.fld rfl rfl rfl rfl rfl ?_ | refine W.ld rfl rfl rfl rfl rfl ?_))
    by_cases h1 : (i : Int) < ps.length
    · refine W.yes rfl rfl rfl rfl h1 ?_
      (repeat (first | refine W.ctl rfl ?_ | refine W.op rfl rfl rfl rfl ?_ | refine W.skip rfl rfl ?_ | refine W.fld rfl rfl rfl rfl rfl ?_ | refine W.ld rfl rfl rfl rfl rfl ?_))
      have h1' : i < ps.length := by omega
      have s2 := hsum (i + 1) h1'
      have e := hstep i h1'
      have e' := congrArg List.length e
      rw [List.length_append] at e'
      refine W.idx rfl rfl rfl rfl rfl rfl (by omega) (by omega) ?_
      refine W.ldi (v := (ps[i]).v) rfl rfl rfl rfl rfl (by simp [h1']) ?_
      (repeat (first | refine W.ctl rfl ?_ | refine W.op rfl rfl rfl rfl ?_ | refine W.skip rfl rfl ?_ | refine W.fld rfl rfl rfl rfl rfl ?_ | refine W.ld rfl rfl rfl rfl rfl ?_))
      obtain ⟨ok, one, len⟩ := hp ps[i] (List.getElem_mem _)
      obtain ⟨x, hx⟩ : ∃ x, ps[i] = x := ⟨_, rfl⟩
      rw [hx] at ok one len e e' ⊢
      obtain ⟨p, c2, xs⟩ := x
      rcases ok with hnil | ⟨b, o, hb, hr⟩
      · dsimp only at hnil
        subst hnil
        rw [List.append_nil] at e
        refine W.appk0 rfl rfl rfl rfl rfl rfl ?_
        (repeat (first | refine W.ctl rfl ?_ | refine W.op rfl rfl rfl rfl ?_ | refine W.skip rfl rfl ?_ | refine W.fld rfl rfl rfl rfl rfl ?_ | refine W.ld rfl rfl rfl rfl rfl ?_))
        refine W.ar (r := ((i + 1 : Nat) : Int)) rfl rfl rfl rfl rfl rfl rfl (wrap_i64 (by omega) (by omega)) ?_
        (repeat (first | refine W.ctl rfl ?_ | refine W.op rfl rfl rfl rfl ?_ | refine W.skip rfl rfl ?_ | refine W.fld rfl rfl rfl rfl rfl ?_ | refine W.ld rfl rfl rfl rfl rfl ?_))
        rw [← e]
        exact W.again (i + 1, a, cap) (by dsimp only; omega) (by dsimp only; omega) ⟨rfl, rfl, rfl, rfl, trivial⟩ Imp.all
      · dsimp only at hb hr one len e e'
        subst hb
        refine W.appr (kk := 1) (news := xs) (m := xs.length) (g := b) (off := o) (fun c w hs j u hu => hr c w (hs.imp Imp.all) j u hu) rfl rfl rfl rfl rfl rfl rfl rfl (by omega) one (by omega) (by omega) fun a' cap' => ?_
        (repeat (first | refine W.ctl rfl ?_ | refine W.op rfl rfl rfl rfl ?_ | refine W.skip rfl rfl ?_ | refine W.fld rfl rfl rfl rfl rfl ?_ | refine W.ld rfl rfl rfl rfl rfl ?_))
        refine W.ar (r := ((i + 1 : Nat) : Int)) rfl rfl rfl rfl rfl rfl rfl (wrap_i64 (by omega) (by omega)) ?_
        (repeat (first | refine W.ctl rfl ?_ | refine W.op rfl rfl rfl rfl ?_ | refine W.skip rfl rfl ?_ | refine W.fld rfl rfl rfl rfl rfl ?_ | refine W.ld rfl rfl rfl rfl rfl ?_))
        rw [← e, ← e']
        exact W.again (i + 1, a', cap') (by dsimp only; omega) (by dsimp only; omega) ⟨rfl, rfl, rfl, rfl, trivial⟩ Imp.all
    · refine W.no rfl rfl rfl rfl h1 ?_
      have hi' : i = ps.length := by omega
      subst hi'
      rw [List.take_length]
      (repeat (first | refine W.ctl rfl ?_ | refine W.op rfl rfl rfl rfl ?_ | refine W.skip rfl rfl ?_ | refine W.fld rfl rfl rfl rfl rfl ?_ | refine W.ld rfl rfl rfl rfl rfl ?_))
      exact W.ret1 (.inr rfl) rfl rfl _ ⟨a, cap, rfl, rfl⟩ Imp.all
theorem concat_str (F : HProp) (pb : Nat) (ps : List Part) (hp : ∀ x ∈ ps, x.ok F ∧ (∀ u ∈ x.xs, u.oneCell' = true) ∧ x.xs.length ≤ 8192) (hl : ps.length ≤ 4) :
    CS 152 [.slice (some ⟨pb, 0, none⟩) ps.length ps.length] (row pb 112 (ps.map Part.v) • F)
      fun v H' => ∃ a cap, v = sv a (ps.map Part.xs).flatten.length cap ∧ H' = (slck 1 9 (sv a (ps.map Part.xs).flatten.length cap) (ps.map Part.xs).flatten.length (ps.map Part.xs).flatten • F) := by
  refine CS.walk Tryz.func152 rfl Tryz.ntmps152 rfl fun c R => ?_
  (repeat (first | refine W.ctl rfl ?_ | refine W.op rfl rfl rfl rfl ?_ | refine W.skip rfl rfl ?_ | refine W.fld rfl rfl rfl rfl rfl ?_ | refine W.ld rfl rfl rfl rfl rfl ?_))
  refine W.len rfl rfl rfl rfl rfl ?_
  (repeat (first | refine W.ctl rfl ?_ | refine W.op rfl rfl rfl rfl ?_ | refine W.skip rfl rfl ?_ | refine W.fld rfl rfl rfl rfl rfl ?_ | refine W.ld rfl rfl rfl rfl rfl ?_))
  simp only [sep_assoc']
  have hstep : ∀ i (h : i < ps.length), ((ps.take (i + 1)).map Part.xs).flatten = ((ps.take i).map Part.xs).flatten ++ (ps[i]).xs := by
    intro i h
    rw [List.take_add_one, List.getElem?_eq_getElem h, Option.toList_some, List.map_append, List.flatten_append]
    simp only [List.map_cons, List.map_nil, List.flatten_cons, List.flatten_nil, List.append_nil]
  have hsum : ∀ i, i ≤ ps.length → (((ps.take i).map Part.xs).flatten).length ≤ i * 8192 := by
    intro i
    induction i with
    | zero => intro _; simp
    | succ i ih =>
      intro h
      have := ih (by omega)
      have h2 := (hp (ps[i]'(by omega)) (List.getElem_mem _)).2.2
      rw [hstep i (by omega), List.length_append]; omega
  refine W.loop (σ := Nat) (fun i => i ≤ ps.length) (fun i => [(0, .slice (some ⟨pb, 0, none⟩) ps.length ps.length), (9, .slice (some ⟨pb, 0, none⟩) ps.length ps.length), (3, int ((ps.take i).map Part.xs).flatten.length), (10, int ps.length), (11, int i)])
    (fun _ => row pb 112 (ps.map Part.v) • F • R) (fun i => ps.length - i) 0 (by omega) ⟨rfl, rfl, rfl, rfl, rfl, trivial⟩ Imp.all ?_
  intro i hi
  have s1 := hsum i hi
  (repeat (first | refine W.ctl rfl ?_ | refine W.op rfl rfl rfl rfl ?_ | refine W.skip rfl rfl ?_ | refine W.fld rfl rfl rfl rfl rfl ?_ | refine W.ld rfl rfl rfl rfl rfl ?_))
  by_cases h1 : (i : Int) < ps.length
  · refine W.yes rfl rfl rfl rfl h1 ?_
    have h1' : i < ps.length := by omega
    have s2 := hsum (i + 1) h1'
    have e := hstep i h1'
    have e' := congrArg List.length e
    rw [List.length_append] at e'
    (repeat (first | refine W.ctl rfl ?_ | refine W.op rfl rfl rfl rfl ?_ | refine W.skip rfl rfl ?_ | refine W.fld rfl rfl rfl rfl rfl ?_ | refine W.ld rfl rfl rfl rfl rfl ?_))
    refine W.idx rfl rfl rfl rfl rfl rfl (by omega) (by omega) ?_
    refine W.ldi (v := (ps[i]).v) rfl rfl rfl rfl rfl (by simp [h1']) ?_
    (repeat (first | refine W.ctl rfl ?_ | refine W.op rfl rfl rfl rfl ?_ | refine W.skip rfl rfl ?_ | refine W.fld rfl rfl rfl rfl rfl ?_ | refine W.ld rfl rfl rfl rfl rfl ?_))
    refine W.len rfl rfl rfl rfl rfl ?_
    refine W.ar (r := ((((ps.take (i + 1)).map Part.xs).flatten.length : Nat) : Int)) rfl rfl rfl rfl rfl rfl (congrArg some (by omega)) (wrap_i64 (by omega) (by omega)) ?_
    (repeat (first | refine W.ctl rfl ?_ | refine W.op rfl rfl rfl rfl ?_ | refine W.skip rfl rfl ?_ | refine W.fld rfl rfl rfl rfl rfl ?_ | refine W.ld rfl rfl rfl rfl rfl ?_))
    refine W.no rfl rfl rfl rfl (by omega : ¬ ((((ps.take (i + 1)).map Part.xs).flatten.length : Nat) : Int) < 0) ?_
    (repeat (first | refine W.ctl rfl ?_ | refine W.op rfl rfl rfl rfl ?_ | refine W.skip rfl rfl ?_ | refine W.fld rfl rfl rfl rfl rfl ?_ | refine W.ld rfl rfl rfl rfl rfl ?_))
    refine W.ar (r := ((i + 1 : Nat) : Int)) rfl rfl rfl rfl rfl rfl rfl (wrap_i64 (by omega) (by omega)) ?_
    (repeat (first | refine W.ctl rfl ?_ | refine W.op rfl rfl rfl rfl ?_ | refine W.skip rfl rfl ?_ | refine W.fld rfl rfl rfl rfl rfl ?_ | refine W.ld rfl rfl rfl rfl rfl ?_))
    exact W.again (i + 1) (by omega) (by omega) ⟨rfl, rfl, rfl, rfl, rfl, trivial⟩ Imp.all
  · refine W.no rfl rfl rfl rfl h1 ?_
    have hi' : i = ps.length := by omega
    subst hi'
    rw [List.take_length] at s1 ⊢
    (repeat (first | refine W.ctl rfl ?_ | refine W.op rfl rfl rfl rfl ?_ | refine W.skip rfl rfl ?_ | refine W.fld rfl rfl rfl rfl rfl ?_ | refine W.ld rfl rfl rfl rfl rfl ?_))
    refine W.call (grow_str (ps.map Part.xs).flatten.length (by omega)) rfl rfl rfl rfl Tryz.call181 ⟨rfl, rfl, trivial⟩ ?_
    rintro _ _ ⟨a0, c0, rfl, rfl⟩
    (repeat (first | refine W.ctl rfl ?_ | refine W.op rfl rfl rfl rfl ?_ | refine W.skip rfl rfl ?_ | refine W.fld rfl rfl rfl rfl rfl ?_ | refine W.ld rfl rfl rfl rfl rfl ?_))
    refine W.len rfl rfl rfl rfl rfl ?_
    (repeat (first | refine W.ctl rfl ?_ | refine W.op rfl rfl rfl rfl ?_ | refine W.skip rfl rfl ?_ | refine W.fld rfl rfl rfl rfl rfl ?_ | refine W.ld rfl rfl rfl rfl rfl ?_))
    refine W.loop (σ := Nat × Option Nat × Nat) (fun p => p.1 ≤ ps.length) (fun p => [(6, sv p.2.1 ((ps.take p.1).map Part.xs).flatten.length p.2.2), (25, .slice (some ⟨pb, 0, none⟩) ps.length ps.length), (26, int ps.length), (27, int p.1)])
      (fun p => slck 1 9 (sv p.2.1 ((ps.take p.1).map Part.xs).flatten.length p.2.2) ((ps.take p.1).map Part.xs).flatten.length ((ps.take p.1).map Part.xs).flatten • row pb 112 (ps.map Part.v) • F • R) (fun p => ps.length - p.1) (0, a0, c0) (by dsimp only; omega) ⟨rfl, rfl, rfl, rfl, trivial⟩ (by simp only [List.take_zero, List.map_nil, List.flatten_nil, List.length_nil]; exact Imp.all) ?_
    rintro ⟨i, a, cap⟩ hi
    dsimp only at hi ⊢
    have s1 := hsum i hi
    (repeat (first | refine W.ctl rfl ?_ | refine W.op rfl rfl rfl rfl ?_ | refine W.skip rfl rfl ?_ | refine W.fld rfl rfl rfl rfl rfl ?_ | refine W.ld rfl rfl rfl rfl rfl ?_))
    by_cases h1 : (i : Int) < ps.length
    · refine W.yes rfl rfl rfl rfl h1 ?_
      (repeat (first | refine W.ctl rfl ?_ | refine W.op rfl rfl rfl rfl ?_ | refine W.skip rfl rfl ?_ | refine W.fld rfl rfl rfl rfl rfl ?_ | refine W.ld rfl rfl rfl rfl rfl ?_))
      have h1' : i < ps.length := by omega
      have s2 := hsum (i + 1) h1'
      have e := hstep i h1'
      have e' := congrArg List.length e
      rw [List.length_append] at e'
      refine W.idx rfl rfl rfl rfl rfl rfl (by omega) (by omega) ?_
      refine W.ldi (v := (ps[i]).v) rfl rfl rfl rfl rfl (by simp [h1']) ?_
      (repeat (first | refine W.ctl rfl ?_ | refine W.op rfl rfl rfl rfl ?_ | refine W.skip rfl rfl ?_ | refine W.fld rfl rfl rfl rfl rfl ?_ | refine W.ld rfl rfl rfl rfl rfl ?_))
      obtain ⟨ok, one, len⟩ := hp ps[i] (List.getElem_mem _)
      obtain ⟨x, hx⟩ : ∃ x, ps[i] = x := ⟨_, rfl⟩
      rw [hx] at ok one len e e' ⊢
      obtain ⟨p, c2, xs⟩ := x
      rcases ok with hnil | ⟨b, o, hb, hr⟩
      · dsimp only at hnil
        subst hnil
        rw [List.append_nil] at e
        refine W.appk0 rfl rfl rfl rfl rfl rfl ?_
        (repeat (first | refine W.ctl rfl ?_ | refine W.op rfl rfl rfl rfl ?_ | refine W.skip rfl rfl ?_ | refine W.fld rfl rfl rfl rfl rfl ?_ | refine W.ld rfl rfl rfl rfl rfl ?_))
        refine W.ar (r := ((i + 1 : Nat) : Int)) rfl rfl rfl rfl rfl rfl rfl (wrap_i64 (by omega) (by omega)) ?_
        (repeat (first | refine W.ctl rfl ?_ | refine W.op rfl rfl rfl rfl ?_ | refine W.skip rfl rfl ?_ | refine W.fld rfl rfl rfl rfl rfl ?_ | refine W.ld rfl rfl rfl rfl rfl ?_))
        rw [← e]
        exact W.again (i + 1, a, cap) (by dsimp only; omega) (by dsimp only; omega) ⟨rfl, rfl, rfl, rfl, trivial⟩ Imp.all
      · dsimp only at hb hr one len e e'
        subst hb
        refine W.appr (kk := 1) (news := xs) (m := xs.length) (g := b) (off := o) (fun c w hs j u hu => hr c w (hs.imp Imp.all) j u hu) rfl rfl rfl rfl rfl rfl rfl rfl (by omega) one (by omega) (by omega) fun a' cap' => ?_
        (repeat (first | refine W.ctl rfl ?_ | refine W.op rfl rfl rfl rfl ?_ | refine W.skip rfl rfl ?_ | refine W.fld rfl rfl rfl rfl rfl ?_ | refine W.ld rfl rfl rfl rfl rfl ?_))
        refine W.ar (r := ((i + 1 : Nat) : Int)) rfl rfl rfl rfl rfl rfl rfl (wrap_i64 (by omega) (by omega)) ?_
        (repeat (first | refine W.ctl rfl ?_ | refine W.op rfl rfl rfl rfl ?_ | refine W.skip rfl rfl ?_ | refine W.fld rfl rfl rfl rfl rfl ?_ | refine W.ld rfl rfl rfl rfl rfl ?_))
        rw [← e, ← e']
        exact W.again (i + 1, a', cap') (by dsimp only; omega) (by dsimp only; omega) ⟨rfl, rfl, rfl, rfl, trivial⟩ Imp.all
    · refine W.no rfl rfl rfl rfl h1 ?_
      have hi' : i = ps.length := by omega
      subst hi'
      rw [List.take_length]
      (repeat (first | refine W.ctl rfl ?_ | refine W.op rfl rfl rfl rfl ?_ | refine W.skip rfl rfl ?_ | refine W.fld rfl rfl rfl rfl rfl ?_ | refine W.ld rfl rfl rfl rfl rfl ?_))
      exact W.ret1 (.inr rfl) rfl rfl _ ⟨a, cap, rfl, rfl⟩ Imp.all
theorem concat_int (F : HProp) (pb : Nat) (ps : List Part) (hp : ∀ x ∈ ps, x.ok F ∧ (∀ u ∈ x.xs, u.oneCell' = true) ∧ x.xs.length ≤ 8192) (hl : ps.length ≤ 4) :
    CS 153 [.slice (some ⟨pb, 0, none⟩) ps.length ps.length] (row pb 22 (ps.map Part.v) • F)
      fun v H' => ∃ a cap, v = sv a (ps.map Part.xs).flatten.length cap ∧ H' = (slck 1 3 (sv a (ps.map Part.xs).flatten.length cap) (ps.map Part.xs).flatten.length (ps.map Part.xs).flatten • F) := by
  refine CS.walk Tryz.func153 rfl Tryz.ntmps153 rfl fun c R => ?_
  (repeat (first | refine W.ctl rfl ?_ | refine W.op rfl rfl rfl rfl ?_ | refine W.skip rfl rfl ?_ | refine W.fld rfl rfl rfl rfl rfl ?_ | refine W.ld rfl rfl rfl rfl rfl ?_))
  refine W.len rfl rfl rfl rfl rfl ?_
  (repeat (first | refine W.ctl rfl ?_ | refine W.op rfl rfl rfl rfl ?_ | refine W.skip rfl rfl ?_ | refine W.fld rfl rfl rfl rfl rfl ?_ | refine W.ld rfl rfl rfl rfl rfl ?_))
  simp only [sep_assoc']
  have hstep : ∀ i (h : i < ps.length), ((ps.take (i + 1)).map Part.xs).flatten = ((ps.take i).map Part.xs).flatten ++ (ps[i]).xs := by
    intro i h
    rw [List.take_add_one, List.getElem?_eq_getElem h, Option.toList_some, List.map_append, List.flatten_append]
    simp only [List.map_cons, List.map_nil, List.flatten_cons, List.flatten_nil, List.append_nil]
  have hsum : ∀ i, i ≤ ps.length → (((ps.take i).map Part.xs).flatten).length ≤ i * 8192 := by
    intro i
    induction i with
    | zero => intro _; simp
    | succ i ih =>
      intro h
      have := ih (by omega)
      have h2 := (hp (ps[i]'(by omega)) (List.getElem_mem _)).2.2
      rw [hstep i (by omega), List.length_append]; omega
  refine W.loop (σ := Nat) (fun i => i ≤ ps.length) (fun i => [(0, .slice (some ⟨pb, 0, none⟩) ps.length ps.length), (9, .slice (some ⟨pb, 0, none⟩) ps.length ps.length), (3, int ((ps.take i).map Part.xs).flatten.length), (10, int ps.length), (11, int i)])
    (fun _ => row pb 22 (ps.map Part.v) • F • R) (fun i => ps.length - i) 0 (by omega) ⟨rfl, rfl, rfl, rfl, rfl, trivial⟩ Imp.all ?_
  intro i hi
  have s1 := hsum i hi
  (repeat (first | refine W.ctl rfl ?_ | refine W.op rfl rfl rfl rfl ?_ | refine W.skip rfl rfl ?_ | refine W.fld rfl rfl rfl rfl rfl ?_ | refine W.ld rfl rfl rfl rfl rfl ?_))
  by_cases h1 : (i : Int) < ps.length
  · refine W.yes rfl rfl rfl rfl h1 ?_
    have h1' : i < ps.length := by omega
    have s2 := hsum (i + 1) h1'
    have e := hstep i h1'
    have e' := congrArg List.length e
    rw [List.length_append] at e'
    (repeat (first | refine W.ctl rfl ?_ | refine W.op rfl rfl rfl rfl ?_ | refine W.skip rfl rfl ?_ | refine W.fld rfl rfl rfl rfl rfl ?_ | refine W.ld rfl rfl rfl rfl rfl ?_))
    refine W.idx rfl rfl rfl rfl rfl rfl (by omega) (by omega) ?_
    refine W.ldi (v := (ps[i]).v) rfl rfl rfl rfl rfl (by simp [h1']) ?_
    (repeat (first | refine W.ctl rfl ?_ | refine W.op rfl rfl rfl rfl ?_ | refine W.skip rfl rfl ?_ | refine W.fld rfl rfl rfl rfl rfl ?_ | refine W.ld rfl rfl rfl rfl rfl ?_))
    refine W.len rfl rfl rfl rfl rfl ?_
    refine W.ar (r := ((((ps.take (i + 1)).map Part.xs).flatten.length : Nat) : Int)) rfl rfl rfl rfl rfl rfl (congrArg some (by omega)) (wrap_i64 (by omega) (by omega)) ?_
    (repeat (first | refine W.ctl rfl ?_ | refine W.op rfl rfl rfl rfl ?_ | refine W.skip rfl rfl ?_ | refine W.fld rfl rfl rfl rfl rfl ?_ | refine W.ld rfl rfl rfl rfl rfl ?_))
    refine W.no rfl rfl rfl rfl (by omega : ¬ ((((ps.take (i + 1)).map Part.xs).flatten.length : Nat) : Int) < 0) ?_
    (repeat (first | refine W.ctl rfl ?_ | refine W.op rfl rfl rfl rfl ?_ | refine W.skip rfl rfl ?_ | refine W.fld rfl rfl rfl rfl rfl ?_ | refine W.ld rfl rfl rfl rfl rfl ?_))
    refine W.ar (r := ((i + 1 : Nat) : Int)) rfl rfl rfl rfl rfl rfl rfl (wrap_i64 (by omega) (by omega)) ?_
    (repeat (first | refine W.ctl rfl ?_ | refine W.op rfl rfl rfl rfl ?_ | refine W.skip rfl rfl ?_ | refine W.fld rfl rfl rfl rfl rfl ?_ | refine W.ld rfl rfl rfl rfl rfl ?_))
    exact W.again (i + 1) (by omega) (by omega) ⟨rfl, rfl, rfl, rfl, rfl, trivial⟩ Imp.all
  · refine W.no rfl rfl rfl rfl h1 ?_
    have hi' : i = ps.length := by omega
    subst hi'
    rw [List.take_length] at s1 ⊢
    (repeat (first | refine W.ctl rfl ?_ | refine W.op rfl rfl rfl rfl ?_ | refine W.skip rfl rfl ?_ | refine W.fld rfl rfl rfl rfl rfl ?_ | refine W.ld rfl rfl rfl rfl rfl ?_))
    refine W.call (grow_int (ps.map Part.xs).flatten.length (by omega)) rfl rfl rfl rfl Tryz.call182 ⟨rfl, rfl, trivial⟩ ?_
    rintro _ _ ⟨a0, c0, rfl, rfl⟩
    (repeat (first | refine W.ctl rfl ?_ | refine W.op rfl rfl rfl rfl ?_ | refine W.skip rfl rfl ?_ | refine W.fld rfl rfl rfl rfl rfl ?_ | refine W.ld rfl rfl rfl rfl rfl ?_))
    refine W.len rfl rfl rfl rfl rfl ?_
    (repeat (first | refine W.ctl rfl ?_ | refine W.op rfl rfl rfl rfl ?_ | refine W.skip rfl rfl ?_ | refine W.fld rfl rfl rfl rfl rfl ?_ | refine W.ld rfl rfl rfl rfl rfl ?_))
    refine W.loop (σ := Nat × Option Nat × Nat) (fun p => p.1 ≤ ps.length) (fun p => [(6, sv p.2.1 ((ps.take p.1).map Part.xs).flatten.length p.2.2), (25, .slice (some ⟨pb, 0, none⟩) ps.length ps.length), (26, int ps.length), (27, int p.1)])
      (fun p => slck 1 3 (sv p.2.1 ((ps.take p.1).map Part.xs).flatten.length p.2.2) ((ps.take p.1).map Part.xs).flatten.length ((ps.take p.1).map Part.xs).flatten • row pb 22 (ps.map Part.v) • F • R) (fun p => ps.length - p.1) (0, a0, c0) (by dsimp only; omega) ⟨rfl, rfl, rfl, rfl, trivial⟩ (by simp only [List.take_zero, List.map_nil, List.flatten_nil, List.length_nil]; exact Imp.all) ?_
    rintro ⟨i, a, cap⟩ hi
    dsimp only at hi ⊢
    have s1 := hsum i hi
    (repeat (first | refine W.ctl rfl ?_ | refine W.op rfl rfl rfl rfl ?_ | refine W.skip rfl rfl ?_ | refine W.fld rfl rfl rfl rfl rfl ?_ | refine W.ld rfl rfl rfl rfl rfl ?_))
    by_cases h1 : (i : Int) < ps.length
    · refine W.yes rfl rfl rfl rfl h1 ?_
      (repeat (first | refine W.ctl rfl ?_ | refine W.op rfl rfl rfl rfl ?_ | refine W.skip rfl rfl ?_ | refine W.fld rfl rfl rfl rfl rfl ?_ | refine W.ld rfl rfl rfl rfl rfl ?_))
      have h1' : i < ps.length := by omega
      have s2 := hsum (i + 1) h1'
      have e := hstep i h1'
      have e' := congrArg List.length e
      rw [List.length_append] at e'
      refine W.idx rfl rfl rfl rfl rfl rfl (by omega) (by omega) ?_
      refine W.ldi (v := (ps[i]).v) rfl rfl rfl rfl rfl (by simp [h1']) ?_
      (repeat (first | refine W.ctl rfl ?_ | refine W.op rfl rfl rfl rfl ?_ | refine W.skip rfl rfl ?_ | refine W.fld rfl rfl rfl rfl rfl ?_ | refine W.ld rfl rfl rfl rfl rfl ?_))
      obtain ⟨ok, one, len⟩ := hp ps[i] (List.getElem_mem _)
      obtain ⟨x, hx⟩ : ∃ x, ps[i] = x := ⟨_, rfl⟩
      rw [hx] at ok one len e e' ⊢
      obtain ⟨p, c2, xs⟩ := x
      rcases ok with hnil | ⟨b, o, hb, hr⟩
      · dsimp only at hnil
        subst hnil
        rw [List.append_nil] at e
        refine W.appk0 rfl rfl rfl rfl rfl rfl ?_
        (repeat (first | refine W.ctl rfl ?_ | refine W.op rfl rfl rfl rfl ?_ | refine W.skip rfl rfl ?_ | refine W.fld rfl rfl rfl rfl rfl ?_ | refine W.ld rfl rfl rfl rfl rfl ?_))
        refine W.ar (r := ((i + 1 : Nat) : Int)) rfl rfl rfl rfl rfl rfl rfl (wrap_i64 (by omega) (by omega)) ?_
        (repeat (first | refine W.ctl rfl ?_ | refine W.op rfl rfl rfl rfl ?_ | refine W.skip rfl rfl ?_ | refine W.fld rfl rfl rfl rfl rfl ?_ | refine W.ld rfl rfl rfl rfl rfl ?_))
        rw [← e]
        exact W.again (i + 1, a, cap) (by dsimp only; omega) (by dsimp only; omega) ⟨rfl, rfl, rfl, rfl, trivial⟩ Imp.all
      · dsimp only at hb hr one len e e'
        subst hb
        refine W.appr (kk := 1) (news := xs) (m := xs.length) (g := b) (off := o) (fun c w hs j u hu => hr c w (hs.imp Imp.all) j u hu) rfl rfl rfl rfl rfl rfl rfl rfl (by omega) one (by omega) (by omega) fun a' cap' => ?_
        (repeat (first | refine W.ctl rfl ?_ | refine W.op rfl rfl rfl rfl ?_ | refine W.skip rfl rfl ?_ | refine W.fld rfl rfl rfl rfl rfl ?_ | refine W.ld rfl rfl rfl rfl rfl ?_))
        refine W.ar (r := ((i + 1 : Nat) : Int)) rfl rfl rfl rfl rfl rfl rfl (wrap_i64 (by omega) (by omega)) ?_
        (repeat (first | refine W.ctl rfl ?_ | refine W.op rfl rfl rfl rfl ?_ | refine W.skip rfl rfl ?_ | refine W.fld rfl rfl rfl rfl rfl ?_ | refine W.ld rfl rfl rfl rfl rfl ?_))
        rw [← e, ← e']
        exact W.again (i + 1, a', cap') (by dsimp only; omega) (by dsimp only; omega) ⟨rfl, rfl, rfl, rfl, trivial⟩ Imp.all
    · refine W.no rfl rfl rfl rfl h1 ?_
      have hi' : i = ps.length := by omega
      subst hi'
      rw [List.take_length]
      (repeat (first | refine W.ctl rfl ?_ | refine W.op rfl rfl rfl rfl ?_ | refine W.skip rfl rfl ?_ | refine W.fld rfl rfl rfl rfl rfl ?_ | refine W.ld rfl rfl rfl rfl rfl ?_))
      exact W.ret1 (.inr rfl) rfl rfl _ ⟨a, cap, rfl, rfl⟩ Imp.all
end Go.Proofs.YtbdhhedfplkidaaGreat
