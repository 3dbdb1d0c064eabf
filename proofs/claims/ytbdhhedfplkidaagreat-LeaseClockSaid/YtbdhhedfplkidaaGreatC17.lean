/- The way down a tree: a stack of spots. -/
import Derived.Test.YtbdhhedfplkidaaGreatC16
import Derived.Test.YtbdhhedfplkidaaGreatC9
import Derived.Test.YtbdhhedfplkidaaGreatE12
namespace Go.Proofs.YtbdhhedfplkidaaGreat
open Go
open M (Str Store Work Spot)
set_option maxHeartbeats 400000
set_option maxRecDepth 2000
/-- A spot, and where its node's slices lie. -/
structure Sp where
  m : Spot
  y : NP
abbrev Sp.cells (s : Sp) : List Value := [int s.m.at', .bool s.m.n.leaf, sv s.y.ka s.m.n.keys.length s.y.kc, sv s.y.va s.m.n.vals.length s.y.vc, sv s.y.da s.m.n.kids.length s.y.dc, int s.m.i]
abbrev Sp.v (s : Sp) : Value := .agg s.cells.toArray
def spotsC : List Sp → List Value
  | [] => []
  | s :: l => s.cells ++ spotsC l
theorem spotsC_length : ∀ l, (spotsC l).length = l.length * 6
  | [] => rfl
  | s :: l => by simp only [spotsC, List.length_append, spotsC_length l, List.length_cons, List.length_nil]; omega
theorem spotsC_snoc : ∀ (l : List Sp) (s : Sp), spotsC (l ++ [s]) = spotsC l ++ s.cells
  | [], s => by simp [spotsC]
  | t :: l, s => by simp only [List.cons_append, spotsC, spotsC_snoc l s, List.append_assoc]
def nodesH : List Sp → HProp
  | [] => emp
  | s :: l => NodeH s.m.n s.y • nodesH l
theorem nodesH_snoc : ∀ (l : List Sp) (s : Sp), nodesH (l ++ [s]) = (nodesH l • NodeH s.m.n s.y)
  | [], s => by simp only [List.nil_append, nodesH, sep_emp', emp_sep]
  | t :: l, s => by simp only [List.cons_append, nodesH, nodesH_snoc l s, sep_assoc']
abbrev StkB (kp : Nat) (l : List Sp) (x : Option Nat × Nat) (R : HProp) : HProp := row kp 129 [sv x.1 l.length x.2] • slck 6 118 (sv x.1 l.length x.2) l.length (spotsC l) • R
def Stk (kp : Nat) (l : List Sp) : HProp := ex fun x => pr True • StkB kp l x emp
theorem Stk.opn (kp : Nat) (l : List Sp) (R : HProp) : Imp (Stk kp l • R) (ex fun x => pr True • StkB kp l x R) :=
  Imp.opn' fun x => by simp only [StkB, sep_assoc', emp_sep]
theorem Stk.mk {kp : Nat} {l : List Sp} (x : Option Nat × Nat) : Imp (StkB kp l x emp) (Stk kp l) := Imp.mk (B := fun x => StkB kp l x emp) (φ := fun _ => True) x trivial
theorem stack_push (kp : Nat) (l : List Sp) (s : Sp) (hl : l.length ≤ 1000) : CS 111 [ptr kp, s.v] (Stk kp l) fun v H' => v = .tuple #[] ∧ H' = Stk kp (l ++ [s]) := by
  refine CS.walk Tryz.func111 rfl Tryz.ntmps111 rfl fun c R => ?_
  refine W.open (Stk.opn kp l) rfl ?_
  rintro ⟨a, cap⟩ _
  (repeat (first | refine W.ctl rfl ?_ | refine W.op rfl rfl rfl rfl ?_ | refine W.skip rfl rfl ?_ | refine W.fld rfl rfl rfl rfl rfl ?_ | refine W.ld rfl rfl rfl rfl rfl ?_))
  refine W.box rfl rfl rfl rfl rfl fun b => ?_
  (repeat (first | refine W.ctl rfl ?_ | refine W.op rfl rfl rfl rfl ?_ | refine W.skip rfl rfl ?_ | refine W.fld rfl rfl rfl rfl rfl ?_ | refine W.ld rfl rfl rfl rfl rfl ?_))
  refine W.anyh (f := 5) (fun j => !Nat.beq j 10) [0, 1, 2, 3, 4, 5] (by kernel_rfl) (by kernel_rfl) (by kernel_rfl) (by kernel_rfl) rfl (row kp 129 [sv a l.length cap] • row b 118 s.cells) Imp.all ?_
  (repeat (first | refine W.ctl rfl ?_ | refine W.op rfl rfl rfl rfl ?_ | refine W.skip rfl rfl ?_ | refine W.fld rfl rfl rfl rfl rfl ?_ | refine W.ld rfl rfl rfl rfl rfl ?_))
  refine W.lds rfl rfl rfl rfl rfl ?_
  (repeat (first | refine W.ctl rfl ?_ | refine W.op rfl rfl rfl rfl ?_ | refine W.skip rfl rfl ?_ | refine W.fld rfl rfl rfl rfl rfl ?_ | refine W.ld rfl rfl rfl rfl rfl ?_))
  refine W.tdn ?_
  refine W.ald1 6 (by kernel_rfl) rfl ?_
  refine W.bsa rfl rfl rfl rfl rfl rfl rfl rfl fun g => ?_
  refine W.aft Imp.all ?_
  refine W.ald1 7 (by kernel_rfl) rfl ?_
  refine W.appk (kk := 6) (news := s.cells) rfl rfl rfl rfl rfl rfl rfl rfl rfl (by omega) (by omega) fun a' cap' => ?_
  refine W.aft Imp.all ?_
  refine W.ald1 8 (by kernel_rfl) rfl ?_
  (repeat (first | refine W.ctl rfl ?_ | refine W.op rfl rfl rfl rfl ?_ | refine W.skip rfl rfl ?_))
  refine W.aft Imp.all ?_
  refine W.ald1 9 (by kernel_rfl) rfl ?_
  refine W.fld rfl rfl rfl rfl rfl ?_
  refine W.aft Imp.all ?_
  refine W.ald1 10 (by kernel_rfl) rfl ?_
  refine W.st rfl rfl rfl rfl rfl ?_
  refine W.afb (W.adn (by kernel_rfl) ?_)
  (repeat (first | refine W.ctl rfl ?_ | refine W.op rfl rfl rfl rfl ?_ | refine W.skip rfl rfl ?_ | refine W.fld rfl rfl rfl rfl rfl ?_ | refine W.ld rfl rfl rfl rfl rfl ?_))
  have e := Stk.mk (kp := kp) (l := l ++ [s]) (a', cap')
  simp only [StkB, List.length_append, List.length_singleton, spotsC_snoc, sep_emp'] at e
  exact W.ret0 (.inl rfl) rfl _ ⟨rfl, rfl⟩ (Imp.pack e Imp.all)
abbrev spotZ : Value := .agg #[int 0, .bool false, .slice none 0 0, .slice none 0 0, .slice none 0 0, int 0]
theorem stack_pop0 (kp : Nat) : CS 62 [ptr kp] (Stk kp []) fun v H' => v = .tuple #[spotZ, .bool false] ∧ H' = Stk kp [] := by
  refine CS.walk Tryz.func62 rfl Tryz.ntmps62 rfl fun c R => ?_
  refine W.open (Stk.opn kp []) rfl ?_
  rintro ⟨a, cap⟩ _
  (repeat (first | refine W.ctl rfl ?_ | refine W.op rfl rfl rfl rfl ?_ | refine W.skip rfl rfl ?_ | refine W.fld rfl rfl rfl rfl rfl ?_ | refine W.ld rfl rfl rfl rfl rfl ?_))
  refine W.alc rfl rfl rfl rfl fun b => ?_
  (repeat (first | refine W.ctl rfl ?_ | refine W.op rfl rfl rfl rfl ?_ | refine W.skip rfl rfl ?_ | refine W.fld rfl rfl rfl rfl rfl ?_ | refine W.ld rfl rfl rfl rfl rfl ?_))
  refine W.len rfl rfl rfl rfl rfl ?_
  refine W.yes rfl rfl rfl rfl (by simp) ?_
  (repeat (first | refine W.ctl rfl ?_ | refine W.op rfl rfl rfl rfl ?_ | refine W.skip rfl rfl ?_ | refine W.fld rfl rfl rfl rfl rfl ?_ | refine W.ld rfl rfl rfl rfl rfl ?_))
  refine W.lds rfl rfl rfl rfl rfl ?_
  refine W.sts rfl rfl rfl rfl rfl rfl ?_
  (repeat (first | refine W.ctl rfl ?_ | refine W.op rfl rfl rfl rfl ?_ | refine W.skip rfl rfl ?_ | refine W.fld rfl rfl rfl rfl rfl ?_ | refine W.ld rfl rfl rfl rfl rfl ?_))
  exact W.rets (.inr rfl) rfl (.cons (RV1.cells rfl) (.cons (RV1.tmp rfl) .nil)) _ ⟨rfl, rfl⟩ (Imp.pack (Stk.mk (a, cap)) Imp.all)
theorem stack_pop (kp : Nat) (l : List Sp) (s : Sp) (hl : l.length ≤ 1000) : CS 62 [ptr kp] (Stk kp (l ++ [s])) fun v H' => v = .tuple #[s.v, .bool true] ∧ H' = Stk kp l := by
  refine CS.walk Tryz.func62 rfl Tryz.ntmps62 rfl fun c R => ?_
  refine W.open (Stk.opn kp (l ++ [s])) rfl ?_
  rintro ⟨a, cap⟩ _
  simp only [StkB, List.length_append, List.length_singleton, spotsC_snoc, sep_assoc']
  (repeat (first | refine W.ctl rfl ?_ | refine W.op rfl rfl rfl rfl ?_ | refine W.skip rfl rfl ?_ | refine W.fld rfl rfl rfl rfl rfl ?_ | refine W.ld rfl rfl rfl rfl rfl ?_))
  refine W.alc rfl rfl rfl rfl fun b => ?_
  (repeat (first | refine W.ctl rfl ?_ | refine W.op rfl rfl rfl rfl ?_ | refine W.skip rfl rfl ?_ | refine W.fld rfl rfl rfl rfl rfl ?_ | refine W.ld rfl rfl rfl rfl rfl ?_))
  refine W.len rfl rfl rfl rfl rfl ?_
  refine W.no rfl rfl rfl rfl (by omega) ?_
  (repeat (first | refine W.ctl rfl ?_ | refine W.op rfl rfl rfl rfl ?_ | refine W.skip rfl rfl ?_ | refine W.fld rfl rfl rfl rfl rfl ?_ | refine W.ld rfl rfl rfl rfl rfl ?_))
  refine W.anyq (f := 1) (fun j => !Nat.beq j 12) [0, 1, 2, 3, 4, 5, 6, 7, 8, 9, 10, 11] (by kernel_rfl) (by kernel_rfl) (by kernel_rfl) (by kernel_rfl) rfl ?_
  (repeat (first | refine W.ctl rfl ?_ | refine W.op rfl rfl rfl rfl ?_ | refine W.skip rfl rfl ?_ | refine W.fld rfl rfl rfl rfl rfl ?_ | refine W.ld rfl rfl rfl rfl rfl ?_))
  refine W.len rfl rfl rfl rfl rfl ?_
  refine W.ar (r := (l.length : Int)) rfl rfl rfl rfl rfl rfl (congrArg some (by omega)) (wrap_i64 (by omega) (by omega)) ?_
  refine W.idxk rfl rfl rfl rfl rfl rfl (by omega) (by omega) ?_
  refine W.ldkr s.cells rfl rfl rfl rfl rfl rfl (fun j hj => by
    rw [Int.toNat_natCast, List.getElem?_append_right (by rw [spotsC_length]; omega), spotsC_length]
    congr 1; omega) ?_
  refine W.tdn ?_
  refine W.ald1 12 (by kernel_rfl) rfl ?_
  refine W.sts rfl rfl rfl rfl rfl rfl ?_
  refine W.afb (W.adn (by kernel_rfl) ?_)
  (repeat (first | refine W.ctl rfl ?_ | refine W.op rfl rfl rfl rfl ?_ | refine W.skip rfl rfl ?_ | refine W.fld rfl rfl rfl rfl rfl ?_ | refine W.ld rfl rfl rfl rfl rfl ?_))
  refine W.anyq (f := 1) (fun j => !Nat.beq j 14) [0, 1, 2, 3, 4, 5, 6, 7, 8, 9, 10, 11, 12, 13] (by kernel_rfl) (by kernel_rfl) (by kernel_rfl) (by kernel_rfl) rfl ?_
  (repeat (first | refine W.ctl rfl ?_ | refine W.op rfl rfl rfl rfl ?_ | refine W.skip rfl rfl ?_ | refine W.fld rfl rfl rfl rfl rfl ?_ | refine W.ld rfl rfl rfl rfl rfl ?_))
  refine W.len rfl rfl rfl rfl rfl ?_
  refine W.ar (r := (l.length : Int)) rfl rfl rfl rfl rfl rfl (congrArg some (by omega)) (wrap_i64 (by omega) (by omega)) ?_
  refine W.skf a 118 (fun f1 f2 f3 f4 => ?_)
  refine W.sltk rfl rfl rfl rfl rfl rfl (by omega) (by omega) ?_
  (repeat (first | refine W.ctl rfl ?_ | refine W.op rfl rfl rfl rfl ?_ | refine W.skip rfl rfl ?_ | refine W.fld rfl rfl rfl rfl rfl ?_ | refine W.ld rfl rfl rfl rfl rfl ?_))
  refine W.tdn ?_
  refine W.ald1 14 (by kernel_rfl) rfl ?_
  refine W.st rfl rfl rfl rfl rfl ?_
  refine W.afb (W.adn (by kernel_rfl) ?_)
  (repeat (first | refine W.ctl rfl ?_ | refine W.op rfl rfl rfl rfl ?_ | refine W.skip rfl rfl ?_ | refine W.fld rfl rfl rfl rfl rfl ?_ | refine W.ld rfl rfl rfl rfl rfl ?_))
  refine W.lds rfl rfl rfl rfl rfl ?_
  refine W.sts rfl rfl rfl rfl rfl rfl ?_
  (repeat (first | refine W.ctl rfl ?_ | refine W.op rfl rfl rfl rfl ?_ | refine W.skip rfl rfl ?_ | refine W.fld rfl rfl rfl rfl rfl ?_ | refine W.ld rfl rfl rfl rfl rfl ?_))
  rw [Int.toNat_natCast]
  refine W.skE (m := l.length + 1) a 118 rfl (by omega) ?_
  rintro g sp rfl q1 q2 q3 q4
  refine W.rets (.inr rfl) rfl (.cons (RV1.cells rfl) (.cons (RV1.tmp rfl) .nil)) _ ⟨rfl, rfl⟩ ?_
  rw [List.append_assoc] at q3 ⊢
  have e1 : Imp (row g 118 (spotsC l ++ (s.cells ++ sp))) (slck 6 118 (sv (some g) l.length cap) l.length (spotsC l)) := slck_mk (k := 6) (E := 118) (g := g) (n := l.length) (cap := cap) (xs := spotsC l) (sp := s.cells ++ sp) (spotsC_length l) (by omega) q2 q3
  have e2 := Stk.mk (kp := kp) (l := l) (some g, cap)
  simp only [StkB, sep_emp'] at e2
  exact Imp.trans (Imp.pack (K := row kp 129 [sv (some g) l.length cap] • R) e1 Imp.all) (Imp.pack e2 Imp.all)
end Go.Proofs.YtbdhhedfplkidaaGreat
