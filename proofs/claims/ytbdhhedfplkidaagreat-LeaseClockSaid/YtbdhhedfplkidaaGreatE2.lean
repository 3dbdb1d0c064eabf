/- The walk's rules, one for each kind of operation. -/
import Derived.Test.YtbdhhedfplkidaaGreatTy
namespace Go.Proofs.YtbdhhedfplkidaaGreat
open Go

/-- Block b is a row of cells of the type E, which may be written to. -/
def row (b : Nat) (E : TypeId) (cs : List Value) : HProp := pt b (.cells cs.toArray E (0, 0))
/-- Block b is a map with these entries. -/
def mapb (b : Nat) (es : List MapEntry) (clock : Nat) : HProp := pt b (.map es.toArray clock)
class Rw (H : HProp) (b : Nat) (E : outParam TypeId) (cs : outParam (List Value)) (R : outParam HProp) : Prop where
  eq : H = (row b E cs • R)
instance (priority := 1000) rwHead (b : Nat) (E : TypeId) (cs : List Value) (R : HProp) : Rw (row b E cs • R) b E cs R := ⟨rfl⟩
instance (priority := 500) rwTail (b : Nat) (E : TypeId) (cs : List Value) (B H R : HProp) [h : Rw H b E cs R] : Rw (B • H) b E cs (B • R) := ⟨by rw [h.eq, sep_left_comm']⟩
instance (priority := 900) rwLast (b : Nat) (E : TypeId) (cs : List Value) : Rw (row b E cs) b E cs emp := ⟨by rw [sep_comm', emp_sep]⟩
class Mb (H : HProp) (b : Nat) (es : outParam (List MapEntry)) (clock : outParam Nat) (R : outParam HProp) : Prop where
  eq : H = (mapb b es clock • R)
instance (priority := 1000) mbHead (b : Nat) (es : List MapEntry) (k : Nat) (R : HProp) : Mb (mapb b es k • R) b es k R := ⟨rfl⟩
instance (priority := 500) mbTail (b : Nat) (es : List MapEntry) (k : Nat) (B H R : HProp) [h : Mb H b es k R] : Mb (B • H) b es k (B • R) := ⟨by rw [h.eq, sep_left_comm']⟩
instance (priority := 900) mbLast (b : Nat) (es : List MapEntry) (k : Nat) : Mb (mapb b es k) b es k emp := ⟨by rw [sep_comm', emp_sep]⟩

/-- Cell o of a row is v. -/
class Nv (cs : List Value) (o : Nat) (v : outParam Value) : Prop where
  eq : cs[o]? = some v
instance nv0 (v : Value) (r : List Value) : Nv (v :: r) 0 v := ⟨rfl⟩
instance nvS (u v : Value) (r : List Value) (o : Nat) [h : Nv r o v] : Nv (u :: r) (o + 1) v := ⟨by simpa using h.eq⟩
class Nvs (cs : List Value) (o k : Nat) (vs : outParam (List Value)) : Prop where
  eq : ∀ j, j < k → cs[o + j]? = vs[j]?
  len : vs.length = k
instance nvs0 (cs : List Value) (o : Nat) : Nvs cs o 0 [] := ⟨fun _ h => absurd h (by omega), rfl⟩
instance nvsS (cs : List Value) (o k : Nat) (v : Value) (vs : List Value) [h : Nv cs o v] [t : Nvs cs (o + 1) k vs] : Nvs cs o (k + 1) (v :: vs) := ⟨fun j hj => by
  cases j with
  | zero => simpa using h.eq
  | succ j => have := t.eq j (by omega); rw [show o + (j + 1) = o + 1 + j from by omega]; simpa using this, by simp [t.len]⟩
class St (cs : List Value) (o : Nat) (v : Value) (cs' : outParam (List Value)) : Prop where
  eq : cs.set o v = cs'
  lt : o < cs.length
instance st0 (u v : Value) (r : List Value) : St (u :: r) 0 v (v :: r) := ⟨rfl, by simp⟩
instance stS (u v : Value) (r r' : List Value) (o : Nat) [h : St r o v r'] : St (u :: r) (o + 1) v (u :: r') := ⟨by simp [h.eq], by have := h.lt; simp; omega⟩
def setAll (cs : List Value) (o : Nat) : List Value → List Value
  | [] => cs
  | v :: vs => setAll (cs.set o v) (o + 1) vs
theorem setAll_length (vs : List Value) : ∀ (cs : List Value) (o : Nat), (setAll cs o vs).length = cs.length := by
  induction vs with
  | nil => intros; rfl
  | cons v vs ih => intro cs o; simp [setAll, ih]
class Sts (cs : List Value) (o : Nat) (vs : List Value) (cs' : outParam (List Value)) : Prop where
  eq : setAll cs o vs = cs'
  le : o + vs.length ≤ cs.length
instance sts0 (cs : List Value) : Sts cs cs.length [] cs := ⟨rfl, by simp⟩
instance (priority := low) stsN (cs : List Value) (o : Nat) (v : Value) (cs' : List Value) [h : St cs o v cs'] : Sts cs o [v] cs' := ⟨h.eq, by have := h.lt; simp; omega⟩
instance stsS (cs cs' cs'' : List Value) (o : Nat) (v u : Value) (vs : List Value) [h : St cs o v cs'] [t : Sts cs' (o + 1) (u :: vs) cs''] : Sts cs o (v :: u :: vs) cs'' := ⟨by
  show setAll (cs.set o v) (o + 1) (u :: vs) = cs''
  rw [h.eq]; exact t.eq, by have := t.le; have e := congrArg List.length h.eq; simp at e this ⊢; omega⟩
/-- A value's cells. -/
class Cl (v : Value) (cs : outParam (List Value)) : Prop where
  eq : v.cells = cs.toArray
  one : ∀ u ∈ cs, u.oneCell' = true
class One (v : Value) : Prop where
  one : v.oneCell' = true
  cells : v.cells = #[v]
instance (b : Bool) : One (.bool b) := ⟨rfl, rfl⟩
instance (k : IntKind) (n : Int) : One (.int k n) := ⟨rfl, rfl⟩
instance (s : ByteArray) : One (.string s) := ⟨rfl, rfl⟩
instance (a : Option Addr) : One (.pointer a) := ⟨rfl, rfl⟩
instance (a : Option Addr) (n c : Nat) : One (.slice a n c) := ⟨rfl, rfl⟩
instance (r : Option Nat) : One (.map r) := ⟨rfl, rfl⟩
instance (f : Fn) (x y : Array Value) : One (.func f x y) := ⟨rfl, rfl⟩
instance : One .nilFunc := ⟨rfl, rfl⟩
instance : One .nilIface := ⟨rfl, rfl⟩
instance (t : TypeId) (v : Value) : One (.iface t v) := ⟨rfl, rfl⟩
class Ones (cs : List Value) : Prop where
  one : ∀ u ∈ cs, u.oneCell' = true
instance : Ones [] := ⟨fun _ h => by cases h⟩
instance (v : Value) (vs : List Value) [h : One v] [t : Ones vs] : Ones (v :: vs) := ⟨fun u hu => by
  rcases List.mem_cons.1 hu with rfl | hu
  · exact h.one
  · exact t.one u hu⟩
instance (priority := low) clOne (v : Value) [h : One v] : Cl v [v] := ⟨h.cells, fun u hu => by simp at hu; subst hu; exact h.one⟩
instance clAgg (cs : List Value) [h : Ones cs] : Cl (.agg cs.toArray) cs := ⟨rfl, h.one⟩

section
variable {c w : World} {H R : HProp} {b : Nat} {E : TypeId} {cs : List Value}
theorem SL.rcell (h : SL c (row b E cs • R) w) (i : Nat) : w.cell? ⟨b, i, none⟩ = cs[i]? := by
  have := SL.cell (cs := cs.toArray) h i
  simpa using this
theorem SL.rfrozen (h : SL c (row b E cs • R) w) (i : Nat) : w.frozen? ⟨b, i, none⟩ = false := by
  have := SL.frozen (cs := cs.toArray) (fz := (0, 0)) h i
  simpa using this
theorem SL.rset (h : SL c (row b E cs • R) w) (i : Nat) (v : Value) : SL c (row b E (cs.set i v) • R) (w.setCell ⟨b, i, none⟩ v) := by
  have := SL.setCell (cs := cs.toArray) h i v
  simpa [row] using this
theorem SL.ralloc (h : SL c R w) (E : TypeId) (cs : Array Value) : SL c (row w.heap.size E cs.toList • R) (w.alloc (.cells cs E)) := h.alloc _
theorem add_none (b o i : Nat) : (⟨b, o, none⟩ : Addr).add i = ⟨b, o + i, none⟩ := by
  unfold Addr.add; split
  · rename_i h; subst h; rfl
  · rfl
theorem SL.storeCells : ∀ (vs : List Value) (cs : List Value) (o i : Nat) (w : World), SL c (row b E cs • R) w → o + i + vs.length ≤ cs.length → (∀ u ∈ vs, u.oneCell' = true) →
    ∃ w', (storeCells ⟨b, o, none⟩ vs i).run Pg w = .ok () w' ∧ SL c (row b E (setAll cs (o + i) vs) • R) w'
  | [], cs, o, i, w, h, _, _ => ⟨w, rfl, h⟩
  | v :: vs, cs, o, i, w, h, hl, h1 => by
    simp only [List.length_cons] at hl
    have hc := h.rcell (o + i)
    have hlt : cs[o + i]? = some cs[o + i] := List.getElem?_eq_getElem (by omega)
    have hr := run_store Pg w ⟨b, o + i, none⟩ v .plain (h1 v (by simp))
    rw [hc, hlt] at hr
    simp only [h.rfrozen (o + i), Bool.false_eq_true, if_false] at hr
    obtain ⟨w', hr', hs'⟩ := SL.storeCells vs (cs.set (o + i) v) o (i + 1) _ (h.rset (o + i) v) (by simp; omega) (fun u hu => h1 u (by simp [hu]))
    refine ⟨w', ?_, by rw [show o + (i + 1) = o + i + 1 from by omega] at hs'; exact hs'⟩
    simp only [Go.storeCells, Sem.run_bind, add_none, hr, Result.andThen_ok]
    exact hr'
end

/-- What a pure operation yields. -/
def cmp (op : BinOp) (a b : Int) : Option Value :=
  match op with
  | .eql => some (.bool (decide (a = b)))
  | .neq => some (.bool (decide (a ≠ b)))
  | .lss => some (.bool (decide (a < b)))
  | .leq => some (.bool (decide (a ≤ b)))
  | .gtr => some (.bool (decide (b < a)))
  | .geq => some (.bool (decide (b ≤ a)))
  | _ => none
def pv (l : List (Nat × Value)) : Op → Option Value
  | .move x => ev l x
  | .assign x => ev l x
  | .pick c a b => match ev l c with
    | some (.bool true) => ev l a
    | some (.bool false) => ev l b
    | _ => none
  | .unOp op _ x => match op with
    | .not => match ev l x with
      | some (.bool b) => some (.bool !b)
      | _ => none
    | _ => none
  | .extract x i => match ev l x with
    | some (.tuple vs) => vs[i]?
    | _ => none
  | .nilCheck x => match ev l x with
    | some (.pointer (some a)) => some (.pointer (some a))
    | some (.func (.func f) x y) => some (.func (.func f) x y)
    | _ => none
  | _ => none

/-- What a test of two numbers yields. -/
def pc (l : List (Nat × Value)) : Op → Option Value
  | .binOp op _ x y _ => match ev l x with
    | some (.int k a) => match ev l y with
      | some (.int k' b) => bif decide (k = k') then cmp op a b else none
      | _ => none
    | _ => none
  | _ => none

section
variable {c : World} {Q : Exit → Act → World → Prop} {n : Nat} {l : List (Nat × Value)} {H R : HProp} {ks : List Kn}
variable {q q1 q2 : Md} {all : Array Oper} {o : Oper} {rest : List Oper} {d : Nat} {v : Value}
theorem pv_run {a : Act} {w : World} (hf : Fr a n l) (h : pv l o.op = some v) : (execOp a.eval o).run Pg w = .ok (.value v) w := by
  unfold pv at h
  unfold execOp
  split at h <;> rename_i hop <;> simp only [hop]
  · rw [hf.eval h]; rfl
  · rw [hf.eval h]; rfl
  · split at h
    · rename_i hc; simp [hf.eval hc, hf.eval h, asBool]
    · rename_i hc; simp [hf.eval hc, hf.eval h, asBool]
    · cases h
  · split at h
    · split at h
      · rename_i hx; cases h; simp [hf.eval hx, Op.unary]
      · cases h
    · cases h
  · split at h
    · rename_i vs hx; simp [hf.eval hx, Instr.extract, h]
    · cases h
  · split at h
    · rename_i hx; cases h; simp [hf.eval hx]
    · rename_i hx; cases h; simp [hf.eval hx]
    · cases h
  · cases h
theorem pc_run {a : Act} {w : World} (hf : Fr a n l) (h : pc l o.op = some v) : (execOp a.eval o).run Pg w = .ok (.value v) w := by
  unfold pc at h
  unfold execOp
  split at h <;> rename_i hop <;> simp only [hop]
  · split at h
    · rename_i k x hx
      split at h
      · rename_i k' y hy
        by_cases hk : k = k'
        · subst hk
          simp only [decide_true, cond_true] at h
          rw [hf.eval hx, hf.eval hy]
          unfold cmp at h
          split at h <;> cases h <;> simp [eqGuard, binOp, Op.intCmp, bne] <;> rfl
        · simp [hk] at h
      · cases h
    · cases h
  · cases h
/-- A pure operation. -/
theorem W.op [hNL : NL q1 q2] (hg : o.guard = none) (hd : o.dst = some d) (hn : Nat.blt d n = true) (hv : pv l o.op = some v)
    (k : WS c Q n (.ops q2 all rest ks) ((d, v) :: l) H) : WS c Q n (.ops q1 all (o :: rest) ks) l H :=
  W.val hg hd hn (fun _ _ hf _ => pv_run hf hv) k
/-- A test: both ways. -/
theorem W.test [hNL : NL q1 q2] (hg : o.guard = none) (hd : o.dst = some d) (hn : Nat.blt d n = true) {b : Bool} (hv : pc l o.op = some (.bool b))
    (k : b = true → WS c Q n (.ops q2 all rest ks) ((d, .bool true) :: l) H) (k' : b = false → WS c Q n (.ops q2 all rest ks) ((d, .bool false) :: l) H) : WS c Q n (.ops q1 all (o :: rest) ks) l H := by
  cases hb : b with
  | true => exact W.val hg hd hn (fun _ _ hf _ => pc_run hf (hb ▸ hv)) (k hb)
  | false => exact W.val hg hd hn (fun _ _ hf _ => pc_run hf (hb ▸ hv)) (k' hb)
theorem W.ift [hNL : NL q1 q2] (hg : o.guard = none) (hd : o.dst = some d) (hn : Nat.blt d n = true) {p : Prop} [Decidable p] (hv : pc l o.op = some (.bool (decide p)))
    (k : p → WS c Q n (.ops q2 all rest ks) ((d, .bool true) :: l) H) (k' : ¬p → WS c Q n (.ops q2 all rest ks) ((d, .bool false) :: l) H) : WS c Q n (.ops q1 all (o :: rest) ks) l H :=
  W.test hg hd hn hv (fun h => k (of_decide_eq_true h)) (fun h => k' (of_decide_eq_false h))
theorem W.yes [hNL : NL q1 q2] (hg : o.guard = none) (hd : o.dst = some d) (hn : Nat.blt d n = true) {p : Prop} [Decidable p] (hv : pc l o.op = some (.bool (decide p))) (hp : p)
    (k : WS c Q n (.ops q2 all rest ks) ((d, .bool true) :: l) H) : WS c Q n (.ops q1 all (o :: rest) ks) l H :=
  W.val hg hd hn (fun _ _ hf _ => pc_run hf (by rw [hv, decide_eq_true hp])) k
theorem W.no [hNL : NL q1 q2] (hg : o.guard = none) (hd : o.dst = some d) (hn : Nat.blt d n = true) {p : Prop} [Decidable p] (hv : pc l o.op = some (.bool (decide p))) (hp : ¬p)
    (k : WS c Q n (.ops q2 all rest ks) ((d, .bool false) :: l) H) : WS c Q n (.ops q1 all (o :: rest) ks) l H :=
  W.val hg hd hn (fun _ _ hf _ => pc_run hf (by rw [hv, decide_eq_false hp])) k
/-- A test, left as it is. -/
theorem W.cmp [hNL : NL q1 q2] (hg : o.guard = none) (hd : o.dst = some d) (hn : Nat.blt d n = true) (hv : pc l o.op = some v)
    (k : WS c Q n (.ops q2 all rest ks) ((d, v) :: l) H) : WS c Q n (.ops q1 all (o :: rest) ks) l H :=
  W.val hg hd hn (fun _ _ hf _ => pc_run hf hv) k
/-- Some operation on two numbers. -/
theorem W.bin [hNL : NL q1 q2] {op : BinOp} {t t' : TypeId} {x y : Operand} {k1 k2 : IntKind} {i j : Int} (hg : o.guard = none) (hd : o.dst = some d) (hn : Nat.blt d n = true) (ho : o.op = .binOp op t x y t')
    (hx : ev l x = some (.int k1 i)) (hy : ev l y = some (.int k2 j)) (hr : ∀ w, (binOp op t (.int k1 i) (.int k2 j)).run Pg w = .ok v w)
    (k : WS c Q n (.ops q2 all rest ks) ((d, v) :: l) H) : WS c Q n (.ops q1 all (o :: rest) ks) l H := by
  refine W.val hg hd hn (fun a w hf _ => ?_) k
  have he : ∀ w, (eqGuard op t x y (.int k1 i) (.int k2 j)).run Pg w = .ok () w := fun w => by cases op <;> rfl
  simp only [execOp, ho, hf.eval hx, hf.eval hy, Sem.run_bind, he, Result.andThen_ok, hr]
  rfl
/-- &x.f -/
theorem W.fld [hNL : NL q1 q2] {s f r b i : Nat} {x : Operand} (hg : o.guard = none) (hd : o.dst = some d) (hn : Nat.blt d n = true) (ho : o.op = .fieldAddr s x f)
    (hx : ev l x = some (.pointer (some ⟨b, i, none⟩))) [ht : TFi s f i r] (k : WS c Q n (.ops q2 all rest ks) ((d, .pointer (some ⟨b, r, none⟩)) :: l) H) : WS c Q n (.ops q1 all (o :: rest) ks) l H := by
  refine W.val hg hd hn (fun a w hf _ => ?_) k
  simp [execOp, ho, hf.eval hx, ht.run]
/-- A sum, a difference, a product that its kind holds. -/
def arith (op : BinOp) (a b : Int) : Option Int :=
  match op with
  | .add => some (a + b)
  | .sub => some (a - b)
  | .mul => some (a * b)
  | _ => none
theorem W.wrap [hNL : NL q1 q2] {op : BinOp} {t t' : TypeId} {x y : Operand} {kd : IntKind} {i j r : Int} (hg : o.guard = none) (hd : o.dst = some d) (hn : Nat.blt d n = true) (ho : o.op = .binOp op t x y t')
    (hx : ev l x = some (.int kd i)) (hy : ev l y = some (.int kd j)) (hr : arith op i j = some r)
    (k : WS c Q n (.ops q2 all rest ks) ((d, .int kd (kd.wrap r)) :: l) H) : WS c Q n (.ops q1 all (o :: rest) ks) l H := by
  refine W.val hg hd hn (fun a w hf _ => ?_) k
  unfold arith at hr
  split at hr <;> cases hr <;> simp [execOp, ho, hf.eval hx, hf.eval hy, eqGuard, binOp, Op.intArith]
theorem W.ar [hNL : NL q1 q2] {op : BinOp} {t t' : TypeId} {x y : Operand} {kd : IntKind} {i j r : Int} (hg : o.guard = none) (hd : o.dst = some d) (hn : Nat.blt d n = true) (ho : o.op = .binOp op t x y t')
    (hx : ev l x = some (.int kd i)) (hy : ev l y = some (.int kd j)) (hr : arith op i j = some r) (hw : kd.wrap r = r)
    (k : WS c Q n (.ops q2 all rest ks) ((d, .int kd r) :: l) H) : WS c Q n (.ops q1 all (o :: rest) ks) l H :=
  W.wrap hg hd hn ho hx hy hr (by rw [hw]; exact k)
/-- A number of another kind. -/
theorem W.conv [hNL : NL q1 q2] {s t : TypeId} {x : Operand} {k1 k2 : IntKind} {i : Int} (hg : o.guard = none) (hd : o.dst = some d) (hn : Nat.blt d n = true) (ho : o.op = .convert s t x)
    [hs : TD s (.int k1)] [ht : TD t (.int k2)] (hx : ev l x = some (.int k1 i))
    (k : WS c Q n (.ops q2 all rest ks) ((d, .int k2 (k2.wrap i)) :: l) H) : WS c Q n (.ops q1 all (o :: rest) ks) l H := by
  refine W.val hg hd hn (fun a w hf _ => ?_) k
  simp [execOp, ho, hf.eval hx, convert, run_underlying hs.eq, run_underlying ht.eq, Conv.intToInt]
theorem W.cv [hNL : NL q1 q2] {s t : TypeId} {x : Operand} {k1 k2 : IntKind} {i : Int} (hg : o.guard = none) (hd : o.dst = some d) (hn : Nat.blt d n = true) (ho : o.op = .convert s t x)
    [hs : TD s (.int k1)] [ht : TD t (.int k2)] (hx : ev l x = some (.int k1 i)) (hw : k2.wrap i = i)
    (k : WS c Q n (.ops q2 all rest ks) ((d, .int k2 i) :: l) H) : WS c Q n (.ops q1 all (o :: rest) ks) l H :=
  W.conv hg hd hn ho hx (by rw [hw]; exact k)
/-- A load of one cell. -/
theorem W.ld [hNL : NL q1 q2] {t : TypeId} {x : Operand} {z : Value} {b i : Nat} {E : TypeId} {cs : List Value} (hg : o.guard = none) (hd : o.dst = some d) (hn : Nat.blt d n = true) (ho : o.op = .load t x) [ti : TI t z 1 false]
    (hx : ev l x = some (.pointer (some ⟨b, i, none⟩))) [hr : Rw H b E cs R] [hv : Nv cs i v] (k : WS c Q n (.ops q2 all rest ks) ((d, v) :: l) H) : WS c Q n (.ops q1 all (o :: rest) ks) l H := by
  refine W.val hg hd hn (fun a w hf hs => ?_) k
  rw [hr.eq] at hs
  simp [execOp, ho, hf.eval hx, Instr.loadAt, Instr.sureAddr, loadVar, ti.agg, hs.rcell, hv.eq]
/-- A load of one cell, at a place that is reckoned. -/
theorem W.ldi [hNL : NL q1 q2] {t : TypeId} {x : Operand} {z : Value} {b i : Nat} {E : TypeId} {cs : List Value} (hg : o.guard = none) (hd : o.dst = some d) (hn : Nat.blt d n = true) (ho : o.op = .load t x) [ti : TI t z 1 false]
    (hx : ev l x = some (.pointer (some ⟨b, i, none⟩))) [hr : Rw H b E cs R] (hv : cs[i]? = some v) (k : WS c Q n (.ops q2 all rest ks) ((d, v) :: l) H) : WS c Q n (.ops q1 all (o :: rest) ks) l H := by
  refine W.val hg hd hn (fun a w hf hs => ?_) k
  rw [hr.eq] at hs
  simp [execOp, ho, hf.eval hx, Instr.loadAt, Instr.sureAddr, loadVar, ti.agg, hs.rcell, hv]
/-- A load of a struct. -/
theorem W.lds [hNL : NL q1 q2] {t : TypeId} {x : Operand} {z : Value} {b i s : Nat} {E : TypeId} {cs vs : List Value} (hg : o.guard = none) (hd : o.dst = some d) (hn : Nat.blt d n = true) (ho : o.op = .load t x) [ti : TI t z s true]
    (hx : ev l x = some (.pointer (some ⟨b, i, none⟩))) [hr : Rw H b E cs R] [hv : Nvs cs i s vs] (k : WS c Q n (.ops q2 all rest ks) ((d, .agg vs.toArray) :: l) H) : WS c Q n (.ops q1 all (o :: rest) ks) l H := by
  refine W.val hg hd hn (fun a w hf hs => ?_) k
  rw [hr.eq] at hs
  have hl := run_loadCells_list (P := Pg) w ⟨b, i, none⟩ vs (fun j u hu => by
    rw [add_none, hs.rcell, hv.eq j (by have := List.getElem?_eq_some_iff.1 hu; have := this.1; have := hv.len; omega)]; exact hu)
  rw [hv.len] at hl
  simp [execOp, ho, hf.eval hx, Instr.loadAt, Instr.sureAddr, loadVar, ti.agg, ti.size, hl]
/-- A store of one cell. -/
theorem W.st [NX q1 q2] {t : TypeId} {x y : Operand} {z : Value} {a' : Bool} {b i : Nat} {E : TypeId} {cs cs' : List Value} (hg : o.guard = none) (hd : o.dst = none) (ho : o.op = .store t x y) [ti : TI t z 1 a']
    (hx : ev l x = some (.pointer (some ⟨b, i, none⟩))) (hy : ev l y = some v) [h1 : One v] [hr : Rw H b E cs R] [hv : St cs i v cs'] (k : WS c Q n (.ops q2 all rest ks) l (row b E cs' • R)) : WS c Q n (.ops q1 all (o :: rest) ks) l H := by
  refine W.unit hg hd (fun a w hf hs => ?_) k
  rw [hr.eq] at hs
  obtain ⟨w', h2, h3⟩ := SL.storeCells [v] cs i 0 w hs (by have := hv.lt; simp; omega) (fun u hu => by simp at hu; subst hu; exact h1.one)
  refine ⟨w', ?_, by rw [← hv.eq]; exact h3⟩
  simp [execOp, ho, hf.eval hx, hf.eval hy, Instr.storeAt, Instr.sureAddr, storeVar, h1.cells, ti.size, h2]
/-- A store of one cell, at a place that is reckoned. -/
theorem W.sti [NX q1 q2] {t : TypeId} {x y : Operand} {z : Value} {a' : Bool} {b i : Nat} {E : TypeId} {cs : List Value} (hg : o.guard = none) (hd : o.dst = none) (ho : o.op = .store t x y) [ti : TI t z 1 a']
    (hx : ev l x = some (.pointer (some ⟨b, i, none⟩))) (hy : ev l y = some v) [h1 : One v] [hr : Rw H b E cs R] (hv : i < cs.length) (k : WS c Q n (.ops q2 all rest ks) l (row b E (cs.set i v) • R)) : WS c Q n (.ops q1 all (o :: rest) ks) l H := by
  haveI : St cs i v (cs.set i v) := ⟨rfl, hv⟩
  exact W.st hg hd ho hx hy k
/-- A store of a struct. -/
theorem W.sts [NX q1 q2] {t : TypeId} {x y : Operand} {z : Value} {a' : Bool} {b i s : Nat} {E : TypeId} {cs cs' vs : List Value} (hg : o.guard = none) (hd : o.dst = none) (ho : o.op = .store t x y) [ti : TI t z s a']
    (hx : ev l x = some (.pointer (some ⟨b, i, none⟩))) (hy : ev l y = some (.agg vs.toArray)) [h1 : Ones vs] [hr : Rw H b E cs R] [hv : Sts cs i vs cs'] (hlen : vs.length = s) (k : WS c Q n (.ops q2 all rest ks) l (row b E cs' • R)) : WS c Q n (.ops q1 all (o :: rest) ks) l H := by
  refine W.unit hg hd (fun a w hf hs => ?_) k
  rw [hr.eq] at hs
  obtain ⟨w', h2, h3⟩ := SL.storeCells vs cs i 0 w hs (by have := hv.le; omega) h1.one
  refine ⟨w', ?_, by rw [← hv.eq]; exact h3⟩
  simp [execOp, ho, hf.eval hx, hf.eval hy, Instr.storeAt, Instr.sureAddr, storeVar, Value.cells, hlen, ti.size, h2]
/-- A new variable. -/
theorem W.alc [NX q1 q2] {t : TypeId} {z : Value} {s : Nat} {ag : Bool} {cs : List Value} (hg : o.guard = none) (hd : o.dst = some d) (hn : Nat.blt d n = true) (ho : o.op = .alloc t) [ti : TI t z s ag] [hc : Cl z cs]
    (k : ∀ b, WS c Q n (.ops q2 all rest ks) ((d, .pointer (some ⟨b, 0, none⟩)) :: l) (row b t cs • H)) : WS c Q n (.ops q1 all (o :: rest) ks) l H := by
  refine W.valw (val := fun b => .pointer (some ⟨b, 0, none⟩)) (K := fun b => row b t cs • H) hg hd hn (fun a w hf hs => ?_) k
  refine ⟨w.heap.size, w.alloc (.cells cs.toArray t), ?_, hs.ralloc t cs.toArray⟩
  simp [execOp, ho, Instr.alloc, ti.zero, newVar, newRow, hc.eq]
/-- A new variable with a value. -/
theorem W.box [NX q1 q2] {t : TypeId} {x : Operand} {cs : List Value} (hg : o.guard = none) (hd : o.dst = some d) (hn : Nat.blt d n = true) (ho : o.op = .box t x) (hx : ev l x = some v) [hc : Cl v cs]
    (k : ∀ b, WS c Q n (.ops q2 all rest ks) ((d, .pointer (some ⟨b, 0, none⟩)) :: l) (row b t cs • H)) : WS c Q n (.ops q1 all (o :: rest) ks) l H := by
  refine W.valw (val := fun b => .pointer (some ⟨b, 0, none⟩)) (K := fun b => row b t cs • H) hg hd hn (fun a w hf hs => ?_) k
  refine ⟨w.heap.size, w.alloc (.cells cs.toArray t), ?_, hs.ralloc t cs.toArray⟩
  simp [execOp, ho, Instr.box, hf.eval hx, newVar, newRow, hc.eq]
/-- A call of a function by its contract. -/
theorem W.call [NX q1 q2] {f : FuncId} {args : List Operand} {vs : List Value} {ts : Array TypeId} {A : HProp} {Post : Value → HProp → Prop} (h : CS f vs A Post)
    (hg : o.guard = none) (hd : o.dst = some d) (hn : Nat.blt d n = true) (ho : o.op = .call { callee := .value (.func f), args := args.toArray, argTypes := ts })
    (hc : ∀ (args : Array Value) (w : World), (callFunc f args).run Pg w = .ok (.enter f args) w) (hx : EvL l args vs) [ht : Take H A R]
    (k : ∀ v H', Post v H' → WS c Q n (.ops q2 all rest ks) ((d, v) :: l) (H' • R)) : WS c Q n (.ops q1 all (o :: rest) ks) l H := by
  refine W.base hg fun a w hf hs K hK => ?_
  rw [ht.eq] at hs
  have hrun : (execOp a.eval o).run Pg w = .ok (.enter f vs.toArray) w := by
    simp only [execOp, ho, resolve, Sem.run_bind, Act.eval, Deferred.ofValue, Sem.run_pure, Result.andThen_ok, invoke]
    rw [List.map_toArray, hf.evalL hx]
    simp [hc]
  unfold Oper.wp
  rw [hrun]
  show Calls Pg f vs.toArray w _
  refine (h c R w hs).mono ?_
  rintro e w' ⟨v, H', hp, rfl, hs'⟩
  show K (a.put o.dst v) w'
  rw [hd]
  exact hK _ _ (k v H' hp) _ _ (hf.put hn _) hs'
end
/-- A contract is proved by a walk of the body. -/
theorem CS.walk {f : FuncId} {fn : Func} {x : Code} {n : Nat} {args : List Value} {A : HProp} {Post : Value → HProp → Prop}
    (hf : Pg.funcs[f]? = some fn) (hb : fn.body = some x) (hn : fn.ntmps = n) (hl : Nat.ble args.length n = true)
    (h : ∀ (c : World) (R : HProp), WS c (bodyPost Pg fn fun e w' => ∃ v H', Post v H' ∧ e = .returned v ∧ SL c (H' • R) w') n (.code x []) (ini 0 args) (A • R)) : CS f args A Post := by
  have hl := Nat.le_of_ble_eq_true hl
  intro c R w hs
  refine calls_of_wp hf hb ?_
  subst hn
  refine h c R _ w ⟨rfl, by simp; omega, fun i v hv => ?_⟩ hs
  obtain ⟨_, h2⟩ := lk_ini args 0 i v hv
  have h3 := (List.getElem?_eq_some_iff.1 h2).1
  simp only [Nat.sub_zero] at h2 h3
  rw [Array.getElem?_append_left (by simpa using h3)]
  simpa using h2
section
variable {c : World} {n : Nat} {l : List (Nat × Value)} {H R : HProp} {fn : Func} {Post : Value → HProp → Prop} {e : Ex}
theorem fin_of {v : Value} (he : e = .normal ∨ e = .ret) (hr : ∀ a w, Fr a n l → SL c H w → (results fn a.tmps).run Pg w = .ok v w) (H' : HProp) (hp : Post v H') (hi : Imp H (H' • R)) :
    WS c (bodyPost Pg fn fun e w' => ∃ v H', Post v H' ∧ e = .returned v ∧ SL c (H' • R) w') n (.done e []) l H := by
  intro a w hf hs
  rcases he with rfl | rfl <;> exact ⟨hf.defers, v, hr a w hf hs, v, H', hp, rfl, hs.imp hi⟩
theorem W.ret1 {t : Tmp} {v : Value} (he : e = .normal ∨ e = .ret) (hr : fn.results = #[.tmp t]) (hv : lk t l = some v) (H' : HProp) (hp : Post v H') (hi : Imp H (H' • R)) :
    WS c (bodyPost Pg fn fun e w' => ∃ v H', Post v H' ∧ e = .returned v ∧ SL c (H' • R) w') n (.done e []) l H :=
  fin_of he (fun a w hf _ => by rw [results_tmp hr]; simp [Array.getD_eq_getD_getElem?, hf.slot t v hv]) H' hp hi
theorem W.ret0 (he : e = .normal ∨ e = .ret) (hr : fn.results = #[]) (H' : HProp) (hp : Post (.tuple #[]) H') (hi : Imp H (H' • R)) :
    WS c (bodyPost Pg fn fun e w' => ∃ v H', Post v H' ∧ e = .returned v ∧ SL c (H' • R) w') n (.done e []) l H :=
  fin_of he (fun a w hf _ => by rw [results_none hr]) H' hp hi
theorem W.ret2 {t u : Tmp} {v v' : Value} (he : e = .normal ∨ e = .ret) (hr : fn.results = #[.tmp t, .tmp u]) (hv : lk t l = some v) (hv' : lk u l = some v') (H' : HProp) (hp : Post (.tuple #[v, v']) H') (hi : Imp H (H' • R)) :
    WS c (bodyPost Pg fn fun e w' => ∃ v H', Post v H' ∧ e = .returned v ∧ SL c (H' • R) w') n (.done e []) l H :=
  fin_of he (fun a w hf _ => by rw [results_tmp2 hr]; simp [Array.getD_eq_getD_getElem?, hf.slot t v hv, hf.slot u v' hv']) H' hp hi
theorem results_tmp3 {fn : Func} {t u s : Tmp} (h : fn.results = #[.tmp t, .tmp u, .tmp s]) (tmps : Array Value) (P : Program) (w : World) :
    (results fn tmps).run P w = .ok (.tuple #[tmps.getD t undef, tmps.getD u undef, tmps.getD s undef]) w := by
  simp [results, h]
theorem W.ret3 {t u s : Tmp} {v v' v'' : Value} (he : e = .normal ∨ e = .ret) (hr : fn.results = #[.tmp t, .tmp u, .tmp s]) (hv : lk t l = some v) (hv' : lk u l = some v') (hv'' : lk s l = some v'') (H' : HProp) (hp : Post (.tuple #[v, v', v'']) H') (hi : Imp H (H' • R)) :
    WS c (bodyPost Pg fn fun e w' => ∃ v H', Post v H' ∧ e = .returned v ∧ SL c (H' • R) w') n (.done e []) l H :=
  fin_of he (fun a w hf _ => by rw [results_tmp3 hr]; simp [Array.getD_eq_getD_getElem?, hf.slot t v hv, hf.slot u v' hv', hf.slot s v'' hv'']) H' hp hi
end
end Go.Proofs.YtbdhhedfplkidaaGreat
