/- The walk's rules for maps keyed by whole numbers. -/
import Derived.Test.YtbdhhedfplkidaaGreatE4
namespace Go.Proofs.YtbdhhedfplkidaaGreat
open Go
/-- The entries of a map keyed by numbers of the kind kd. -/
def IsKv (kd : IntKind) (es : List MapEntry) (l : List (Int × Value)) : Prop := es.map (fun e => (e.key, e.val)) = l.map fun p => (Value.int kd p.1, p.2)
def mapI (kd : IntKind) (b : Nat) (l : List (Int × Value)) : HProp := ex fun x : List MapEntry × Nat => pr (IsKv kd x.1 l) • mapb b x.1 x.2
class Mi (H : HProp) (b : Nat) (kd : outParam IntKind) (l : outParam (List (Int × Value))) (R : outParam HProp) : Prop where
  eq : H = (mapI kd b l • R)
instance (priority := 1000) miHead (b : Nat) (kd : IntKind) (l : List (Int × Value)) (R : HProp) : Mi (mapI kd b l • R) b kd l R := ⟨rfl⟩
instance (priority := 500) miTail (b : Nat) (kd : IntKind) (l : List (Int × Value)) (B H R : HProp) [h : Mi H b kd l R] : Mi (B • H) b kd l (B • R) := ⟨by rw [h.eq, sep_left_comm']⟩
instance (priority := 900) miLast (b : Nat) (kd : IntKind) (l : List (Int × Value)) : Mi (mapI kd b l) b kd l emp := ⟨by rw [sep_comm', emp_sep]⟩
/-- Where a key stands, and its value. -/
def findI (n : Int) : List (Int × Value) → Nat → Option (Nat × Value)
  | [], _ => none
  | (m, v) :: r, i => if n = m then some (i, v) else findI n r (i + 1)
def lookI (n : Int) : List (Int × Value) → Option Value
  | [] => none
  | (m, v) :: r => if n = m then some v else lookI n r
def putI (n : Int) (v : Value) : List (Int × Value) → List (Int × Value)
  | [] => [(n, v)]
  | (m, u) :: r => if n = m then (n, v) :: r else (m, u) :: putI n v r
def delI (n : Int) : List (Int × Value) → List (Int × Value)
  | [] => []
  | (m, u) :: r => if n = m then r else (m, u) :: delI n r
theorem findI_look (n : Int) : ∀ (l : List (Int × Value)) (i : Nat), (findI n l i).map (·.2) = lookI n l
  | [], _ => rfl
  | (m, v) :: r, i => by simp only [findI, lookI]; split <;> simp [findI_look n r]
theorem findI_ge (n : Int) : ∀ (l : List (Int × Value)) (i j : Nat) (v : Value), findI n l i = some (j, v) → i ≤ j ∧ j < i + l.length
  | [], _, _, _, h => by cases h
  | (m, u) :: r, i, j, v, h => by
    simp only [findI] at h
    split at h
    · cases h; simp
    · have := findI_ge n r (i + 1) j v h; simp; omega
theorem IsKv.findNow {kd : IntKind} (n : Int) : ∀ {es : List MapEntry} {l : List (Int × Value)} (i : Nat), IsKv kd es l → Instr.findNow (.int kd) (.int kd n) es i = some (findI n l i)
  | [], [], _, _ => rfl
  | [], _ :: _, _, h => by cases h
  | _ :: _, [], _, h => by cases h
  | e :: es, (m, v) :: l, i, h => by
    unfold IsKv at h
    simp only [List.map_cons, List.cons.injEq, Prod.mk.injEq] at h
    obtain ⟨⟨h1, h2⟩, h3⟩ := h
    simp only [Instr.findNow, h1, Instr.sameNow, if_true, findI]
    by_cases hn : n = m
    · simp [hn, h2]
    · simp only [hn, if_false]
      have : (n == m) = false := by simp [hn]
      rw [this]
      exact IsKv.findNow n (i + 1) h3
theorem IsKv.put {kd : IntKind} (n : Int) (v : Value) : ∀ {es : List MapEntry} {l : List (Int × Value)} (i j : Nat) (u : Value), IsKv kd es l → findI n l i = some (j, u) →
    IsKv kd (es.modify (j - i) fun e => { e with key := .int kd n, val := v }) (putI n v l)
  | [], [], _, _, _, _, h => by cases h
  | [], _ :: _, _, _, _, h, _ => by cases h
  | _ :: _, [], _, _, _, h, _ => by cases h
  | e :: es, (m, w) :: l, i, j, u, h, hf => by
    have h' := h
    unfold IsKv at h
    simp only [List.map_cons, List.cons.injEq, Prod.mk.injEq] at h
    obtain ⟨⟨h1, h2⟩, h3⟩ := h
    simp only [findI] at hf
    by_cases hn : n = m
    · rw [if_pos hn] at hf
      cases hf
      simp only [putI, if_pos hn, Nat.sub_self, List.modify_zero_cons]
      unfold IsKv
      simp only [List.map_cons]
      rw [h3]
    · rw [if_neg hn] at hf
      have hge := (findI_ge n l (i + 1) j u hf).1
      have ih := IsKv.put n v (i + 1) j u h3 hf
      rw [show j - i = (j - (i + 1)) + 1 from by omega]
      simp only [putI, if_neg hn, List.modify_succ_cons]
      unfold IsKv at ih ⊢
      simp only [List.map_cons, h1, h2, ih]
theorem putI_none (n : Int) (v : Value) : ∀ (l : List (Int × Value)) (i : Nat), findI n l i = none → putI n v l = l ++ [(n, v)]
  | [], _, _ => rfl
  | (m, u) :: r, i, h => by
    simp only [findI] at h
    by_cases hn : n = m
    · rw [if_pos hn] at h; cases h
    · rw [if_neg hn] at h; simp [putI, hn, putI_none n v r _ h]
theorem IsKv.del {kd : IntKind} (n : Int) : ∀ {es : List MapEntry} {l : List (Int × Value)} (i j : Nat) (u : Value), IsKv kd es l → findI n l i = some (j, u) →
    IsKv kd (es.eraseIdx (j - i)) (delI n l)
  | [], [], _, _, _, _, h => by cases h
  | [], _ :: _, _, _, _, h, _ => by cases h
  | _ :: _, [], _, _, _, h, _ => by cases h
  | e :: es, (m, w) :: l, i, j, u, h, hf => by
    unfold IsKv at h
    simp only [List.map_cons, List.cons.injEq, Prod.mk.injEq] at h
    obtain ⟨⟨h1, h2⟩, h3⟩ := h
    simp only [findI] at hf
    by_cases hn : n = m
    · rw [if_pos hn] at hf
      cases hf
      simp only [delI, if_pos hn, Nat.sub_self, List.eraseIdx_cons_zero]
      exact h3
    · rw [if_neg hn] at hf
      have hge := (findI_ge n l (i + 1) j u hf).1
      have ih := IsKv.del n (i + 1) j u h3 hf
      rw [show j - i = (j - (i + 1)) + 1 from by omega]
      simp only [delI, if_neg hn, List.eraseIdx_cons_succ]
      unfold IsKv at ih ⊢
      simp only [List.map_cons, h1, h2, ih]
theorem delI_none (n : Int) : ∀ (l : List (Int × Value)) (i : Nat), findI n l i = none → delI n l = l
  | [], _, _ => rfl
  | (m, u) :: r, i, h => by
    simp only [findI] at h
    by_cases hn : n = m
    · rw [if_pos hn] at h; cases h
    · rw [if_neg hn] at h; simp [delI, hn, delI_none n r _ h]
theorem run_checkKey_int {kt : TypeId} {kd : IntKind} (h : Pg.underlying kt = some (.int kd)) (e : Bool) (n : Int) (w : World) : (Instr.checkKey e 10000 kt (.int kd n)).run Pg w = .ok () w := by
  have key : ∀ m, (Instr.checkKey e (m + 1) kt (.int kd n)).run Pg w = .ok () w := fun m => by
    simp only [Instr.checkKey, Sem.run_bind, run_underlying h, Result.andThen_ok]; rfl
  exact key 9999
theorem sameBits_int (k : IntKind) (n : Int) : Instr.sameBits 10000 (.int k n) (.int k n) = true := by
  have key : ∀ m, Instr.sameBits m (.int k n) (.int k n) = true := fun m => by cases m <;> simp [Instr.sameBits]
  exact key 10000
theorem getObj_map {w : World} {b : Nat} {es : Array MapEntry} {ck : Nat} (h : w.heap[b]? = some (.map es ck)) : (getObj b).run Pg w = .ok (.map es ck) w := by simp [getObj, Sem.run, h]
theorem setObj_map {w : World} {b : Nat} {es : Array MapEntry} {ck : Nat} (o : Obj) (h : w.heap[b]? = some (.map es ck)) : (setObj b o).run Pg w = .ok () { w with heap := w.heap.setIfInBounds b o } := by simp [setObj, Sem.run, h]
theorem run_findK {w : World} {kt : TypeId} {d : TypeDesc} {k : Value} {l : List MapEntry} {a : Option (Nat × Value)} (hd : Pg.underlying kt = some d) (h : Instr.findNow d k l 0 = some a) : (Instr.findKey kt k l).run Pg w = .ok a w := by
  simp [Instr.findKey, run_underlying hd, h]
section
variable {c w : World} {H R : HProp} {b : Nat} {kd : IntKind} {l : List (Int × Value)}
theorem SL.miE (h : SL c (mapI kd b l • R) w) : ∃ es ck, IsKv kd es l ∧ SL c (mapb b es ck • R) w := by
  obtain ⟨⟨es, ck⟩, h⟩ := h.exE
  rw [sep_assoc'] at h
  exact ⟨es, ck, h.prE.1, h.prE.2⟩
theorem SL.miI {es : List MapEntry} {ck : Nat} (h : SL c (mapb b es ck • R) w) (hk : IsKv kd es l) : SL c (mapI kd b l • R) w :=
  h.imp (Imp.sep (Imp.exi (es, ck) (by rw [pr_true hk, emp_sep]; exact Imp.refl _)) (Imp.refl _))
theorem SL.setMap {es es' : List MapEntry} {ck ck' : Nat} (h : SL c (mapb b es ck • R) w) : SL c (mapb b es' ck' • R) { w with heap := w.heap.setIfInBounds b (.map es'.toArray ck') } := by
  have hg := h.get
  have hlt := (Array.getElem?_eq_some_iff.1 hg).1
  refine h.upd rfl rfl rfl ?_ fun k hk _ => ?_
  · simp [hlt]
  · simp [Array.getElem?_setIfInBounds, Ne.symm hk]
end
section
variable {c : World} {Q : Exit → Act → World → Prop} {n : Nat} {l : List (Nat × Value)} {H R : HProp} {ks : List Kn}
variable {q q1 q2 : Md} {all : Array Oper} {o : Oper} {rest : List Oper} {d : Nat} {v : Value}
theorem run_look {t kt et : TypeId} {kd : IntKind} {z : Value} {s : Nat} {ag : Bool} {b : Nat} {m : List (Int × Value)} {i : Int} {w : World} {ok : Bool} (ht : TD t (.map kt et)) (hk : TD kt (.int kd)) (ti : TI et z s ag)
    (hs : SL c (mapI kd b m • R) w) : (Instr.lookup t (.map (some b)) (.int kd i) ok).run Pg w = .ok (if ok then .tuple #[(lookI i m).getD z, .bool (lookI i m).isSome] else (lookI i m).getD z) w := by
  obtain ⟨es, ck, hkv, h⟩ := hs.miE
  have h1 := getObj_map h.get
  have h2 := run_findK (w := w) hk.eq (hkv.findNow i 0)
  have h3 := findI_look i m 0
  simp only [Instr.lookup, Sem.run_bind, run_underlying ht.eq, Result.andThen_ok, h1, Sem.run_pure, run_checkKey_int hk.eq, h2]
  cases hf : findI i m 0 with
  | none => rw [hf] at h3; simp only [Sem.run_bind, ti.zero, Result.andThen_ok, Sem.run_pure, ← h3]; rfl
  | some p => rw [hf] at h3; simp only [Sem.run_pure, Result.andThen_ok, ← h3]; rfl
/-- v, ok := m[k] -/
theorem W.mget [hNL : NL q1 q2] {t kt et : TypeId} {kd : IntKind} {z : Value} {s : Nat} {ag : Bool} {x y : Operand} {b : Nat} {m : List (Int × Value)} {i : Int} (hg : o.guard = none) (hd : o.dst = some d) (hn : Nat.blt d n = true) (ho : o.op = .lookup t x y true) [ht : TD t (.map kt et)] [hk : TD kt (.int kd)] [ti : TI et z s ag]
    (hx : ev l x = some (.map (some b))) (hy : ev l y = some (.int kd i)) [hm : Mi H b kd m R] (k : WS c Q n (.ops q2 all rest ks) ((d, .tuple #[(lookI i m).getD z, .bool (lookI i m).isSome]) :: l) H) : WS c Q n (.ops q1 all (o :: rest) ks) l H := by
  refine W.val hg hd hn (fun a w hf hs => ?_) k
  rw [hm.eq] at hs
  simp [execOp, ho, hf.eval hx, hf.eval hy, run_look ht hk ti hs]
/-- m[k] -/
theorem W.mgt [hNL : NL q1 q2] {t kt et : TypeId} {kd : IntKind} {z : Value} {s : Nat} {ag : Bool} {x y : Operand} {b : Nat} {m : List (Int × Value)} {i : Int} (hg : o.guard = none) (hd : o.dst = some d) (hn : Nat.blt d n = true) (ho : o.op = .lookup t x y false) [ht : TD t (.map kt et)] [hk : TD kt (.int kd)] [ti : TI et z s ag]
    (hx : ev l x = some (.map (some b))) (hy : ev l y = some (.int kd i)) [hm : Mi H b kd m R] (k : WS c Q n (.ops q2 all rest ks) ((d, (lookI i m).getD z) :: l) H) : WS c Q n (.ops q1 all (o :: rest) ks) l H := by
  refine W.val hg hd hn (fun a w hf hs => ?_) k
  rw [hm.eq] at hs
  simp [execOp, ho, hf.eval hx, hf.eval hy, run_look ht hk ti hs]
/-- len(m) -/
theorem W.mlen [hNL : NL q1 q2] {t kt et : TypeId} {kd : IntKind} {x : Operand} {b : Nat} {m : List (Int × Value)} (hg : o.guard = none) (hd : o.dst = some d) (hn : Nat.blt d n = true) (ho : o.op = .call { callee := .builtin .len, args := #[x], argTypes := #[t] }) [ht : TD t (.map kt et)]
    (hx : ev l x = some (.map (some b))) [hm : Mi H b kd m R] (k : WS c Q n (.ops q2 all rest ks) ((d, .int .i64 m.length) :: l) H) : WS c Q n (.ops q1 all (o :: rest) ks) l H := by
  refine W.val hg hd hn (fun a w hf hs => ?_) k
  rw [hm.eq] at hs
  obtain ⟨es, ck, hkv, h⟩ := hs.miE
  have h1 := getObj_map h.get
  have h2 : es.length = m.length := by have := congrArg List.length hkv; simpa using this
  simp [execOp, ho, resolve, hf.eval hx, invoke, builtin, Builtin.len_, run_underlying ht.eq, goInt, h1, h2]
/-- m[k] = v -/
theorem W.mput [NX q1 q2] {t kt et : TypeId} {kd : IntKind} {x y z : Operand} {b : Nat} {m : List (Int × Value)} {i : Int} (hg : o.guard = none) (hd : o.dst = none) (ho : o.op = .mapUpdate t x y z) [ht : TD t (.map kt et)] [hk : TD kt (.int kd)]
    (hx : ev l x = some (.map (some b))) (hy : ev l y = some (.int kd i)) (hz : ev l z = some v) [hm : Mi H b kd m R] (k : WS c Q n (.ops q2 all rest ks) l (mapI kd b (putI i v m) • R)) : WS c Q n (.ops q1 all (o :: rest) ks) l H := by
  refine W.unit hg hd (fun a w hf hs => ?_) k
  rw [hm.eq] at hs
  obtain ⟨es, ck, hkv, h⟩ := hs.miE
  have h1 := getObj_map h.get
  have h2 := run_findK (w := w) hk.eq (hkv.findNow i 0)
  cases hfi : findI i m 0 with
  | none =>
    rw [hfi] at h2
    refine ⟨_, ?_, (h.setMap (es' := es ++ [({ key := .int kd i, val := v, born := ck } : MapEntry)]) (ck' := ck + 1)).miI ?_⟩
    · have h3 := setObj_map (.map (es ++ [({ key := .int kd i, val := v, born := ck } : MapEntry)]).toArray (ck + 1)) h.get
      have e : es.toArray.push ({ key := .int kd i, val := v, born := ck } : MapEntry) = (es ++ [({ key := .int kd i, val := v, born := ck } : MapEntry)]).toArray := by simp
      have : (Instr.mapUpdate t (.map (some b)) (.int kd i) v).run Pg w = .ok () { w with heap := w.heap.setIfInBounds b (.map (es ++ [({ key := .int kd i, val := v, born := ck } : MapEntry)]).toArray (ck + 1)) } := by
        simp only [Instr.mapUpdate, Sem.run_bind, run_underlying ht.eq, Result.andThen_ok, h1, run_checkKey_int hk.eq, h2, e, h3]
      simp [execOp, ho, hf.eval hx, hf.eval hy, hf.eval hz, this]
    · rw [putI_none i v m 0 hfi]
      unfold IsKv at hkv ⊢
      rw [List.map_append, List.map_append, hkv]; rfl
  | some p =>
    obtain ⟨j, u⟩ := p
    rw [hfi] at h2
    have hj := (findI_ge i m 0 j u hfi).2
    have hle : es.length = m.length := by have := congrArg List.length hkv; simpa using this
    have hput := hkv.put i v 0 j u hfi
    refine ⟨_, ?_, (h.setMap (es' := es.modify j fun e => { e with key := .int kd i, val := v }) (ck' := ck)).miI hput⟩
    have h3 := setObj_map (.map (es.modify j fun e => { e with key := .int kd i, val := v }).toArray ck) h.get
    have e : es.toArray.modify j (fun e => { e with key := .int kd i, val := v }) = (es.modify j fun e => { e with key := .int kd i, val := v }).toArray := by simp
    have hkey : (es.toArray[j]?).map (·.key) = some (.int kd i) := by
      have hj' : j < es.length := by omega
      have e2 := congrArg (fun l => l[j]?) hkv
      simp only [List.getElem?_map] at e2
      have e3 : m[j]? = some (i, u) := by
        have : ∀ (l : List (Int × Value)) (k : Nat), findI i l k = some (j, u) → k ≤ j → l[j - k]? = some (i, u) := by
          intro l
          induction l with
          | nil => intro k hk; cases hk
          | cons p l ih =>
            intro k hk hkj
            obtain ⟨mm, vv⟩ := p
            simp only [findI] at hk
            by_cases hii : i = mm
            · rw [if_pos hii] at hk; cases hk; simp [hii]
            · rw [if_neg hii] at hk
              have hge := (findI_ge i l (k + 1) j u hk).1
              rw [show j - k = (j - (k + 1)) + 1 from by omega]
              simpa using ih (k + 1) hk hge
        simpa using this m 0 hfi (Nat.zero_le _)
      rw [e3] at e2
      cases he : es[j]? with
      | none => rw [he] at e2; cases e2
      | some ent => rw [he] at e2; simp at e2; simp [he, e2.1]
    have hsb := sameBits_int kd i
    have : (Instr.mapUpdate t (.map (some b)) (.int kd i) v).run Pg w = .ok () { w with heap := w.heap.setIfInBounds b (.map (es.modify j fun e => { e with key := .int kd i, val := v }).toArray ck) } := by
      simp only [Instr.mapUpdate, Sem.run_bind, run_underlying ht.eq, Result.andThen_ok, h1, run_checkKey_int hk.eq, h2, hkey, Option.getD_some, Instr.keyThatStays, hsb, if_true, Sem.run_pure, e, h3]
    simp [execOp, ho, hf.eval hx, hf.eval hy, hf.eval hz, this]
/-- delete(m, k) -/
theorem W.mdel [NX q1 q2] {t t' kt et : TypeId} {kd : IntKind} {x y : Operand} {b : Nat} {m : List (Int × Value)} {i : Int} (hg : o.guard = none) (hd : o.dst = some d) (hn : Nat.blt d n = true) (ho : o.op = .call { callee := .builtin .delete, args := #[x, y], argTypes := #[t, t'] }) [ht : TD t (.map kt et)] [hk : TD kt (.int kd)]
    (hx : ev l x = some (.map (some b))) (hy : ev l y = some (.int kd i)) [hm : Mi H b kd m R] (k : WS c Q n (.ops q2 all rest ks) ((d, .tuple #[]) :: l) (mapI kd b (delI i m) • R)) : WS c Q n (.ops q1 all (o :: rest) ks) l H := by
  refine W.valw (σ := Unit) (val := fun _ => .tuple #[]) (K := fun _ => mapI kd b (delI i m) • R) hg hd hn (fun a w hf hs => ?_) (fun _ => k)
  rw [hm.eq] at hs
  obtain ⟨es, ck, hkv, h⟩ := hs.miE
  have h1 := getObj_map h.get
  have h2 := run_findK (w := w) hk.eq (hkv.findNow i 0)
  have hle : es.length = m.length := by have := congrArg List.length hkv; simpa using this
  cases hfi : findI i m 0 with
  | none =>
    rw [hfi] at h2
    refine ⟨(), _, ?_, (h.setMap (es' := es) (ck' := ck)).miI (by rw [delI_none i m 0 hfi]; exact hkv)⟩
    have h3 := setObj_map (.map es.toArray ck) h.get
    have : (Builtin.delete_ #[t, t'] o.type #[.map (some b), .int kd i]).run Pg w = .ok (.tuple #[]) { w with heap := w.heap.setIfInBounds b (.map es.toArray ck) } := by
      simp only [Builtin.delete_, List.getElem?_toArray, List.getElem?_cons_zero, List.getElem?_cons_succ, Sem.run_bind, run_underlying ht.eq, Result.andThen_ok, h1, run_checkKey_int hk.eq, h2, h3, Sem.run_pure]
    simp [execOp, ho, resolve, hf.eval hx, hf.eval hy, invoke, builtin, this]
  | some p =>
    obtain ⟨j, u⟩ := p
    rw [hfi] at h2
    have hj := (findI_ge i m 0 j u hfi).2
    refine ⟨(), _, ?_, (h.setMap (es' := es.eraseIdx j) (ck' := ck)).miI (hkv.del i 0 j u hfi)⟩
    have h3 := setObj_map (.map (es.eraseIdx j).toArray ck) h.get
    have e : es.toArray.eraseIdxIfInBounds j = (es.eraseIdx j).toArray := by
      simp [Array.eraseIdxIfInBounds, show j < es.length from by omega]
    have : (Builtin.delete_ #[t, t'] o.type #[.map (some b), .int kd i]).run Pg w = .ok (.tuple #[]) { w with heap := w.heap.setIfInBounds b (.map (es.eraseIdx j).toArray ck) } := by
      simp only [Builtin.delete_, List.getElem?_toArray, List.getElem?_cons_zero, List.getElem?_cons_succ, Sem.run_bind, run_underlying ht.eq, Result.andThen_ok, h1, run_checkKey_int hk.eq, h2, e, h3, Sem.run_pure]
    simp [execOp, ho, resolve, hf.eval hx, hf.eval hy, invoke, builtin, this]
/-- delete, what it yields wanted by nobody -/
theorem W.mdn [NX q1 q2] {t t' kt et : TypeId} {kd : IntKind} {x y : Operand} {b : Nat} {m : List (Int × Value)} {i : Int} (hg : o.guard = none) (hd : o.dst = none) (ho : o.op = .call { callee := .builtin .delete, args := #[x, y], argTypes := #[t, t'] }) [ht : TD t (.map kt et)] [hk : TD kt (.int kd)]
    (hx : ev l x = some (.map (some b))) (hy : ev l y = some (.int kd i)) [hm : Mi H b kd m R] (k : WS c Q n (.ops q2 all rest ks) l (mapI kd b (delI i m) • R)) : WS c Q n (.ops q1 all (o :: rest) ks) l H := by
  refine W.valn (v := .tuple #[]) hg hd (fun a w hf hs => ?_) k
  rw [hm.eq] at hs
  obtain ⟨es, ck, hkv, h⟩ := hs.miE
  have h1 := getObj_map h.get
  have h2 := run_findK (w := w) hk.eq (hkv.findNow i 0)
  have hle : es.length = m.length := by have := congrArg List.length hkv; simpa using this
  cases hfi : findI i m 0 with
  | none =>
    rw [hfi] at h2
    refine ⟨_, ?_, (h.setMap (es' := es) (ck' := ck)).miI (by rw [delI_none i m 0 hfi]; exact hkv)⟩
    have h3 := setObj_map (.map es.toArray ck) h.get
    have : (Builtin.delete_ #[t, t'] o.type #[.map (some b), .int kd i]).run Pg w = .ok (.tuple #[]) { w with heap := w.heap.setIfInBounds b (.map es.toArray ck) } := by
      simp only [Builtin.delete_, List.getElem?_toArray, List.getElem?_cons_zero, List.getElem?_cons_succ, Sem.run_bind, run_underlying ht.eq, Result.andThen_ok, h1, run_checkKey_int hk.eq, h2, h3, Sem.run_pure]
    simp [execOp, ho, resolve, hf.eval hx, hf.eval hy, invoke, builtin, this]
  | some p =>
    obtain ⟨j, u⟩ := p
    rw [hfi] at h2
    have hj := (findI_ge i m 0 j u hfi).2
    refine ⟨_, ?_, (h.setMap (es' := es.eraseIdx j) (ck' := ck)).miI (hkv.del i 0 j u hfi)⟩
    have h3 := setObj_map (.map (es.eraseIdx j).toArray ck) h.get
    have e : es.toArray.eraseIdxIfInBounds j = (es.eraseIdx j).toArray := by
      simp [Array.eraseIdxIfInBounds, show j < es.length from by omega]
    have : (Builtin.delete_ #[t, t'] o.type #[.map (some b), .int kd i]).run Pg w = .ok (.tuple #[]) { w with heap := w.heap.setIfInBounds b (.map (es.eraseIdx j).toArray ck) } := by
      simp only [Builtin.delete_, List.getElem?_toArray, List.getElem?_cons_zero, List.getElem?_cons_succ, Sem.run_bind, run_underlying ht.eq, Result.andThen_ok, h1, run_checkKey_int hk.eq, h2, e, h3, Sem.run_pure]
    simp [execOp, ho, resolve, hf.eval hx, hf.eval hy, invoke, builtin, this]
/-- map[K]V{} -/
theorem W.mmk [NX q1 q2] {t : TypeId} (kd : IntKind) (hg : o.guard = none) (hd : o.dst = some d) (hn : Nat.blt d n = true) (ho : o.op = .makeMap t none)
    (k : ∀ b, WS c Q n (.ops q2 all rest ks) ((d, .map (some b)) :: l) (mapI kd b [] • H)) : WS c Q n (.ops q1 all (o :: rest) ks) l H := by
  refine W.valw (val := fun b => .map (some b)) (K := fun b => mapI kd b [] • H) hg hd hn (fun a w hf hs => ?_) k
  have h2 : SL c (mapb w.heap.size [] 0 • H) (w.alloc (.map #[] 0)) := hs.alloc _
  refine ⟨w.heap.size, w.alloc (.map #[] 0), ?_, h2.miI rfl⟩
  simp [execOp, ho, Instr.makeMap]
end
end Go.Proofs.YtbdhhedfplkidaaGreat
