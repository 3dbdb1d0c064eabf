/- Parts of a proof, one behind the other: E5, E6, E7, Tys, E8, Lem, C1, C2, C3, C4, C5. -/
import Derived.Test.YtbdhhedfplkidaaGreatM1
/- The walk's rules for maps keyed by whole numbers. -/
namespace Go.Proofs.YtbdhhedfplkidaaGreat
open Go
/-- The entries of a map keyed by numbers of the kind kd. -/
def IsKv (kd : IntKind) (es : List MapEntry) (l : List (Int × Value)) : Prop := es.map (fun e => (e.key, e.val)) = l.map fun p => (Value.int kd p.1, p.2)
/-- The entries' stamps and keys: each once. -/
def Stl (es : List MapEntry) (ck : Nat) : Prop := (∀ x ∈ es, x.born < ck) ∧ (es.map (·.born)).Nodup ∧ (es.map (·.key)).Nodup
def mapI (kd : IntKind) (b : Nat) (l : List (Int × Value)) : HProp := ex fun x : List MapEntry × Nat => pr (IsKv kd x.1 l ∧ Stl x.1 x.2) • mapb b x.1 x.2
class Mi (H : HProp) (b : Nat) (kd : outParam IntKind) (l : outParam (List (Int × Value))) (R : outParam HProp) : Prop where
  eq : H = (mapI kd b l • R)
instance (priority := 1000) miHead (b : Nat) (kd : IntKind) (l : List (Int × Value)) (R : HProp) : Mi (mapI kd b l • R) b kd l R := ⟨rfl⟩
instance (priority := 500) miTail (b : Nat) (kd : IntKind) (l : List (Int × Value)) (B H R : HProp) [h : Mi H b kd l R] : Mi (B • H) b kd l (B • R) := ⟨by rw [h.eq, sep_left_comm']⟩
instance (priority := 900) miLast (b : Nat) (kd : IntKind) (l : List (Int × Value)) : Mi (mapI kd b l) b kd l emp := ⟨by rw [sep_comm', emp_sep]⟩
/-- Where a key stands, and its value. -/
def findI (n : Int) : List (Int × Value) → Nat → Option (Nat × Value)
  | [], _ => none
  | (m, v) :: r, i => if n = m then some (i, v) else findI n r (i + 1)
def lookI (n : Int) : List (Int × Value) → Option Value
  | [] => none
  | (m, v) :: r => if n = m then some v else lookI n r
def putI (n : Int) (v : Value) : List (Int × Value) → List (Int × Value)
  | [] => [(n, v)]
  | (m, u) :: r => if n = m then (n, v) :: r else (m, u) :: putI n v r
def delI (n : Int) : List (Int × Value) → List (Int × Value)
  | [] => []
  | (m, u) :: r => if n = m then r else (m, u) :: delI n r
theorem findI_look (n : Int) : ∀ (l : List (Int × Value)) (i : Nat), (findI n l i).map (·.2) = lookI n l
  | [], _ => rfl
  | (m, v) :: r, i => by simp only [findI, lookI]; split <;> simp [findI_look n r]
theorem findI_ge (n : Int) : ∀ (l : List (Int × Value)) (i j : Nat) (v : Value), findI n l i = some (j, v) → i ≤ j ∧ j < i + l.length
  | [], _, _, _, h => by cases h
  | (m, u) :: r, i, j, v, h => by
    simp only [findI] at h
    split at h
    · cases h; simp
    · have := findI_ge n r (i + 1) j v h; simp; omega
theorem IsKv.findNow {kd : IntKind} (n : Int) : ∀ {es : List MapEntry} {l : List (Int × Value)} (i : Nat), IsKv kd es l → Instr.findNow (.int kd) (.int kd n) es i = some (findI n l i)
  | [], [], _, _ => rfl
  | [], _ :: _, _, h => by cases h
  | _ :: _, [], _, h => by cases h
  | e :: es, (m, v) :: l, i, h => by
    unfold IsKv at h
    simp only [List.map_cons, List.cons.injEq, Prod.mk.injEq] at h
    obtain ⟨⟨h1, h2⟩, h3⟩ := h
    simp only [Instr.findNow, h1, Instr.sameNow, if_true, findI]
    by_cases hn : n = m
    · simp [hn, h2]
    · simp only [hn, if_false]
      have : (n == m) = false := by simp [hn]
      rw [this]
      exact IsKv.findNow n (i + 1) h3
theorem IsKv.put {kd : IntKind} (n : Int) (v : Value) : ∀ {es : List MapEntry} {l : List (Int × Value)} (i j : Nat) (u : Value), IsKv kd es l → findI n l i = some (j, u) →
    IsKv kd (es.modify (j - i) fun e => { e with key := .int kd n, val := v }) (putI n v l)
  | [], [], _, _, _, _, h => by cases h
  | [], _ :: _, _, _, _, h, _ => by cases h
  | _ :: _, [], _, _, _, h, _ => by cases h
  | e :: es, (m, w) :: l, i, j, u, h, hf => by
    have h' := h
    unfold IsKv at h
    simp only [List.map_cons, List.cons.injEq, Prod.mk.injEq] at h
    obtain ⟨⟨h1, h2⟩, h3⟩ := h
    simp only [findI] at hf
    by_cases hn : n = m
    · rw [if_pos hn] at hf
      cases hf
      simp only [putI, if_pos hn, Nat.sub_self, List.modify_zero_cons]
      unfold IsKv
      simp only [List.map_cons]
      rw [h3]
    · rw [if_neg hn] at hf
      have hge := (findI_ge n l (i + 1) j u hf).1
      have ih := IsKv.put n v (i + 1) j u h3 hf
      rw [show j - i = (j - (i + 1)) + 1 from by omega]
      simp only [putI, if_neg hn, List.modify_succ_cons]
      unfold IsKv at ih ⊢
      simp only [List.map_cons, h1, h2, ih]
theorem putI_none (n : Int) (v : Value) : ∀ (l : List (Int × Value)) (i : Nat), findI n l i = none → putI n v l = l ++ [(n, v)]
  | [], _, _ => rfl
  | (m, u) :: r, i, h => by
    simp only [findI] at h
    by_cases hn : n = m
    · rw [if_pos hn] at h; cases h
    · rw [if_neg hn] at h; simp [putI, hn, putI_none n v r _ h]
theorem IsKv.del {kd : IntKind} (n : Int) : ∀ {es : List MapEntry} {l : List (Int × Value)} (i j : Nat) (u : Value), IsKv kd es l → findI n l i = some (j, u) →
    IsKv kd (es.eraseIdx (j - i)) (delI n l)
  | [], [], _, _, _, _, h => by cases h
  | [], _ :: _, _, _, _, h, _ => by cases h
  | _ :: _, [], _, _, _, h, _ => by cases h
  | e :: es, (m, w) :: l, i, j, u, h, hf => by
    unfold IsKv at h
    simp only [List.map_cons, List.cons.injEq, Prod.mk.injEq] at h
    obtain ⟨⟨h1, h2⟩, h3⟩ := h
    simp only [findI] at hf
    by_cases hn : n = m
    · rw [if_pos hn] at hf
      cases hf
      simp only [delI, if_pos hn, Nat.sub_self, List.eraseIdx_cons_zero]
      exact h3
    · rw [if_neg hn] at hf
      have hge := (findI_ge n l (i + 1) j u hf).1
      have ih := IsKv.del n (i + 1) j u h3 hf
      rw [show j - i = (j - (i + 1)) + 1 from by omega]
      simp only [delI, if_neg hn, List.eraseIdx_cons_succ]
      unfold IsKv at ih ⊢
      simp only [List.map_cons, h1, h2, ih]
theorem delI_none (n : Int) : ∀ (l : List (Int × Value)) (i : Nat), findI n l i = none → delI n l = l
  | [], _, _ => rfl
  | (m, u) :: r, i, h => by
    simp only [findI] at h
    by_cases hn : n = m
    · rw [if_pos hn] at h; cases h
    · rw [if_neg hn] at h; simp [delI, hn, delI_none n r _ h]
theorem run_checkKey_int {kt : TypeId} {kd : IntKind} (h : Pg.underlying kt = some (.int kd)) (e : Bool) (n : Int) (w : World) : (Instr.checkKey e 10000 kt (.int kd n)).run Pg w = .ok () w := by
  have key : ∀ m, (Instr.checkKey e (m + 1) kt (.int kd n)).run Pg w = .ok () w := fun m => by
    simp only [Instr.checkKey, Sem.run_bind, run_underlying h, Result.andThen_ok]; rfl
  exact key 9999
theorem sameBits_int (k : IntKind) (n : Int) : Instr.sameBits 10000 (.int k n) (.int k n) = true := by
  have key : ∀ m, Instr.sameBits m (.int k n) (.int k n) = true := fun m => by cases m <;> simp [Instr.sameBits]
  exact key 10000
theorem getObj_map {w : World} {b : Nat} {es : Array MapEntry} {ck : Nat} (h : w.heap[b]? = some (.map es ck)) : (getObj b).run Pg w = .ok (.map es ck) w := by simp [getObj, Sem.run, h]
theorem setObj_map {w : World} {b : Nat} {es : Array MapEntry} {ck : Nat} (o : Obj) (h : w.heap[b]? = some (.map es ck)) : (setObj b o).run Pg w = .ok () { w with heap := w.heap.setIfInBounds b o } := by simp [setObj, Sem.run, h]
theorem run_findK {w : World} {kt : TypeId} {d : TypeDesc} {k : Value} {l : List MapEntry} {a : Option (Nat × Value)} (hd : Pg.underlying kt = some d) (h : Instr.findNow d k l 0 = some a) : (Instr.findKey kt k l).run Pg w = .ok a w := by
  simp [Instr.findKey, run_underlying hd, h]
section
variable {c w : World} {H R : HProp} {b : Nat} {kd : IntKind} {l : List (Int × Value)}
theorem SL.miE (h : SL c (mapI kd b l • R) w) : ∃ es ck, IsKv kd es l ∧ Stl es ck ∧ SL c (mapb b es ck • R) w := by
  obtain ⟨⟨es, ck⟩, h⟩ := h.exE
  rw [sep_assoc'] at h
  exact ⟨es, ck, h.prE.1.1, h.prE.1.2, h.prE.2⟩
theorem SL.miI {es : List MapEntry} {ck : Nat} (h : SL c (mapb b es ck • R) w) (hk : IsKv kd es l) (hst : Stl es ck) : SL c (mapI kd b l • R) w :=
  h.imp (Imp.sep (Imp.exi (es, ck) (by rw [pr_true ⟨hk, hst⟩, emp_sep]; exact Imp.refl _)) (Imp.refl _))
theorem IsKv.keys {es : List MapEntry} (h : IsKv kd es l) : es.map (·.key) = l.map fun p => Value.int kd p.1 := by
  have := congrArg (List.map Prod.fst) h
  rw [List.map_map, List.map_map] at this
  exact this
theorem findI_none_mem {n : Int} : ∀ {l : List (Int × Value)} {i : Nat}, findI n l i = none → ∀ p ∈ l, p.1 ≠ n
  | [], _, _ => by simp
  | (m, v) :: r, i, h => by
    simp only [findI] at h
    by_cases hn : n = m
    · rw [if_pos hn] at h; cases h
    · rw [if_neg hn] at h
      intro p hp
      rcases List.mem_cons.1 hp with rfl | hp
      · exact fun e => hn e.symm
      · exact findI_none_mem h p hp
theorem Stl.add {es : List MapEntry} {ck : Nat} {n : Int} {v : Value} (h : Stl es ck) (hk : IsKv kd es l) (hf : findI n l 0 = none) : Stl (es ++ [({ key := .int kd n, val := v, born := ck } : MapEntry)]) (ck + 1) := by
  refine ⟨fun x hx => ?_, ?_, ?_⟩
  · rcases List.mem_append.1 hx with hx | hx
    · have := h.1 x hx; omega
    · simp at hx; subst hx; simp
  · rw [List.map_append]
    refine List.nodup_append.2 ⟨h.2.1, by simp, fun a ha b hb => ?_⟩
    simp at hb; subst hb
    obtain ⟨x, hx, rfl⟩ := List.mem_map.1 ha
    have := h.1 x hx; omega
  · rw [List.map_append]
    refine List.nodup_append.2 ⟨h.2.2, by simp, fun a ha b hb => ?_⟩
    simp at hb; subst hb
    rw [hk.keys] at ha
    obtain ⟨x, hx, rfl⟩ := List.mem_map.1 ha
    intro e
    have := findI_none_mem hf x hx
    simp at e; exact this e
theorem map_modify_same {α β : Type} (f : α → β) (g : α → α) : ∀ (l : List α) (j : Nat), (∀ x, l[j]? = some x → f (g x) = f x) → (l.modify j g).map f = l.map f
  | [], _, _ => by simp
  | a :: l, 0, h => by simp [h a rfl]
  | a :: l, j + 1, h => by simp [map_modify_same f g l j (by simpa using h)]
theorem Stl.mod {es : List MapEntry} {ck j : Nat} {k v : Value} (h : Stl es ck) (hk : ∀ x, es[j]? = some x → k = x.key) : Stl (es.modify j fun e => { e with key := k, val := v }) ck := by
  refine ⟨fun x hx => ?_, ?_, ?_⟩
  · obtain ⟨i, hi⟩ := List.mem_iff_getElem?.1 hx
    rw [List.getElem?_modify] at hi
    cases he : es[i]? with
    | none => rw [he] at hi; cases hi
    | some y =>
      rw [he] at hi
      have hy := h.1 y (List.mem_of_getElem? he)
      obtain rfl := Option.some.inj hi
      split <;> exact hy
  · rw [map_modify_same (fun x : MapEntry => x.born) (fun e : MapEntry => { e with key := k, val := v }) es j (fun x _ => rfl)]; exact h.2.1
  · rw [map_modify_same (α := MapEntry) (fun x => x.key) _ _ _ (fun x hx => hk x hx)]; exact h.2.2
theorem Stl.del {es : List MapEntry} {ck j : Nat} (h : Stl es ck) : Stl (es.eraseIdx j) ck :=
  ⟨fun x hx => h.1 x (List.mem_of_mem_eraseIdx hx), h.2.1.sublist ((List.eraseIdx_sublist _ _).map _), h.2.2.sublist ((List.eraseIdx_sublist _ _).map _)⟩
theorem SL.setMap {es es' : List MapEntry} {ck ck' : Nat} (h : SL c (mapb b es ck • R) w) : SL c (mapb b es' ck' • R) { w with heap := w.heap.setIfInBounds b (.map es'.toArray ck') } := by
  have hg := h.get
  have hlt := (Array.getElem?_eq_some_iff.1 hg).1
  refine h.upd rfl rfl rfl ?_ fun k hk _ => ?_
  · simp [hlt]
  · simp [Ne.symm hk]
end
section
variable {c : World} {Q : Exit → Act → World → Prop} {n : Nat} {l : List (Nat × Value)} {H R : HProp} {ks : List Kn}
variable {q q1 q2 : Md} {all : Array Oper} {o : Oper} {rest : List Oper} {d : Nat} {v : Value}
theorem run_look {t kt et : TypeId} {kd : IntKind} {z : Value} {s : Nat} {ag : Bool} {b : Nat} {m : List (Int × Value)} {i : Int} {w : World} {ok : Bool} (ht : TD t (.map kt et)) (hk : TD kt (.int kd)) (ti : TI et z s ag)
    (hs : SL c (mapI kd b m • R) w) : (Instr.lookup t (.map (some b)) (.int kd i) ok).run Pg w = .ok (if ok then .tuple #[(lookI i m).getD z, .bool (lookI i m).isSome] else (lookI i m).getD z) w := by
  obtain ⟨es, ck, hkv, hst, h⟩ := hs.miE
  have h1 := getObj_map h.get
  have h2 := run_findK (w := w) hk.eq (hkv.findNow i 0)
  have h3 := findI_look i m 0
  simp only [Instr.lookup, Sem.run_bind, run_underlying ht.eq, Result.andThen_ok, h1, Sem.run_pure, run_checkKey_int hk.eq, h2]
  cases hf : findI i m 0 with
  | none => rw [hf] at h3; simp only [Sem.run_bind, ti.zero, Result.andThen_ok, Sem.run_pure, ← h3]; rfl
  | some p => rw [hf] at h3; simp only [← h3]; rfl
/-- v, ok := m[k] -/
theorem W.mget [hNL : NL q1 q2] {t kt et : TypeId} {kd : IntKind} {z : Value} {s : Nat} {ag : Bool} {x y : Operand} {b : Nat} {m : List (Int × Value)} {i : Int} (hg : o.guard = none) (hd : o.dst = some d) (hn : Nat.blt d n = true) (ho : o.op = .lookup t x y true) [ht : TD t (.map kt et)] [hk : TD kt (.int kd)] [ti : TI et z s ag]
    (hx : ev l x = some (.map (some b))) (hy : ev l y = some (.int kd i)) [hm : Mi H b kd m R] (k : WS c Q n (.ops q2 all rest ks) ((d, .tuple #[(lookI i m).getD z, .bool (lookI i m).isSome]) :: l) H) : WS c Q n (.ops q1 all (o :: rest) ks) l H := by
  refine W.val hg hd hn (fun a w hf hs => ?_) k
  rw [hm.eq] at hs
  simp [execOp, ho, hf.eval hx, hf.eval hy, run_look ht hk ti hs]
/-- m[k] -/
theorem W.mgt [hNL : NL q1 q2] {t kt et : TypeId} {kd : IntKind} {z : Value} {s : Nat} {ag : Bool} {x y : Operand} {b : Nat} {m : List (Int × Value)} {i : Int} (hg : o.guard = none) (hd : o.dst = some d) (hn : Nat.blt d n = true) (ho : o.op = .lookup t x y false) [ht : TD t (.map kt et)] [hk : TD kt (.int kd)] [ti : TI et z s ag]
    (hx : ev l x = some (.map (some b))) (hy : ev l y = some (.int kd i)) [hm : Mi H b kd m R] (k : WS c Q n (.ops q2 all rest ks) ((d, (lookI i m).getD z) :: l) H) : WS c Q n (.ops q1 all (o :: rest) ks) l H := by
  refine W.val hg hd hn (fun a w hf hs => ?_) k
  rw [hm.eq] at hs
  simp [execOp, ho, hf.eval hx, hf.eval hy, run_look ht hk ti hs]
/-- len(m) -/
theorem W.mlen [hNL : NL q1 q2] {t kt et : TypeId} {kd : IntKind} {x : Operand} {b : Nat} {m : List (Int × Value)} (hg : o.guard = none) (hd : o.dst = some d) (hn : Nat.blt d n = true) (ho : o.op = .call { callee := .builtin .len, args := #[x], argTypes := #[t] }) [ht : TD t (.map kt et)]
    (hx : ev l x = some (.map (some b))) [hm : Mi H b kd m R] (k : WS c Q n (.ops q2 all rest ks) ((d, .int .i64 m.length) :: l) H) : WS c Q n (.ops q1 all (o :: rest) ks) l H := by
  refine W.val hg hd hn (fun a w hf hs => ?_) k
  rw [hm.eq] at hs
  obtain ⟨es, ck, hkv, hst, h⟩ := hs.miE
  have h1 := getObj_map h.get
  have h2 : es.length = m.length := by have := congrArg List.length hkv; simpa using this
  simp [execOp, ho, resolve, hf.eval hx, invoke, builtin, Builtin.len_, run_underlying ht.eq, goInt, h1, h2]
/-- m[k] = v -/
theorem W.mput [NX q1 q2] {t kt et : TypeId} {kd : IntKind} {x y z : Operand} {b : Nat} {m : List (Int × Value)} {i : Int} (hg : o.guard = none) (hd : o.dst = none) (ho : o.op = .mapUpdate t x y z) [ht : TD t (.map kt et)] [hk : TD kt (.int kd)]
    (hx : ev l x = some (.map (some b))) (hy : ev l y = some (.int kd i)) (hz : ev l z = some v) [hm : Mi H b kd m R] (k : WS c Q n (.ops q2 all rest ks) l (mapI kd b (putI i v m) • R)) : WS c Q n (.ops q1 all (o :: rest) ks) l H := by
  refine W.unit hg hd (fun a w hf hs => ?_) k
  rw [hm.eq] at hs
  obtain ⟨es, ck, hkv, hst, h⟩ := hs.miE
  have h1 := getObj_map h.get
  have h2 := run_findK (w := w) hk.eq (hkv.findNow i 0)
  cases hfi : findI i m 0 with
  | none =>
    rw [hfi] at h2
    refine ⟨_, ?_, (h.setMap (es' := es ++ [({ key := .int kd i, val := v, born := ck } : MapEntry)]) (ck' := ck + 1)).miI ?_ (hst.add hkv hfi)⟩
    · have h3 := setObj_map (.map (es ++ [({ key := .int kd i, val := v, born := ck } : MapEntry)]).toArray (ck + 1)) h.get
      have e : es.toArray.push ({ key := .int kd i, val := v, born := ck } : MapEntry) = (es ++ [({ key := .int kd i, val := v, born := ck } : MapEntry)]).toArray := by simp
      have : (Instr.mapUpdate t (.map (some b)) (.int kd i) v).run Pg w = .ok () { w with heap := w.heap.setIfInBounds b (.map (es ++ [({ key := .int kd i, val := v, born := ck } : MapEntry)]).toArray (ck + 1)) } := by
        simp only [Instr.mapUpdate, Sem.run_bind, run_underlying ht.eq, Result.andThen_ok, h1, run_checkKey_int hk.eq, h2, e, h3]
      simp [execOp, ho, hf.eval hx, hf.eval hy, hf.eval hz, this]
    · rw [putI_none i v m 0 hfi]
      unfold IsKv at hkv ⊢
      rw [List.map_append, List.map_append, hkv]; rfl
  | some p =>
    obtain ⟨j, u⟩ := p
    rw [hfi] at h2
    have hj := (findI_ge i m 0 j u hfi).2
    have hle : es.length = m.length := by have := congrArg List.length hkv; simpa using this
    have hput := hkv.put i v 0 j u hfi
    have hkey0 : (es[j]?).map (·.key) = some (.int kd i) := by
      have hj' : j < es.length := by omega
      have e2 := congrArg (fun l => l[j]?) hkv
      simp only [List.getElem?_map] at e2
      have e3 : m[j]? = some (i, u) := by
        have : ∀ (l : List (Int × Value)) (k : Nat), findI i l k = some (j, u) → k ≤ j → l[j - k]? = some (i, u) := by
          intro l
          induction l with
          | nil => intro k hk; cases hk
          | cons p l ih =>
            intro k hk hkj
            obtain ⟨mm, vv⟩ := p
            simp only [findI] at hk
            by_cases hii : i = mm
            · rw [if_pos hii] at hk; cases hk; simp [hii]
            · rw [if_neg hii] at hk
              have hge := (findI_ge i l (k + 1) j u hk).1
              rw [show j - k = (j - (k + 1)) + 1 from by omega]
              simpa using ih (k + 1) hk hge
        simpa using this m 0 hfi (Nat.zero_le _)
      rw [e3] at e2
      cases he : es[j]? with
      | none => rw [he] at e2; cases e2
      | some ent => rw [he] at e2; simp at e2; simp [e2.1]
    refine ⟨_, ?_, (h.setMap (es' := es.modify j fun e => { e with key := .int kd i, val := v }) (ck' := ck)).miI hput (hst.mod fun x hx => ?_)⟩
    rotate_left
    · have := hkey0
      rw [hx] at this
      simpa using this.symm
    have h3 := setObj_map (.map (es.modify j fun e => { e with key := .int kd i, val := v }).toArray ck) h.get
    have e : es.toArray.modify j (fun e => { e with key := .int kd i, val := v }) = (es.modify j fun e => { e with key := .int kd i, val := v }).toArray := by simp
    have hkey : (es.toArray[j]?).map (·.key) = some (.int kd i) := by
      simpa using hkey0
    have hsb := sameBits_int kd i
    have : (Instr.mapUpdate t (.map (some b)) (.int kd i) v).run Pg w = .ok () { w with heap := w.heap.setIfInBounds b (.map (es.modify j fun e => { e with key := .int kd i, val := v }).toArray ck) } := by
      simp only [Instr.mapUpdate, Sem.run_bind, run_underlying ht.eq, Result.andThen_ok, h1, run_checkKey_int hk.eq, h2, hkey, Option.getD_some, Instr.keyThatStays, hsb, if_true, Sem.run_pure, e, h3]
    simp [execOp, ho, hf.eval hx, hf.eval hy, hf.eval hz, this]
/-- delete(m, k) -/
theorem W.mdel [NX q1 q2] {t t' kt et : TypeId} {kd : IntKind} {x y : Operand} {b : Nat} {m : List (Int × Value)} {i : Int} (hg : o.guard = none) (hd : o.dst = some d) (hn : Nat.blt d n = true) (ho : o.op = .call { callee := .builtin .delete, args := #[x, y], argTypes := #[t, t'] }) [ht : TD t (.map kt et)] [hk : TD kt (.int kd)]
    (hx : ev l x = some (.map (some b))) (hy : ev l y = some (.int kd i)) [hm : Mi H b kd m R] (k : WS c Q n (.ops q2 all rest ks) ((d, .tuple #[]) :: l) (mapI kd b (delI i m) • R)) : WS c Q n (.ops q1 all (o :: rest) ks) l H := by
  refine W.valw (σ := Unit) (val := fun _ => .tuple #[]) (K := fun _ => mapI kd b (delI i m) • R) hg hd hn (fun a w hf hs => ?_) (fun _ => k)
  rw [hm.eq] at hs
  obtain ⟨es, ck, hkv, hst, h⟩ := hs.miE
  have h1 := getObj_map h.get
  have h2 := run_findK (w := w) hk.eq (hkv.findNow i 0)
  have hle : es.length = m.length := by have := congrArg List.length hkv; simpa using this
  cases hfi : findI i m 0 with
  | none =>
    rw [hfi] at h2
    refine ⟨(), _, ?_, (h.setMap (es' := es) (ck' := ck)).miI (by rw [delI_none i m 0 hfi]; exact hkv) hst⟩
    have h3 := setObj_map (.map es.toArray ck) h.get
    have : (Builtin.delete_ #[t, t'] o.type #[.map (some b), .int kd i]).run Pg w = .ok (.tuple #[]) { w with heap := w.heap.setIfInBounds b (.map es.toArray ck) } := by
      simp only [Builtin.delete_, List.getElem?_toArray, List.getElem?_cons_zero, List.getElem?_cons_succ, Sem.run_bind, run_underlying ht.eq, Result.andThen_ok, h1, run_checkKey_int hk.eq, h2, h3, Sem.run_pure]
    simp [execOp, ho, resolve, hf.eval hx, hf.eval hy, invoke, builtin, this]
  | some p =>
    obtain ⟨j, u⟩ := p
    rw [hfi] at h2
    have hj := (findI_ge i m 0 j u hfi).2
    refine ⟨(), _, ?_, (h.setMap (es' := es.eraseIdx j) (ck' := ck)).miI (hkv.del i 0 j u hfi) hst.del⟩
    have h3 := setObj_map (.map (es.eraseIdx j).toArray ck) h.get
    have e : es.toArray.eraseIdxIfInBounds j = (es.eraseIdx j).toArray := by
      simp [Array.eraseIdxIfInBounds, show j < es.length from by omega]
    have : (Builtin.delete_ #[t, t'] o.type #[.map (some b), .int kd i]).run Pg w = .ok (.tuple #[]) { w with heap := w.heap.setIfInBounds b (.map (es.eraseIdx j).toArray ck) } := by
      simp only [Builtin.delete_, List.getElem?_toArray, List.getElem?_cons_zero, List.getElem?_cons_succ, Sem.run_bind, run_underlying ht.eq, Result.andThen_ok, h1, run_checkKey_int hk.eq, h2, e, h3, Sem.run_pure]
    simp [execOp, ho, resolve, hf.eval hx, hf.eval hy, invoke, builtin, this]
/-- delete, what it yields wanted by nobody -/
theorem W.mdn [NX q1 q2] {t t' kt et : TypeId} {kd : IntKind} {x y : Operand} {b : Nat} {m : List (Int × Value)} {i : Int} (hg : o.guard = none) (hd : o.dst = none) (ho : o.op = .call { callee := .builtin .delete, args := #[x, y], argTypes := #[t, t'] }) [ht : TD t (.map kt et)] [hk : TD kt (.int kd)]
    (hx : ev l x = some (.map (some b))) (hy : ev l y = some (.int kd i)) [hm : Mi H b kd m R] (k : WS c Q n (.ops q2 all rest ks) l (mapI kd b (delI i m) • R)) : WS c Q n (.ops q1 all (o :: rest) ks) l H := by
  refine W.valn (v := .tuple #[]) hg hd (fun a w hf hs => ?_) k
  rw [hm.eq] at hs
  obtain ⟨es, ck, hkv, hst, h⟩ := hs.miE
  have h1 := getObj_map h.get
  have h2 := run_findK (w := w) hk.eq (hkv.findNow i 0)
  have hle : es.length = m.length := by have := congrArg List.length hkv; simpa using this
  cases hfi : findI i m 0 with
  | none =>
    rw [hfi] at h2
    refine ⟨_, ?_, (h.setMap (es' := es) (ck' := ck)).miI (by rw [delI_none i m 0 hfi]; exact hkv) hst⟩
    have h3 := setObj_map (.map es.toArray ck) h.get
    have : (Builtin.delete_ #[t, t'] o.type #[.map (some b), .int kd i]).run Pg w = .ok (.tuple #[]) { w with heap := w.heap.setIfInBounds b (.map es.toArray ck) } := by
      simp only [Builtin.delete_, List.getElem?_toArray, List.getElem?_cons_zero, List.getElem?_cons_succ, Sem.run_bind, run_underlying ht.eq, Result.andThen_ok, h1, run_checkKey_int hk.eq, h2, h3, Sem.run_pure]
    simp [execOp, ho, resolve, hf.eval hx, hf.eval hy, invoke, builtin, this]
  | some p =>
    obtain ⟨j, u⟩ := p
    rw [hfi] at h2
    have hj := (findI_ge i m 0 j u hfi).2
    refine ⟨_, ?_, (h.setMap (es' := es.eraseIdx j) (ck' := ck)).miI (hkv.del i 0 j u hfi) hst.del⟩
    have h3 := setObj_map (.map (es.eraseIdx j).toArray ck) h.get
    have e : es.toArray.eraseIdxIfInBounds j = (es.eraseIdx j).toArray := by
      simp [Array.eraseIdxIfInBounds, show j < es.length from by omega]
    have : (Builtin.delete_ #[t, t'] o.type #[.map (some b), .int kd i]).run Pg w = .ok (.tuple #[]) { w with heap := w.heap.setIfInBounds b (.map (es.eraseIdx j).toArray ck) } := by
      simp only [Builtin.delete_, List.getElem?_toArray, List.getElem?_cons_zero, List.getElem?_cons_succ, Sem.run_bind, run_underlying ht.eq, Result.andThen_ok, h1, run_checkKey_int hk.eq, h2, e, h3, Sem.run_pure]
    simp [execOp, ho, resolve, hf.eval hx, hf.eval hy, invoke, builtin, this]
/-- map[K]V{} -/
theorem W.mmk [NX q1 q2] {t : TypeId} (kd : IntKind) (hg : o.guard = none) (hd : o.dst = some d) (hn : Nat.blt d n = true) (ho : o.op = .makeMap t none)
    (k : ∀ b, WS c Q n (.ops q2 all rest ks) ((d, .map (some b)) :: l) (mapI kd b [] • H)) : WS c Q n (.ops q1 all (o :: rest) ks) l H := by
  refine W.valw (val := fun b => .map (some b)) (K := fun b => mapI kd b [] • H) hg hd hn (fun a w hf hs => ?_) k
  have h2 : SL c (mapb w.heap.size [] 0 • H) (w.alloc (.map #[] 0)) := hs.alloc _
  refine ⟨w.heap.size, w.alloc (.map #[] 0), ?_, h2.miI rfl ⟨by simp, by simp, by simp⟩⟩
  simp [execOp, ho, Instr.makeMap]
end
end Go.Proofs.YtbdhhedfplkidaaGreat
/- Regions that draw their order and whose operations turn the world: those that only yield a value are taken first; the others in whatever order they may come up. -/
namespace Go.Proofs.YtbdhhedfplkidaaGreat
open Go
/-- Operation j comes up behind operation i. -/
def waits (all : Array Oper) (i : Nat) : Nat → Nat → Bool
  | 0, _ => false
  | f + 1, j => match all[j]? with
    | some o => o.after.any fun e => Region.binds .any e && (Nat.beq e.on i || waits all i f e.on)
    | none => false
def Clo (all : Array Oper) (li : Array Bool) : Prop := ∀ j oj, all[j]? = some oj → li.getD j true = true → ∀ e ∈ oj.after, Region.binds .any e = true → li.getD e.on false = true
def cloB (all : Array Oper) (li : Array Bool) : Bool := (List.range all.size).all fun j => match all[j]? with
  | some oj => !li.getD j true || oj.after.all fun e => !Region.binds .any e || li.getD e.on false
  | none => true
theorem cloB_spec {all : Array Oper} {li : Array Bool} (h : cloB all li = true) : Clo all li := by
  intro j oj hj hl e he hb
  simp only [cloB, List.all_eq_true, List.mem_range] at h
  have h1 := h j (Array.getElem?_eq_some_iff.1 hj).1
  simp only [hj, hl, Bool.not_true, Bool.false_or, Array.all_eq_true'] at h1
  have h2 := h1 e he
  simpa [hb] using h2
theorem getD_tf {li : Array Bool} {i : Nat} (h : li.getD i false = true) : li.getD i true = true := by
  rcases Nat.lt_or_ge i li.size with h' | h'
  · simp [h'] at h ⊢; exact h
  · simp [Array.getElem?_eq_none h'] at h
theorem waits_listed {all : Array Oper} {li : Array Bool} {i : Nat} (hc : Clo all li) : ∀ (f j : Nat) (oj : Oper), all[j]? = some oj →
    (∀ e ∈ oj.after, Region.binds .any e = true → li.getD e.on false = true) → waits all i f j = true → li.getD i false = true
  | 0, _, _, _, _, h => by cases h
  | f + 1, j, oj, hj, ha, h => by
    simp only [waits, hj] at h
    obtain ⟨e, he, hb⟩ := Array.any_eq_true'.1 h
    simp only [Bool.and_eq_true, Bool.or_eq_true] at hb
    have h1 := ha e he hb.1
    rcases hb.2 with h2 | h2
    · rw [Nat.eq_of_beq_eq_true h2] at h1; exact h1
    · cases ho : all[e.on]? with
      | none => cases f <;> simp [waits, ho] at h2
      | some o' => exact waits_listed hc f e.on o' ho (hc e.on o' ho (getD_tf h1)) h2
/-- Operation i may be taken ahead of all that is left. -/
def okA (all : Array Oper) (J : Nat → Bool) (li : Array Bool) (i : Nat) : Bool :=
  (Region.ready .any all li).contains i && match all[i]? with
    | some oi => (List.range all.size).all fun j => Nat.beq j i || li.getD j true || waits all i all.size j || match all[j]? with
      | some oj => oi.apart all oj && J j
      | none => true
    | none => false
def okL (all : Array Oper) (J : Nat → Bool) : Array Bool → List Nat → Bool
  | _, [] => true
  | li, i :: is => okA all J li i && okL all J (li.setIfInBounds i true) is
def setL : Array Bool → List Nat → Array Bool
  | li, [] => li
  | li, i :: is => setL (li.setIfInBounds i true) is
def nthL : List Oper → Nat → Option Oper
  | [], _ => none
  | o :: _, 0 => some o
  | _ :: r, k + 1 => nthL r k
theorem nthL_eq : ∀ (l : List Oper) (k : Nat), nthL l k = l[k]?
  | [], _ => rfl
  | _ :: _, 0 => rfl
  | _ :: r, k + 1 => by simp [nthL, nthL_eq r k]
theorem nthL_arr {all : Array Oper} {i : Nat} {o : Oper} (h : nthL all.toList i = some o) : all[i]? = some o := by rw [nthL_eq] at h; simpa using h
def opsL (all : Array Oper) : List Nat → List Oper
  | [] => []
  | i :: is => match nthL all.toList i with
    | some o => o :: opsL all is
    | none => []

section
variable {all : Array Oper} {Q : Exit → Act → World → Prop} {J : Nat → Bool} {S : World → Prop}
theorem Clo.set {li : Array Bool} {j : Nat} (hc : Clo all li) (hj : j ∈ Region.ready .any all li) : Clo all (li.setIfInBounds j true) := by
  intro k ok hk hl e he hb
  obtain ⟨_, oj, hoj, ha⟩ := mem_ready.1 hj
  by_cases hkj : j = k
  · subst hkj
    rw [hoj] at hk; cases hk
    exact getD_set_true (ha e he hb)
  · rw [getD_set_ne true hkj] at hl
    exact getD_set_true (hc k ok hk hl e he hb)
theorem anyJ_first {i : Nat} {oi : Oper} {v : Value} (hi : all[i]? = some oi) (hsel : ∀ (j : Nat) (o : Oper) cs b, all[j]? = some o → o.op ≠ .select cs b)
    (hQ : ∀ c a w, Q (.panic c) (a.put oi.dst v) w → Q (.panic c) a w) :
    ∀ (fuel : Nat) (li : Array Bool) (a : Act) (w : World), Clo all li →
      (∀ j oj, all[j]? = some oj → j ≠ i → li.getD j true = false → waits all i all.size j = false → oi.apart all oj = true ∧ J j = true) →
      i ∈ Region.ready .any all li → YieldsIf Pg all S oi v a → S w →
      anyJ all Q J S fuel (li.setIfInBounds i true) (a.put oi.dst v) w → anyJ all Q J S (fuel + 1) li a w := by
  intro fuel
  induction fuel with
  | zero =>
    intro li a w hc _ hr hy hS H
    refine ⟨fun h => (by rw [h] at hr; cases hr), fun j hj => ?_⟩
    by_cases hji : j = i
    · subst hji; exact hy.wpOp hi hS ⟨fun _ => hS, H⟩
    · have := ready_mono hj hji
      rw [H.1] at this
      cases this
  | succ fuel ih =>
    intro li a w hc hfree hr hy hS H
    refine ⟨fun h => (by rw [h] at hr; cases hr), fun j hj => ?_⟩
    by_cases hji : j = i
    · subst hji; exact hy.wpOp hi hS ⟨fun _ => hS, H⟩
    · have h1 := H.2 j (ready_mono hj hji)
      obtain ⟨hjun, oj, hoj, hall⟩ := mem_ready.1 hj
      have hnw : waits all i all.size j = false := by
        cases hw : waits all i all.size j with
        | false => rfl
        | true =>
          have := getD_tf (waits_listed hc _ j oj hoj hall hw)
          rw [(mem_ready.1 hr).1] at this
          cases this
      obtain ⟨hap, hJ⟩ := hfree j oj hoj hji hjun hnw
      have h2 := wpOp_putIf hoj hap (fun cs b => hsel i oi cs b hi) (fun cs b => hsel j oj cs b hoj) hQ hy h1
      refine wpOp_mono (fun a' w' h3 => ⟨h3.2.1, ih (li.setIfInBounds j true) a' w' (hc.set hj) (fun k ok hk hki hun hno => hfree k ok hk hki ?_ hno) (ready_mono hr (Ne.symm hji)) h3.1 (h3.2.1 hJ) ?_⟩) h2
      · by_cases hjk : j = k
        · subst hjk; exact hjun
        · rw [getD_set_ne true hjk] at hun; exact hun
      · rw [Array.setIfInBounds_comm _ _ hji]
        exact h3.2.2
theorem okA_spec {li : Array Bool} {i : Nat} (h : okA all J li i = true) : i ∈ Region.ready .any all li ∧ ∃ oi, all[i]? = some oi ∧
    (∀ j oj, all[j]? = some oj → j ≠ i → li.getD j true = false → waits all i all.size j = false → oi.apart all oj = true ∧ J j = true) := by
  simp only [okA, Bool.and_eq_true] at h
  obtain ⟨h1, h2⟩ := h
  refine ⟨by simpa using h1, ?_⟩
  cases hi : all[i]? with
  | none => rw [hi] at h2; cases h2
  | some oi =>
    rw [hi] at h2
    refine ⟨oi, rfl, fun j oj hj hji hun hw => ?_⟩
    simp only [List.all_eq_true, List.mem_range] at h2
    have h3 := h2 j (Array.getElem?_eq_some_iff.1 hj).1
    have hb : Nat.beq j i = false := by
      cases hb : Nat.beq j i with
      | false => rfl
      | true => exact absurd (Nat.eq_of_beq_eq_true hb) hji
    simpa [hj, hun, hw, hb] using h3
theorem anyJ_take (hs : Region.noSelect all = true) (hQ : ∀ c a d v w, Q (.panic c) (Act.put a d v) w → Q (.panic c) a w) :
    ∀ (is : List Nat) (li : Array Bool) (f : Nat) (a : Act) (w : World), Clo all li → okL all J li is = true → S w →
      yl all S (fun a' => ∀ w', S w' → w' = w → anyJ all Q J S f (setL li is) a' w') (opsL all is) a → anyJ all Q J S (f + is.length) li a w
  | [], _, _, _, _, _, _, hS, h => h _ hS rfl
  | i :: is, li, f, a, w, hc, hok, hS, h => by
    simp only [okL, Bool.and_eq_true] at hok
    obtain ⟨hr, oi, hi, hfree⟩ := okA_spec hok.1
    have hd : nthL all.toList i = some oi := by rw [nthL_eq]; simpa using hi
    simp only [opsL, yl, hd] at h
    have key : ∃ v, YieldsIf Pg all S oi v a ∧ yl all S (fun a' => ∀ w', S w' → w' = w → anyJ all Q J S f (setL li (i :: is)) a' w') (opsL all is) (a.put oi.dst v) := by
      split at h
      · rename_i hw
        obtain ⟨v, hv, h⟩ := h
        exact ⟨v, .inl ⟨hw, hv⟩, h⟩
      · rename_i hw
        exact ⟨undef, .inr ⟨by simpa using hw, rfl⟩, h⟩
    obtain ⟨v, hy, h⟩ := key
    exact anyJ_first hi (Region.noSelect_spec hs) (fun c a w => hQ c a _ v w) (f + is.length) li a w hc hfree hr hy hS (anyJ_take hs hQ is _ f _ w (hc.set hr) hok.2 hS h)
theorem wpAny_of_anyJ : ∀ (fuel : Nat) (li : Array Bool) (a : Act) (w : World), anyJ all Q J S fuel li a w → wpAny Pg .any all Q fuel li a w
  | 0, _, _, _, h => h
  | fuel + 1, _, _, _, h => ⟨h.1, fun i hi => wpOp_mono (fun a' w' h' => wpAny_of_anyJ fuel _ a' w' h'.2) (h.2 i hi)⟩
theorem yl_mono {C : World → Prop} {K K' : Act → Prop} (h : ∀ a, K a → K' a) : ∀ (os : List Oper) (a : Act), yl all C K os a → yl all C K' os a
  | [], a, hh => h a hh
  | o :: os, a, hh => by
    simp only [yl] at hh ⊢
    split
    · rename_i hw
      rw [if_pos hw] at hh
      exact ⟨hh.choose, hh.choose_spec.1, yl_mono h os _ hh.choose_spec.2⟩
    · rename_i hw
      rw [if_neg hw] at hh
      exact yl_mono h os _ hh
end
/-- What is asked of a panic does not look at the slots. -/
class PF (Q : Exit → Act → World → Prop) : Prop where
  p : ∀ c a d v w, Q (.panic c) (Act.put a d v) w → Q (.panic c) a w
instance {fn : Func} {R : Ending → World → Prop} : PF (bodyPost Pg fn R) := ⟨fun _ _ d _ _ h => by cases d <;> exact h⟩
theorem Qk_panic {Q : Exit → Act → World → Prop} [hq : PF Q] : ∀ (ks : List Kn) c a d v w, Qk Q ks (.panic c) (Act.put a d v) w → Qk Q ks (.panic c) a w
  | [], c, a, d, v, w, h => hq.p c a d v w h
  | .seq _ :: ks, c, a, d, v, w, h => Qk_panic ks c a d v w h
  | .blk _ :: ks, c, a, d, v, w, h => Qk_panic ks c a d v w h
  | .scp _ :: ks, c, a, d, v, w, h => Qk_panic ks c a d v w h
  | .inv _ :: ks, c, a, d, v, w, h => Qk_panic ks c a d v w h

section
variable {c : World} {Q : Exit → Act → World → Prop} {n : Nat} {l l' : List (Nat × Value)} {H H' R : HProp} {ks : List Kn}
variable {all : Array Oper} {f : Nat} {li : Array Bool} {T : World → Prop} {m : Nat}
/-- A region in whatever order: J says no of those operations behind which Hs need not hold. -/
theorem W.any {id : Nat} (J : Nat → Bool) (Hs : HProp) (hm : Pg.follows .mixedOrders = true) (k : WS c Q n (.any J (SL c Hs) all all.size (Array.replicate all.size false) ks) l H) : WS c Q n (.code (.region id all true) ks) l H :=
  fun a _w hf hs => wp_region_any hm (wpAny_of_anyJ _ _ _ _ (k a _ hf hs.drew))
variable {J : Nat → Bool} {S : World → Prop}
/-- These operations are taken first. -/
theorem W.atk [PF Q] {Hs : HProp} (is : List Nat) (hs : Region.noSelect all = true) (hc : cloB all li = true) (hok : okL all J li is = true) (hn : is.length + f = m) (hH : Imp H Hs)
    (k : WS c Q n (.ops (.tk J (SL c H) f (setL li is)) all (opsL all is) ks) l Hs) : WS c Q n (.any J (SL c Hs) all m li ks) l H := by
  intro a w hf hsl
  subst hn
  show anyJ _ _ _ _ _ _ _ _
  rw [Nat.add_comm]
  have hk := k a w hf (hsl.imp hH)
  refine anyJ_take hs (Qk_panic ks) is li f a w (cloB_spec hc) hok (hsl.imp hH) (yl_mono ?_ _ a hk)
  intro a' h w' _ he
  subst he
  exact h w' hsl
/-- A region of which these operations are taken first; J says no of those behind which the assertion need not hold any more. -/
theorem W.anyq [PF Q] {id : Nat} (J : Nat → Bool) (is : List Nat) (hm : Pg.follows .mixedOrders = true) (hs : Region.noSelect all = true) (hc : cloB all (Array.replicate all.size false) = true) (hok : okL all J (Array.replicate all.size false) is = true) (hn : is.length + f = all.size)
    (k : WS c Q n (.ops (.tk J (SL c H) f (setL (Array.replicate all.size false) is)) all (opsL all is) ks) l H) : WS c Q n (.code (.region id all true) ks) l H :=
  W.any J H hm (W.atk is hs hc hok hn (Imp.refl H) k)
/-- .. Hs: what must hold behind each of the others, but for those of which J says no. -/
theorem W.anyh [PF Q] {id : Nat} (J : Nat → Bool) (is : List Nat) (hm : Pg.follows .mixedOrders = true) (hs : Region.noSelect all = true) (hc : cloB all (Array.replicate all.size false) = true) (hok : okL all J (Array.replicate all.size false) is = true) (hn : is.length + f = all.size)
    (Hs : HProp) (hH : Imp H Hs) (k : WS c Q n (.ops (.tk J (SL c H) f (setL (Array.replicate all.size false) is)) all (opsL all is) ks) l Hs) : WS c Q n (.code (.region id all true) ks) l H :=
  W.any J Hs hm (W.atk is hs hc hok hn hH k)
theorem W.tdn (k : WS c Q n (.any J (SL c H) all f li ks) l H') : WS c Q n (.ops (.tk J (SL c H') f li) all [] ks) l H :=
  fun a _ hf _ w' hw' => k a w' hf hw'
theorem anyOp {i : Nat} {oi : Oper} (hi : all[i]? = some oi) {a : Act} {w : World} (k : sem T Q (.ops (.one (J i) J S f (li.setIfInBounds i true)) all [oi] ks) a w) :
    wpOp Pg all (Qk Q ks) i (fun a' w' => (J i = true → S w') ∧ anyJ all (Qk Q ks) J S f (li.setIfInBounds i true) a' w') a w := by
  unfold wpOp
  simp only [hi]
  simp only [sem] at k
  split
  · rename_i hw
    rw [if_pos hw] at k
    exact .inl k
  · rename_i hw
    rw [if_neg hw] at k
    exact k
theorem W.ald1 (i : Nat) {oi : Oper} (hr : Region.ready .any all li = [i]) (hi : nthL all.toList i = some oi) (k : WS c Q n (.ops (.one (J i) J S f (li.setIfInBounds i true)) all [oi] ks) l H) : WS c Q n (.any J S all (f + 1) li ks) l H := by
  intro a w hf hs
  refine ⟨fun h => (by rw [hr] at h; cases h), fun j hj => ?_⟩
  rw [hr] at hj
  have := List.mem_singleton.1 hj
  subst this
  exact anyOp (nthL_arr hi) (k a w hf hs)
theorem W.ald2 (i i' : Nat) {oi oi' : Oper} (hr : Region.ready .any all li = [i, i']) (hi : nthL all.toList i = some oi) (hi' : nthL all.toList i' = some oi') (k : WS c Q n (.ops (.one (J i) J S f (li.setIfInBounds i true)) all [oi] ks) l H)
    (k' : WS c Q n (.ops (.one (J i') J S f (li.setIfInBounds i' true)) all [oi'] ks) l H) : WS c Q n (.any J S all (f + 1) li ks) l H := by
  intro a w hf hs
  refine ⟨fun h => (by rw [hr] at h; cases h), fun j hj => ?_⟩
  rw [hr] at hj
  rcases List.mem_cons.1 hj with rfl | hj
  · exact anyOp (nthL_arr hi) (k a w hf hs)
  · have := List.mem_singleton.1 hj
    subst this
    exact anyOp (nthL_arr hi') (k' a w hf hs)
theorem W.aft {Hs : HProp} {b : Bool} (hH : Imp H Hs) (k : WS c Q n (.any J (SL c Hs) all f li ks) l H) : WS c Q n (.ops (.aft b J (SL c Hs) f li) all [] ks) l H :=
  fun a w hf hs => ⟨fun _ => hs.imp hH, k a w hf hs⟩
theorem W.afb (k : WS c Q n (.any J S all f li ks) l H) : WS c Q n (.ops (.aft false J S f li) all [] ks) l H :=
  fun a w hf hs => ⟨fun h => (by cases h), k a w hf hs⟩
theorem W.adn (hr : Region.ready .any all li = []) (k : WS c Q n (.done .normal ks) l H) : WS c Q n (.any J S all f li ks) l H := by
  intro a w hf hs
  cases f with
  | zero => exact ⟨hr, k a w hf hs⟩
  | succ f => exact ⟨fun _ => k a w hf hs, (by rw [hr]; simp)⟩
end
end Go.Proofs.YtbdhhedfplkidaaGreat
/- Struct literals. -/
namespace Go.Proofs.YtbdhhedfplkidaaGreat
open Go
class Pl (pl : List (Nat × Nat)) (i : Nat) (off s : outParam Nat) : Prop where
  eq : pl[i]? = some (off, s)
instance pl0 (o s : Nat) (r : List (Nat × Nat)) : Pl ((o, s) :: r) 0 o s := ⟨rfl⟩
instance plS (p : Nat × Nat) (r : List (Nat × Nat)) (i o s : Nat) [h : Pl r i o s] : Pl (p :: r) (i + 1) o s := ⟨by simp [h.eq]⟩
class Ln (vs : List Value) (n : outParam Nat) : Prop where
  eq : vs.length = n
instance ln0 : Ln [] 0 := ⟨rfl⟩
instance lnS (v : Value) (vs : List Value) (n : Nat) [h : Ln vs n] : Ln (v :: vs) (n + 1) := ⟨by simp [h.eq]⟩
class Bld (pl : List (Nat × Nat)) (cs : List Value) (ps : List (Nat × Value)) (out : outParam (List Value)) : Prop where
  eq : Instr.fill (pl.toArray[·]?) cs.toArray ps = some out.toArray
  one : (∀ u ∈ cs, u.oneCell' = true) → ∀ u ∈ out, u.oneCell' = true
instance bldN (pl : List (Nat × Nat)) (cs : List Value) : Bld pl cs [] cs := ⟨rfl, id⟩
theorem fold_setAll : ∀ (vs cs : List Value) (off j : Nat), (vs.zipIdx j).foldl (fun cs (x : Value × Nat) => cs.setIfInBounds (off + x.2) x.1) cs.toArray = (setAll cs (off + j) vs).toArray
  | [], _, _, _ => rfl
  | v :: vs, cs, off, j => by
    simp only [List.zipIdx_cons, List.foldl_cons, List.setIfInBounds_toArray, fold_setAll vs, setAll]
    rfl
theorem setAll_one : ∀ (vs cs : List Value) (off : Nat), (∀ u ∈ cs, u.oneCell' = true) → (∀ u ∈ vs, u.oneCell' = true) → ∀ u ∈ setAll cs off vs, u.oneCell' = true
  | [], _, _, hc, _ => hc
  | v :: vs, cs, off, hc, hv => by
    refine setAll_one vs _ _ (fun u hu => ?_) fun u hu => hv u (List.mem_cons_of_mem _ hu)
    rcases List.mem_or_eq_of_mem_set hu with h | h
    · exact hc u h
    · rw [h]; exact hv v (List.mem_cons_self ..)
instance bldS (pl : List (Nat × Nat)) (cs vs cs' out : List Value) (i off s : Nat) (v : Value) (r : List (Nat × Value)) [hp : Pl pl i off s] [hc : Cl v vs] [hl : Ln vs s] [hs : Sts cs off vs cs'] [hb : Bld pl cs' r out] : Bld pl cs ((i, v) :: r) out := ⟨by
  have h1 : pl.toArray[i]? = some (off, s) := by simpa using hp.eq
  have h2 := hs.le
  have h3 : (vs.zipIdx 0).foldl (fun cs (x : Value × Nat) => cs.setIfInBounds (off + x.2) x.1) cs.toArray = cs'.toArray := by rw [fold_setAll, Nat.add_zero, hs.eq]
  have h4 : v.cells.size = s := by rw [hc.eq]; simpa using hl.eq
  have h5 : ¬ (v.cells.size ≠ s ∨ off + v.cells.size > cs.toArray.size) := by rw [h4, ← hl.eq]; simp; omega
  simp only [Instr.fill, h1]
  rw [if_neg (by simpa using h5), hc.eq]
  rw [show (vs.toArray.zipIdx.foldl (fun cs (x : Value × Nat) => cs.setIfInBounds (off + x.2) x.1) cs.toArray) = cs'.toArray by rw [← h3]; simp]
  exact hb.eq, fun h => hb.one (by rw [← hs.eq]; exact setAll_one vs cs off h hc.one)⟩
/-- What a struct literal is filled into. -/
class TS (t : Nat) (zs : outParam (List Value)) (pl : outParam (List (Nat × Nat))) : Prop where
  run : ∀ (parts : Array (Nat × Value)) (out : List Value), Instr.fill (pl.toArray[·]?) zs.toArray parts.toList = some out.toArray → ∀ w, (Instr.build t parts).run Pg w = .ok (.agg out.toArray) w
inductive Places : List Field → List (Nat × Nat) → Prop
  | nil : Places [] []
  | cons {f : Field} {s : Nat} {r : List Field} {q : List (Nat × Nat)} (h : ∀ w, (sizeOf f.type).run Pg w = .ok s w) (t : Places r q) : Places (f :: r) ((f.offset, s) :: q)
theorem Places.run {fs : List Field} {pl : List (Nat × Nat)} (h : Places fs pl) (w : World) : ((fs.mapM fun f => do pure (f.offset, ← sizeOf f.type) : Sem (List (Nat × Nat)))).run Pg w = .ok pl w := by
  induction h with
  | nil => simp only [List.mapM_nil, Sem.run_pure]
  | cons h t ih => simp only [List.mapM_cons, Sem.run_bind, h, ih, Result.andThen_ok, Sem.run_pure]
theorem mkTS {t : Nat} {z : Value} {zs : List Value} {fs : List Field} {pl : List (Nat × Nat)} (hz : ∀ w, (zeroValue t).run Pg w = .ok z w) (hu : Pg.underlying t = some (.struct fs.toArray)) (hc : z.cells = zs.toArray) (hp : Places fs pl) : TS t zs pl := ⟨fun parts out hf w => by
  have h1 := hp.run w
  simp only [Instr.build, Sem.run_bind, hz, Result.andThen_ok, run_underlying hu, List.mapM_toArray, hc]
  simp only [map_eq_pure_bind, Sem.run_bind, h1, Result.andThen_ok, Sem.run_pure, hf]⟩
def evB (l : List (Nat × Value)) : List (Nat × Operand) → Option (List (Nat × Value))
  | [] => some []
  | (i, x) :: r => match ev l x, evB l r with
    | some v, some vs => some ((i, v) :: vs)
    | _, _ => none
theorem evB_eval {a : Act} {n : Nat} {l : List (Nat × Value)} (hf : Fr a n l) : ∀ {ps : List (Nat × Operand)} {vs : List (Nat × Value)}, evB l ps = some vs → ps.map (fun p => (p.1, a.eval p.2)) = vs
  | [], _, h => by cases h; rfl
  | (i, x) :: r, vs, h => by
    unfold evB at h
    split at h
    · rename_i v vs' h1 h2
      cases h
      simp only [List.map_cons, hf.eval h1, evB_eval hf h2]
    · cases h
section
variable {c : World} {Q : Exit → Act → World → Prop} {n : Nat} {l : List (Nat × Value)} {H R : HProp} {ks : List Kn}
variable {q q1 q2 : Md} {all : Array Oper} {o : Oper} {rest : List Oper} {d : Nat} {v : Value}
/-- T{x, y, ..} -/
theorem W.bld [hNL : NL q1 q2] {t : TypeId} {zs out : List Value} {pl : List (Nat × Nat)} {ps : Array (Nat × Operand)} {vs : List (Nat × Value)} (hg : o.guard = none) (hd : o.dst = some d) (hn : Nat.blt d n = true) (ho : o.op = .build t ps) [ht : TS t zs pl]
    (he : evB l ps.toList = some vs) [hb : Bld pl zs vs out] (k : WS c Q n (.ops q2 all rest ks) ((d, .agg out.toArray) :: l) H) : WS c Q n (.ops q1 all (o :: rest) ks) l H := by
  refine W.val hg hd hn (fun a w hf hs => ?_) k
  simp only [execOp, ho]
  have h1 : (ps.map fun x => (x.1, a.eval x.2)).toList = vs := by rw [Array.toList_map]; exact evB_eval hf he
  have h2 := ht.run (ps.map fun x => (x.1, a.eval x.2)) out (by rw [h1]; exact hb.eq) w
  simp [h2]
end
end Go.Proofs.YtbdhhedfplkidaaGreat
/- What a struct literal is filled into. Written by gents.py. -/
namespace Go.Proofs.YtbdhhedfplkidaaGreat
open Go

instance : TS 7 [Go.Value.int Go.IntKind.i64 0, Go.Value.int Go.IntKind.i64 0, Go.Value.bool Bool.false, Go.Value.int Go.IntKind.u8 0] [(0, 1), (1, 1), (2, 1), (3, 1)] := mkTS Tryz.zeroValue7 Tryz.underlying7 rfl (.cons Tryz.sizeOf2 (.cons Tryz.sizeOf3 (.cons Tryz.sizeOf4 (.cons Tryz.sizeOf6 .nil))))
instance : TS 8 [Go.Value.int Go.IntKind.i64 0, Go.Value.int Go.IntKind.i64 0, Go.Value.bool Bool.false, Go.Value.int Go.IntKind.u8 0] [(0, 1), (1, 1), (2, 1), (3, 1)] := mkTS Tryz.zeroValue8 Tryz.underlying8 rfl (.cons Tryz.sizeOf2 (.cons Tryz.sizeOf3 (.cons Tryz.sizeOf4 (.cons Tryz.sizeOf6 .nil))))
instance : TS 13 [Go.Value.string { data := #[] }, Go.Value.int Go.IntKind.u64 0] [(0, 1), (1, 1)] := mkTS Tryz.zeroValue13 Tryz.underlying13 rfl (.cons Tryz.sizeOf9 (.cons Tryz.sizeOf12 .nil))
instance : TS 14 [Go.Value.string { data := #[] }, Go.Value.int Go.IntKind.u64 0] [(0, 1), (1, 1)] := mkTS Tryz.zeroValue14 Tryz.underlying14 rfl (.cons Tryz.sizeOf9 (.cons Tryz.sizeOf12 .nil))
instance : TS 18 [Go.Value.pointer Option.none] [(0, 1)] := mkTS Tryz.zeroValue18 Tryz.underlying18 rfl (.cons Tryz.sizeOf17 .nil)
instance : TS 19 [Go.Value.pointer Option.none] [(0, 1)] := mkTS Tryz.zeroValue19 Tryz.underlying19 rfl (.cons Tryz.sizeOf17 .nil)
instance : TS 43 [Go.Value.pointer Option.none, Go.Value.pointer Option.none, Go.Value.pointer Option.none, Go.Value.pointer Option.none, Go.Value.int Go.IntKind.i64 0] [(0, 1), (1, 1), (2, 1), (3, 1), (4, 1)] := mkTS Tryz.zeroValue43 Tryz.underlying43 rfl (.cons Tryz.sizeOf39 (.cons Tryz.sizeOf40 (.cons Tryz.sizeOf41 (.cons Tryz.sizeOf42 (.cons Tryz.sizeOf3 .nil)))))
instance : TS 44 [Go.Value.pointer Option.none, Go.Value.pointer Option.none, Go.Value.pointer Option.none, Go.Value.pointer Option.none, Go.Value.int Go.IntKind.i64 0] [(0, 1), (1, 1), (2, 1), (3, 1), (4, 1)] := mkTS Tryz.zeroValue44 Tryz.underlying44 rfl (.cons Tryz.sizeOf39 (.cons Tryz.sizeOf40 (.cons Tryz.sizeOf41 (.cons Tryz.sizeOf42 (.cons Tryz.sizeOf3 .nil)))))
instance : TS 54 [Go.Value.int Go.IntKind.u64 0, Go.Value.string { data := #[] }] [(0, 1), (1, 1)] := mkTS Tryz.zeroValue54 Tryz.underlying54 rfl (.cons Tryz.sizeOf35 (.cons Tryz.sizeOf9 .nil))
instance : TS 55 [Go.Value.int Go.IntKind.u64 0, Go.Value.string { data := #[] }] [(0, 1), (1, 1)] := mkTS Tryz.zeroValue55 Tryz.underlying55 rfl (.cons Tryz.sizeOf35 (.cons Tryz.sizeOf9 .nil))
instance : TS 60 [Go.Value.int Go.IntKind.i64 0, Go.Value.int Go.IntKind.i64 0, Go.Value.int Go.IntKind.i64 0, Go.Value.int Go.IntKind.u64 0] [(0, 1), (1, 1), (2, 1), (3, 1)] := mkTS Tryz.zeroValue60 Tryz.underlying60 rfl (.cons Tryz.sizeOf3 (.cons Tryz.sizeOf3 (.cons Tryz.sizeOf3 (.cons Tryz.sizeOf35 .nil))))
instance : TS 61 [Go.Value.int Go.IntKind.i64 0, Go.Value.int Go.IntKind.i64 0, Go.Value.int Go.IntKind.i64 0, Go.Value.int Go.IntKind.u64 0] [(0, 1), (1, 1), (2, 1), (3, 1)] := mkTS Tryz.zeroValue61 Tryz.underlying61 rfl (.cons Tryz.sizeOf3 (.cons Tryz.sizeOf3 (.cons Tryz.sizeOf3 (.cons Tryz.sizeOf35 .nil))))
instance : TS 107 [Go.Value.pointer Option.none, Go.Value.int Go.IntKind.i64 0, Go.Value.int Go.IntKind.i64 0] [(0, 1), (1, 1), (2, 1)] := mkTS Tryz.zeroValue107 Tryz.underlying107 rfl (.cons Tryz.sizeOf41 (.cons Tryz.sizeOf3 (.cons Tryz.sizeOf26 .nil)))
instance : TS 108 [Go.Value.pointer Option.none, Go.Value.int Go.IntKind.i64 0, Go.Value.int Go.IntKind.i64 0] [(0, 1), (1, 1), (2, 1)] := mkTS Tryz.zeroValue108 Tryz.underlying108 rfl (.cons Tryz.sizeOf41 (.cons Tryz.sizeOf3 (.cons Tryz.sizeOf26 .nil)))
instance : TS 113 [Go.Value.bool Bool.false, Go.Value.slice Option.none 0 0, Go.Value.slice Option.none 0 0, Go.Value.slice Option.none 0 0] [(0, 1), (1, 1), (2, 1), (3, 1)] := mkTS Tryz.zeroValue113 Tryz.underlying113 rfl (.cons Tryz.sizeOf4 (.cons Tryz.sizeOf111 (.cons Tryz.sizeOf112 (.cons Tryz.sizeOf22 .nil))))
instance : TS 114 [Go.Value.bool Bool.false, Go.Value.slice Option.none 0 0, Go.Value.slice Option.none 0 0, Go.Value.slice Option.none 0 0] [(0, 1), (1, 1), (2, 1), (3, 1)] := mkTS Tryz.zeroValue114 Tryz.underlying114 rfl (.cons Tryz.sizeOf4 (.cons Tryz.sizeOf111 (.cons Tryz.sizeOf112 (.cons Tryz.sizeOf22 .nil))))
instance : TS 117 [Go.Value.int Go.IntKind.i64 0, Go.Value.bool Bool.false, Go.Value.slice Option.none 0 0, Go.Value.slice Option.none 0 0, Go.Value.slice Option.none 0 0, Go.Value.int Go.IntKind.i64 0] [(0, 1), (1, 4), (5, 1)] := mkTS Tryz.zeroValue117 Tryz.underlying117 rfl (.cons Tryz.sizeOf3 (.cons Tryz.sizeOf114 (.cons Tryz.sizeOf3 .nil)))
instance : TS 118 [Go.Value.int Go.IntKind.i64 0, Go.Value.bool Bool.false, Go.Value.slice Option.none 0 0, Go.Value.slice Option.none 0 0, Go.Value.slice Option.none 0 0, Go.Value.int Go.IntKind.i64 0] [(0, 1), (1, 4), (5, 1)] := mkTS Tryz.zeroValue118 Tryz.underlying118 rfl (.cons Tryz.sizeOf3 (.cons Tryz.sizeOf114 (.cons Tryz.sizeOf3 .nil)))
instance : TS 128 [Go.Value.slice Option.none 0 0] [(0, 1)] := mkTS Tryz.zeroValue128 Tryz.underlying128 rfl (.cons Tryz.sizeOf127 .nil)
instance : TS 129 [Go.Value.slice Option.none 0 0] [(0, 1)] := mkTS Tryz.zeroValue129 Tryz.underlying129 rfl (.cons Tryz.sizeOf127 .nil)
instance : TS 137 [Go.Value.slice Option.none 0 0] [(0, 1)] := mkTS Tryz.zeroValue137 Tryz.underlying137 rfl (.cons Tryz.sizeOf136 .nil)
instance : TS 138 [Go.Value.slice Option.none 0 0] [(0, 1)] := mkTS Tryz.zeroValue138 Tryz.underlying138 rfl (.cons Tryz.sizeOf136 .nil)
instance : TS 140 [Go.Value.int Go.IntKind.i64 0, Go.Value.int Go.IntKind.i64 0] [(0, 1), (1, 1)] := mkTS Tryz.zeroValue140 Tryz.underlying140 rfl (.cons Tryz.sizeOf3 (.cons Tryz.sizeOf3 .nil))
instance : TS 141 [Go.Value.int Go.IntKind.i64 0, Go.Value.int Go.IntKind.i64 0] [(0, 1), (1, 1)] := mkTS Tryz.zeroValue141 Tryz.underlying141 rfl (.cons Tryz.sizeOf3 (.cons Tryz.sizeOf3 .nil))
instance : TS 149 [Go.Value.int Go.IntKind.i64 0, Go.Value.int Go.IntKind.i64 0, Go.Value.string { data := #[] }] [(0, 1), (1, 1), (2, 1)] := mkTS Tryz.zeroValue149 Tryz.underlying149 rfl (.cons Tryz.sizeOf3 (.cons Tryz.sizeOf3 (.cons Tryz.sizeOf9 .nil)))
instance : TS 150 [Go.Value.int Go.IntKind.i64 0, Go.Value.int Go.IntKind.i64 0, Go.Value.string { data := #[] }] [(0, 1), (1, 1), (2, 1)] := mkTS Tryz.zeroValue150 Tryz.underlying150 rfl (.cons Tryz.sizeOf3 (.cons Tryz.sizeOf3 (.cons Tryz.sizeOf9 .nil)))
instance : TS 152 [Go.Value.pointer Option.none, Go.Value.int Go.IntKind.i64 0, Go.Value.int Go.IntKind.i64 0, Go.Value.string { data := #[] }, Go.Value.map Option.none, Go.Value.map Option.none, Go.Value.bool Bool.false] [(0, 1), (1, 3), (4, 1), (5, 1), (6, 1)] := mkTS Tryz.zeroValue152 Tryz.underlying152 rfl (.cons Tryz.sizeOf39 (.cons Tryz.sizeOf150 (.cons Tryz.sizeOf151 (.cons Tryz.sizeOf151 (.cons Tryz.sizeOf4 .nil)))))
instance : TS 153 [Go.Value.pointer Option.none, Go.Value.int Go.IntKind.i64 0, Go.Value.int Go.IntKind.i64 0, Go.Value.string { data := #[] }, Go.Value.map Option.none, Go.Value.map Option.none, Go.Value.bool Bool.false] [(0, 1), (1, 3), (4, 1), (5, 1), (6, 1)] := mkTS Tryz.zeroValue153 Tryz.underlying153 rfl (.cons Tryz.sizeOf39 (.cons Tryz.sizeOf150 (.cons Tryz.sizeOf151 (.cons Tryz.sizeOf151 (.cons Tryz.sizeOf4 .nil)))))
instance : TS 164 [Go.Value.pointer Option.none, Go.Value.int Go.IntKind.i64 0, Go.Value.int Go.IntKind.i64 0, Go.Value.bool Bool.false] [(0, 1), (1, 1), (2, 1), (3, 1)] := mkTS Tryz.zeroValue164 Tryz.underlying164 rfl (.cons Tryz.sizeOf41 (.cons Tryz.sizeOf3 (.cons Tryz.sizeOf26 (.cons Tryz.sizeOf4 .nil))))
instance : TS 165 [Go.Value.pointer Option.none, Go.Value.int Go.IntKind.i64 0, Go.Value.int Go.IntKind.i64 0, Go.Value.bool Bool.false] [(0, 1), (1, 1), (2, 1), (3, 1)] := mkTS Tryz.zeroValue165 Tryz.underlying165 rfl (.cons Tryz.sizeOf41 (.cons Tryz.sizeOf3 (.cons Tryz.sizeOf26 (.cons Tryz.sizeOf4 .nil))))
instance : TS 182 [Go.Value.slice Option.none 0 0, Go.Value.map Option.none, Go.Value.slice Option.none 0 0, Go.Value.int Go.IntKind.i64 0, Go.Value.bool Bool.false] [(0, 1), (1, 1), (2, 1), (3, 1), (4, 1)] := mkTS Tryz.zeroValue182 Tryz.underlying182 rfl (.cons Tryz.sizeOf112 (.cons Tryz.sizeOf181 (.cons Tryz.sizeOf22 (.cons Tryz.sizeOf3 (.cons Tryz.sizeOf4 .nil)))))
instance : TS 183 [Go.Value.slice Option.none 0 0, Go.Value.map Option.none, Go.Value.slice Option.none 0 0, Go.Value.int Go.IntKind.i64 0, Go.Value.bool Bool.false] [(0, 1), (1, 1), (2, 1), (3, 1), (4, 1)] := mkTS Tryz.zeroValue183 Tryz.underlying183 rfl (.cons Tryz.sizeOf112 (.cons Tryz.sizeOf181 (.cons Tryz.sizeOf22 (.cons Tryz.sizeOf3 (.cons Tryz.sizeOf4 .nil)))))
instance : TS 191 [Go.Value.pointer Option.none, Go.Value.int Go.IntKind.i64 0, Go.Value.int Go.IntKind.i64 0, Go.Value.string { data := #[] }, Go.Value.string { data := #[] }, Go.Value.string { data := #[] }, Go.Value.bool Bool.false] [(0, 1), (1, 1), (2, 1), (3, 1), (4, 1), (5, 1), (6, 1)] := mkTS Tryz.zeroValue191 Tryz.underlying191 rfl (.cons Tryz.sizeOf40 (.cons Tryz.sizeOf3 (.cons Tryz.sizeOf3 (.cons Tryz.sizeOf9 (.cons Tryz.sizeOf9 (.cons Tryz.sizeOf9 (.cons Tryz.sizeOf4 .nil)))))))
instance : TS 192 [Go.Value.pointer Option.none, Go.Value.int Go.IntKind.i64 0, Go.Value.int Go.IntKind.i64 0, Go.Value.string { data := #[] }, Go.Value.string { data := #[] }, Go.Value.string { data := #[] }, Go.Value.bool Bool.false] [(0, 1), (1, 1), (2, 1), (3, 1), (4, 1), (5, 1), (6, 1)] := mkTS Tryz.zeroValue192 Tryz.underlying192 rfl (.cons Tryz.sizeOf40 (.cons Tryz.sizeOf3 (.cons Tryz.sizeOf3 (.cons Tryz.sizeOf9 (.cons Tryz.sizeOf9 (.cons Tryz.sizeOf9 (.cons Tryz.sizeOf4 .nil)))))))
instance : TS 211 [Go.Value.int Go.IntKind.i64 0, Go.Value.int Go.IntKind.i64 0, Go.Value.int Go.IntKind.i64 0, Go.Value.int Go.IntKind.u64 0, Go.Value.int Go.IntKind.i64 0] [(0, 4), (4, 1)] := mkTS Tryz.zeroValue211 Tryz.underlying211 rfl (.cons Tryz.sizeOf61 (.cons Tryz.sizeOf26 .nil))
instance : TS 212 [Go.Value.int Go.IntKind.i64 0, Go.Value.int Go.IntKind.i64 0, Go.Value.int Go.IntKind.i64 0, Go.Value.int Go.IntKind.u64 0, Go.Value.int Go.IntKind.i64 0] [(0, 4), (4, 1)] := mkTS Tryz.zeroValue212 Tryz.underlying212 rfl (.cons Tryz.sizeOf61 (.cons Tryz.sizeOf26 .nil))
instance : TS 215 [Go.Value.string { data := #[] }, Go.Value.bool Bool.false] [(0, 1), (1, 1)] := mkTS Tryz.zeroValue215 Tryz.underlying215 rfl (.cons Tryz.sizeOf9 (.cons Tryz.sizeOf4 .nil))
instance : TS 216 [Go.Value.string { data := #[] }, Go.Value.bool Bool.false] [(0, 1), (1, 1)] := mkTS Tryz.zeroValue216 Tryz.underlying216 rfl (.cons Tryz.sizeOf9 (.cons Tryz.sizeOf4 .nil))
instance : TS 219 [Go.Value.int Go.IntKind.i64 0, Go.Value.int Go.IntKind.i64 0, Go.Value.int Go.IntKind.i64 0, Go.Value.int Go.IntKind.u64 0] [(0, 4)] := mkTS Tryz.zeroValue219 Tryz.underlying219 rfl (.cons Tryz.sizeOf61 .nil)
instance : TS 220 [Go.Value.int Go.IntKind.i64 0, Go.Value.int Go.IntKind.i64 0, Go.Value.int Go.IntKind.i64 0, Go.Value.int Go.IntKind.u64 0] [(0, 4)] := mkTS Tryz.zeroValue220 Tryz.underlying220 rfl (.cons Tryz.sizeOf61 .nil)
instance : TS 229 [Go.Value.pointer Option.none, Go.Value.slice Option.none 0 0] [(0, 1), (1, 1)] := mkTS Tryz.zeroValue229 Tryz.underlying229 rfl (.cons Tryz.sizeOf228 (.cons Tryz.sizeOf67 .nil))
instance : TS 230 [Go.Value.pointer Option.none, Go.Value.slice Option.none 0 0] [(0, 1), (1, 1)] := mkTS Tryz.zeroValue230 Tryz.underlying230 rfl (.cons Tryz.sizeOf228 (.cons Tryz.sizeOf67 .nil))
instance : TS 237 [Go.Value.slice Option.none 0 0, Go.Value.slice Option.none 0 0, Go.Value.int Go.IntKind.i64 0, Go.Value.bool Bool.false] [(0, 1), (1, 1), (2, 1), (3, 1)] := mkTS Tryz.zeroValue237 Tryz.underlying237 rfl (.cons Tryz.sizeOf112 (.cons Tryz.sizeOf236 (.cons Tryz.sizeOf3 (.cons Tryz.sizeOf4 .nil))))
instance : TS 238 [Go.Value.slice Option.none 0 0, Go.Value.slice Option.none 0 0, Go.Value.int Go.IntKind.i64 0, Go.Value.bool Bool.false] [(0, 1), (1, 1), (2, 1), (3, 1)] := mkTS Tryz.zeroValue238 Tryz.underlying238 rfl (.cons Tryz.sizeOf112 (.cons Tryz.sizeOf236 (.cons Tryz.sizeOf3 (.cons Tryz.sizeOf4 .nil))))
instance : TS 248 [Go.Value.string { data := #[] }, Go.Value.bool Bool.false] [(0, 1), (1, 1)] := mkTS Tryz.zeroValue248 Tryz.underlying248 rfl (.cons Tryz.sizeOf9 (.cons Tryz.sizeOf4 .nil))
instance : TS 249 [Go.Value.string { data := #[] }, Go.Value.bool Bool.false] [(0, 1), (1, 1)] := mkTS Tryz.zeroValue249 Tryz.underlying249 rfl (.cons Tryz.sizeOf9 (.cons Tryz.sizeOf4 .nil))
instance : TS 273 [Go.Value.int Go.IntKind.i64 0, Go.Value.string { data := #[] }] [(0, 1), (1, 1)] := mkTS Tryz.zeroValue273 Tryz.underlying273 rfl (.cons Tryz.sizeOf3 (.cons Tryz.sizeOf9 .nil))
instance : TS 274 [Go.Value.int Go.IntKind.i64 0, Go.Value.string { data := #[] }] [(0, 1), (1, 1)] := mkTS Tryz.zeroValue274 Tryz.underlying274 rfl (.cons Tryz.sizeOf3 (.cons Tryz.sizeOf9 .nil))
instance : TS 286 [Go.Value.string { data := #[] }] [(0, 1)] := mkTS Tryz.zeroValue286 Tryz.underlying286 rfl (.cons Tryz.sizeOf9 .nil)
instance : TS 287 [Go.Value.string { data := #[] }] [(0, 1)] := mkTS Tryz.zeroValue287 Tryz.underlying287 rfl (.cons Tryz.sizeOf9 .nil)
instance : TS 288 [Go.Value.int Go.IntKind.i64 0, Go.Value.int Go.IntKind.i64 0, Go.Value.int Go.IntKind.i64 0, Go.Value.int Go.IntKind.i64 0, Go.Value.int Go.IntKind.i64 0, Go.Value.int Go.IntKind.i64 0, Go.Value.int Go.IntKind.i64 0, Go.Value.int Go.IntKind.i64 0, Go.Value.int Go.IntKind.i64 0, Go.Value.bool Bool.false] [(0, 1), (1, 1), (2, 1), (3, 1), (4, 1), (5, 1), (6, 1), (7, 1), (8, 1), (9, 1)] := mkTS Tryz.zeroValue288 Tryz.underlying288 rfl (.cons Tryz.sizeOf3 (.cons Tryz.sizeOf3 (.cons Tryz.sizeOf3 (.cons Tryz.sizeOf3 (.cons Tryz.sizeOf3 (.cons Tryz.sizeOf3 (.cons Tryz.sizeOf3 (.cons Tryz.sizeOf3 (.cons Tryz.sizeOf3 (.cons Tryz.sizeOf4 .nil))))))))))
instance : TS 289 [Go.Value.int Go.IntKind.i64 0, Go.Value.int Go.IntKind.i64 0, Go.Value.int Go.IntKind.i64 0, Go.Value.int Go.IntKind.i64 0, Go.Value.int Go.IntKind.i64 0, Go.Value.int Go.IntKind.i64 0, Go.Value.int Go.IntKind.i64 0, Go.Value.int Go.IntKind.i64 0, Go.Value.int Go.IntKind.i64 0, Go.Value.bool Bool.false] [(0, 1), (1, 1), (2, 1), (3, 1), (4, 1), (5, 1), (6, 1), (7, 1), (8, 1), (9, 1)] := mkTS Tryz.zeroValue289 Tryz.underlying289 rfl (.cons Tryz.sizeOf3 (.cons Tryz.sizeOf3 (.cons Tryz.sizeOf3 (.cons Tryz.sizeOf3 (.cons Tryz.sizeOf3 (.cons Tryz.sizeOf3 (.cons Tryz.sizeOf3 (.cons Tryz.sizeOf3 (.cons Tryz.sizeOf3 (.cons Tryz.sizeOf4 .nil))))))))))
instance : TS 290 [Go.Value.int Go.IntKind.i64 0, Go.Value.int Go.IntKind.i64 0, Go.Value.int Go.IntKind.i64 0, Go.Value.int Go.IntKind.i64 0, Go.Value.int Go.IntKind.i64 0, Go.Value.int Go.IntKind.i64 0, Go.Value.int Go.IntKind.i64 0, Go.Value.int Go.IntKind.i64 0, Go.Value.int Go.IntKind.i64 0, Go.Value.bool Bool.false] [(0, 10)] := mkTS Tryz.zeroValue290 Tryz.underlying290 rfl (.cons Tryz.sizeOf289 .nil)
instance : TS 291 [Go.Value.int Go.IntKind.i64 0, Go.Value.int Go.IntKind.i64 0, Go.Value.int Go.IntKind.i64 0, Go.Value.int Go.IntKind.i64 0, Go.Value.int Go.IntKind.i64 0, Go.Value.int Go.IntKind.i64 0, Go.Value.int Go.IntKind.i64 0, Go.Value.int Go.IntKind.i64 0, Go.Value.int Go.IntKind.i64 0, Go.Value.bool Bool.false] [(0, 10)] := mkTS Tryz.zeroValue291 Tryz.underlying291 rfl (.cons Tryz.sizeOf289 .nil)
instance : TS 293 [Go.Value.int Go.IntKind.i64 0, Go.Value.string { data := #[] }, Go.Value.int Go.IntKind.i64 0, Go.Value.int Go.IntKind.i64 0] [(0, 1), (1, 1), (2, 1), (3, 1)] := mkTS Tryz.zeroValue293 Tryz.underlying293 rfl (.cons Tryz.sizeOf3 (.cons Tryz.sizeOf9 (.cons Tryz.sizeOf3 (.cons Tryz.sizeOf3 .nil))))
instance : TS 294 [Go.Value.int Go.IntKind.i64 0, Go.Value.string { data := #[] }, Go.Value.int Go.IntKind.i64 0, Go.Value.int Go.IntKind.i64 0] [(0, 1), (1, 1), (2, 1), (3, 1)] := mkTS Tryz.zeroValue294 Tryz.underlying294 rfl (.cons Tryz.sizeOf3 (.cons Tryz.sizeOf9 (.cons Tryz.sizeOf3 (.cons Tryz.sizeOf3 .nil))))
instance : TS 295 [Go.Value.int Go.IntKind.i64 0, Go.Value.string { data := #[] }, Go.Value.int Go.IntKind.i64 0, Go.Value.int Go.IntKind.i64 0] [(0, 4)] := mkTS Tryz.zeroValue295 Tryz.underlying295 rfl (.cons Tryz.sizeOf294 .nil)
instance : TS 296 [Go.Value.int Go.IntKind.i64 0, Go.Value.string { data := #[] }, Go.Value.int Go.IntKind.i64 0, Go.Value.int Go.IntKind.i64 0] [(0, 4)] := mkTS Tryz.zeroValue296 Tryz.underlying296 rfl (.cons Tryz.sizeOf294 .nil)
instance : TS 323 [Go.Value.pointer Option.none, Go.Value.pointer Option.none, Go.Value.pointer Option.none, Go.Value.string { data := #[] }] [(0, 1), (1, 1), (2, 1), (3, 1)] := mkTS Tryz.zeroValue323 Tryz.underlying323 rfl (.cons Tryz.sizeOf17 (.cons Tryz.sizeOf17 (.cons Tryz.sizeOf17 (.cons Tryz.sizeOf9 .nil))))
instance : TS 324 [Go.Value.pointer Option.none, Go.Value.pointer Option.none, Go.Value.pointer Option.none, Go.Value.string { data := #[] }] [(0, 1), (1, 1), (2, 1), (3, 1)] := mkTS Tryz.zeroValue324 Tryz.underlying324 rfl (.cons Tryz.sizeOf17 (.cons Tryz.sizeOf17 (.cons Tryz.sizeOf17 (.cons Tryz.sizeOf9 .nil))))
instance : TS 326 [] [(0, 0)] := mkTS Tryz.zeroValue326 Tryz.underlying326 rfl (.cons Tryz.sizeOf325 .nil)
instance : TS 327 [] [(0, 0)] := mkTS Tryz.zeroValue327 Tryz.underlying327 rfl (.cons Tryz.sizeOf325 .nil)
instance : TS 333 [Go.Value.int Go.IntKind.u64 0, Go.Value.int Go.IntKind.u64 0, Go.Value.int Go.IntKind.u32 0, Go.Value.int Go.IntKind.u8 0, Go.Value.int Go.IntKind.u8 0, Go.Value.int Go.IntKind.u8 0, Go.Value.int Go.IntKind.u8 0, Go.Value.nilFunc, Go.Value.pointer Option.none, Go.Value.int Go.IntKind.i32 0, Go.Value.int Go.IntKind.i32 0] [(0, 1), (1, 1), (2, 1), (3, 1), (4, 1), (5, 1), (6, 1), (7, 1), (8, 1), (9, 1), (10, 1)] := mkTS Tryz.zeroValue333 Tryz.underlying333 rfl (.cons Tryz.sizeOf12 (.cons Tryz.sizeOf12 (.cons Tryz.sizeOf59 (.cons Tryz.sizeOf328 (.cons Tryz.sizeOf5 (.cons Tryz.sizeOf5 (.cons Tryz.sizeOf329 (.cons Tryz.sizeOf330 (.cons Tryz.sizeOf270 (.cons Tryz.sizeOf331 (.cons Tryz.sizeOf332 .nil)))))))))))
instance : TS 334 [Go.Value.int Go.IntKind.u64 0, Go.Value.int Go.IntKind.u64 0, Go.Value.int Go.IntKind.u32 0, Go.Value.int Go.IntKind.u8 0, Go.Value.int Go.IntKind.u8 0, Go.Value.int Go.IntKind.u8 0, Go.Value.int Go.IntKind.u8 0, Go.Value.nilFunc, Go.Value.pointer Option.none, Go.Value.int Go.IntKind.i32 0, Go.Value.int Go.IntKind.i32 0] [(0, 1), (1, 1), (2, 1), (3, 1), (4, 1), (5, 1), (6, 1), (7, 1), (8, 1), (9, 1), (10, 1)] := mkTS Tryz.zeroValue334 Tryz.underlying334 rfl (.cons Tryz.sizeOf12 (.cons Tryz.sizeOf12 (.cons Tryz.sizeOf59 (.cons Tryz.sizeOf328 (.cons Tryz.sizeOf5 (.cons Tryz.sizeOf5 (.cons Tryz.sizeOf329 (.cons Tryz.sizeOf330 (.cons Tryz.sizeOf270 (.cons Tryz.sizeOf331 (.cons Tryz.sizeOf332 .nil)))))))))))
instance : TS 341 [Go.Value.int Go.IntKind.i64 0, Go.Value.int Go.IntKind.u64 0, Go.Value.string { data := #[] }, Go.Value.int Go.IntKind.i64 0, Go.Value.int Go.IntKind.i64 0] [(0, 1), (1, 1), (2, 1), (3, 1), (4, 1)] := mkTS Tryz.zeroValue341 Tryz.underlying341 rfl (.cons Tryz.sizeOf3 (.cons Tryz.sizeOf35 (.cons Tryz.sizeOf9 (.cons Tryz.sizeOf3 (.cons Tryz.sizeOf3 .nil)))))
instance : TS 342 [Go.Value.int Go.IntKind.i64 0, Go.Value.int Go.IntKind.u64 0, Go.Value.string { data := #[] }, Go.Value.int Go.IntKind.i64 0, Go.Value.int Go.IntKind.i64 0] [(0, 1), (1, 1), (2, 1), (3, 1), (4, 1)] := mkTS Tryz.zeroValue342 Tryz.underlying342 rfl (.cons Tryz.sizeOf3 (.cons Tryz.sizeOf35 (.cons Tryz.sizeOf9 (.cons Tryz.sizeOf3 (.cons Tryz.sizeOf3 .nil)))))
end Go.Proofs.YtbdhhedfplkidaaGreat
/- Slices that are owned: their elements read where they lie; appended to. Calls of function values. -/
namespace Go.Proofs.YtbdhhedfplkidaaGreat
open Go
/-- The slice of n elements that begins at the head of block a. -/
abbrev sv (a : Option Nat) (n cap : Nat) : Value := .slice (a.map fun g => ⟨g, 0, none⟩) n cap
class Sk (H : HProp) (a : Option Nat) (E : TypeId) (kk n cap : outParam Nat) (xs : outParam (List Value)) (R : outParam HProp) : Prop where
  eq : H = (slck kk E (sv a n cap) n xs • R)
instance (priority := 1000) skHead (a : Option Nat) (kk n cap : Nat) (E : TypeId) (xs : List Value) (R : HProp) : Sk (slck kk E (sv a n cap) n xs • R) a E kk n cap xs R := ⟨rfl⟩
instance (priority := 500) skTail (a : Option Nat) (kk n cap : Nat) (E : TypeId) (xs : List Value) (B H R : HProp) [h : Sk H a E kk n cap xs R] : Sk (B • H) a E kk n cap xs (B • R) := ⟨by rw [h.eq, sep_left_comm']⟩
instance (priority := 900) skLast (a : Option Nat) (kk n cap : Nat) (E : TypeId) (xs : List Value) : Sk (slck kk E (sv a n cap) n xs) a E kk n cap xs emp := ⟨by rw [sep_comm', emp_sep]⟩
theorem SL.skv {c w : World} {R : HProp} {kk n cap : Nat} {E : TypeId} {a : Option Nat} {xs : List Value} (h : SL c (slck kk E (sv a n cap) n xs • R) w) :
    xs.length = n * kk ∧ n ≤ cap ∧ cap ≤ maxLen ∧ ((a = none ∧ n = 0 ∧ cap = 0) ∨ ∃ g sp, a = some g ∧ (xs ++ sp).length = cap * kk ∧ SL c (row g E (xs ++ sp) • R) w) := by
  obtain ⟨hl, h⟩ := h.slckE
  refine ⟨hl, ?_⟩
  rcases h with ⟨hv, hn, _⟩ | ⟨g, cp, sp, hv, h1, h2, h3, h4⟩
  · cases a with
    | none => simp [sv] at hv; subst hn; obtain ⟨h1, h2⟩ := hv; exact ⟨by omega, by omega, .inl ⟨rfl, rfl, by omega⟩⟩
    | some g => simp [sv] at hv
  · cases a with
    | none => simp [sv] at hv
    | some g' =>
      simp only [sv, Option.map_some, Value.slice.injEq, Option.some.injEq, Addr.mk.injEq, and_true] at hv
      obtain ⟨hg, _, hc⟩ := hv
      subst hg hc
      exact ⟨h1, h2, .inr ⟨g', sp, rfl, h3, h4⟩⟩
theorem SL.sk_cell {c w : World} {R : HProp} {kk n cap : Nat} {E : TypeId} {a : Option Nat} {xs : List Value} (h : SL c (slck kk E (sv a n cap) n xs • R) w) (j : Nat) (u : Value) (hj : xs[j]? = some u) : w.cell? ⟨a.getD 0, j, none⟩ = some u := by
  obtain ⟨hl, h1, h2, h3⟩ := h.skv
  rcases h3 with ⟨_, hn, _⟩ | ⟨g, sp, rfl, _, h4⟩
  · rw [hn, Nat.zero_mul] at hl
    rw [List.eq_nil_of_length_eq_zero hl] at hj; simp at hj
  · have := SL.rcell h4 j
    simp only [Option.getD_some]
    rw [this, List.getElem?_append_left (List.getElem?_eq_some_iff.1 hj).1]
    exact hj
theorem skv_nil (kk : Nat) (E : TypeId) : slck kk E (sv none 0 0) 0 [] = emp := slck_nil kk E
section
variable {c : World} {Q : Exit → Act → World → Prop} {n : Nat} {l : List (Nat × Value)} {H R : HProp} {ks : List Kn}
variable {q q1 q2 : Md} {all : Array Oper} {o : Oper} {rest : List Oper} {d : Nat} {v : Value}
/-- &xs[i], xs owned -/
theorem W.idxk [hNL : NL q1 q2] {t e : TypeId} {x y : Operand} {z : Value} {s kk m cap : Nat} {ag : Bool} {a : Option Nat} {kd : IntKind} {i : Int} {xs : List Value} (hg : o.guard = none) (hd : o.dst = some d) (hn : Nat.blt d n = true) (ho : o.op = .indexAddr t x y) [ht : TD t (.slice e)] [ti : TI e z s ag]
    (hx : ev l x = some (sv a m cap)) (hy : ev l y = some (.int kd i)) [hk : Sk H a e kk m cap xs R] (h0 : 0 ≤ i) (h1 : i < m)
    (k : WS c Q n (.ops q2 all rest ks) ((d, .pointer (some ⟨a.getD 0, i.toNat * s, none⟩)) :: l) H) : WS c Q n (.ops q1 all (o :: rest) ks) l H := by
  refine W.val hg hd hn (fun ac w hf hs => ?_) k
  rw [hk.eq] at hs
  obtain ⟨_, _, _, h3⟩ := hs.skv
  rcases h3 with ⟨_, hz, _⟩ | ⟨g, sp, rfl, _, _⟩
  · omega
  · simp [execOp, ho, hf.eval hx, hf.eval hy, Instr.indexAt, run_underlying ht.eq, asIntOf, h0, h1, ti.size, sv, add_none]
/-- A load of an element's cell. -/
theorem W.ldk [hNL : NL q1 q2] {t : TypeId} {x : Operand} {z : Value} {i kk m cap : Nat} {a : Option Nat} {xs : List Value} (hg : o.guard = none) (hd : o.dst = some d) (hn : Nat.blt d n = true) (ho : o.op = .load t x) [ti : TI t z 1 false]
    (hx : ev l x = some (.pointer (some ⟨a.getD 0, i, none⟩))) [hk : Sk H a t kk m cap xs R] (hv : xs[i]? = some v) (k : WS c Q n (.ops q2 all rest ks) ((d, v) :: l) H) : WS c Q n (.ops q1 all (o :: rest) ks) l H := by
  refine W.val hg hd hn (fun ac w hf hs => ?_) k
  rw [hk.eq] at hs
  have hc := hs.sk_cell i v hv
  simp [execOp, ho, hf.eval hx, Instr.loadAt, Instr.sureAddr, loadVar, ti.agg, hc]
theorem owns_sv {w : World} {base : Nat} {e : TypeId} {kk n : Nat} {v : Value} {xs : List Value} (h : w.ownsRow base e kk v n xs) : ∃ a cap, v = sv a n cap := by
  rcases h.2 with ⟨h1, h2⟩ | ⟨g, cap, cur, h1, _⟩
  · exact ⟨none, 0, by rw [h1, h2]; rfl⟩
  · exact ⟨some g, cap, by rw [h1]; rfl⟩
/-- append of a row's elements to a slice of one's own -/
theorem W.appk [NX q1 q2] {t e : TypeId} {x y : Operand} {z : Value} {i : TypeInfo} {kk by' : Nat} {a : Option Nat} {cap g m cp n' : Nat} {E : TypeId} {xs news : List Value} {H2 : HProp}
    (hg : o.guard = none) (hd : o.dst = some d) (hn : Nat.blt d n = true) (ho : o.op = .call { callee := .builtin .append, args := #[x, y], argTypes := #[t, t] }) [ht : TD t (.slice e)] [tb : TB e i z kk by']
    (hcl : z.cells.size = kk) (hk : Nat.blt 0 kk = true) (hx : ev l x = some (sv a n' cap)) (hy : ev l y = some (.slice (some ⟨g, 0, none⟩) m cp))
    [hp : Sk H a e kk n' cap xs R] [hr : Rw R g E news H2] (hl : news.length = m * kk) [h1 : Ones news] (h2 : (n' + m) * by' ≤ 140737488355328) (h3 : n' + m ≤ 9223372036854775807)
    (k : ∀ a' cap', WS c Q n (.ops q2 all rest ks) ((d, sv a' (n' + m) cap') :: l) (slck kk e (sv a' (n' + m) cap') (n' + m) (xs ++ news) • R)) : WS c Q n (.ops q1 all (o :: rest) ks) l H := by
  refine W.valw (σ := Option Nat × Nat) (val := fun p => sv p.1 (n' + m) p.2) (K := fun p => slck kk e (sv p.1 (n' + m) p.2) (n' + m) (xs ++ news) • R) hg hd hn (fun ac w hf hs' => ?_) (fun p => k p.1 p.2)
  have hk : 0 < kk := Nat.le_of_ble_eq_true hk
  have h3 : n' + m ≤ maxLen := by simpa [maxLen] using h3
  rw [hp.eq] at hs'
  have hs2 := hs'
  rw [sep_comm', hr.eq, sep_assoc'] at hs2
  have hnews : ∀ (j : Nat) (u : Value), news[j]? = some u → w.cell? ((⟨g, 0, none⟩ : Addr).add j) = some u := fun j u hu => by
    rw [add_none, hs2.rcell, Nat.zero_add]; exact hu
  obtain ⟨v', w', r1, r2, r3, r4⟩ := run_append_own (P := Pg) w 0 t o.type e i z kk by' ht.eq tb.eq tb.zero tb.size tb.bytes hcl hk (sv a n' cap) n' xs hs'.owns ⟨g, 0, none⟩ m cp news hl hnews h1.one h3 h2 (Nat.zero_le _)
  have h5 := append_block t o.type e i z kk by' ht.eq tb.eq tb.zero tb.size tb.bytes hcl hk (sv a n' cap) v' n' xs hs'.owns ⟨g, 0, none⟩ m cp news hl hnews h1.one h3 h2 r1
  obtain ⟨a', cap', rfl⟩ := owns_sv r2
  refine ⟨(a', cap'), w', ?_, hs'.grown r2 r3 h5⟩
  simp [execOp, ho, resolve, hf.eval hx, hf.eval hy, invoke, builtin, r1]
/-- A function value with what it holds. -/
theorem W.mkf [hNL : NL q1 q2] {f : FuncId} {caps : Array Operand} {vs : List Value} (hg : o.guard = none) (hd : o.dst = some d) (hn : Nat.blt d n = true) (ho : o.op = .makeFunc (.func f) #[] caps)
    (hx : EvL l caps.toList vs) (k : WS c Q n (.ops q2 all rest ks) ((d, .func (.func f) #[] vs.toArray) :: l) H) : WS c Q n (.ops q1 all (o :: rest) ks) l H := by
  refine W.val hg hd hn (fun ac w hf hs => ?_) k
  have h1 : caps.map ac.eval = vs.toArray := by
    apply Array.toList_inj.1
    rw [Array.toList_map, hf.evalL hx]
  simp [execOp, ho, Instr.makeFunc, h1]
/-- A call of a function value. -/
theorem W.callv [NX q1 q2] {f : FuncId} {x : Operand} {args : List Operand} {vs caps : List Value} {ts : Array TypeId} {A : HProp} {Post : Value → HProp → Prop} (h : CS f (vs ++ caps) A Post)
    (hg : o.guard = none) (hd : o.dst = some d) (hn : Nat.blt d n = true) (ho : o.op = .call { callee := .value x, args := args.toArray, argTypes := ts }) (hf : ev l x = some (.func (.func f) #[] caps.toArray))
    (hc : ∀ (args : Array Value) (w : World), (callFunc f args).run Pg w = .ok (.enter f args) w) (hx : EvL l args vs) [ht : Take H A R]
    (k : ∀ v H', Post v H' → WS c Q n (.ops q2 all rest ks) ((d, v) :: l) (H' • R)) : WS c Q n (.ops q1 all (o :: rest) ks) l H := by
  refine W.base hg fun a w hfr hs K hK => ?_
  rw [ht.eq] at hs
  have hrun : (execOp a.eval o).run Pg w = .ok (.enter f (vs ++ caps).toArray) w := by
    simp only [execOp, ho, resolve, Sem.run_bind, hfr.eval hf, Deferred.ofValue, Sem.run_pure, Result.andThen_ok, invoke]
    rw [List.map_toArray, hfr.evalL hx]
    simp [hc]
  unfold Oper.wp
  rw [hrun]
  show Calls Pg f (vs ++ caps).toArray w _
  refine (h c R w hs).mono ?_
  rintro e w' ⟨v, H', hp, rfl, hs'⟩
  show K (a.put o.dst v) w'
  rw [hd]
  exact hK _ _ (k v H' hp) _ _ (hfr.put hn v) hs'
/-- The ways of a piece of code meet behind it. -/
def Met {σ : Type} (c : World) (n : Nat) (P : σ → Prop) (l' : σ → List (Nat × Value)) (H' : σ → HProp) (a : Act) (w : World) : Prop := ∃ x, P x ∧ Fr a n (l' x) ∧ SL c (H' x) w
theorem W.join {σ : Type} (P : σ → Prop) (l' : σ → List (Nat × Value)) (H' : σ → HProp) {y : Code} (k1 : WS c Q n (.code y (.inv (Met c n P l' H') :: ks)) l H) (k2 : ∀ x, P x → WS c Q n (.done .normal ks) (l' x) (H' x)) : WS c Q n (.code y ks) l H := by
  intro a w hf hs
  refine wp_mono (k1 a w hf hs) ?_
  intro e a' w' hq
  cases e with
  | normal => obtain ⟨x, h1, h2, h3⟩ := hq; exact k2 x h1 a' w' h2 h3
  | exit id => exact hq
  | goto l => exact hq
  | ret => exact hq
  | panic ch => exact hq
  | outgrown => exact hq
theorem W.meet {σ : Type} {P : σ → Prop} {l' : σ → List (Nat × Value)} {H' : σ → HProp} (x : σ) (hP : P x) (hs : Sub l (l' x)) (hH : Imp H (H' x)) :
    WS c Q n (.done .normal (.inv (Met c n P l' H') :: ks)) l H := fun _ _ hf h => ⟨x, hP, hf.sub hs, h.imp hH⟩
end
/-! ### results that lie in cells -/
def resOf (a : Act) : ResultVar → Sem Value
  | .tmp t => pure (a.tmps.getD t undef)
  | .cell p t => do loadVar t (← asAddr (a.tmps.getD p undef))
def RV1 (c : World) (n : Nat) (l : List (Nat × Value)) (H : HProp) (r : ResultVar) (v : Value) : Prop := ∀ a w, Fr a n l → SL c H w → (resOf a r).run Pg w = .ok v w
inductive RVL (c : World) (n : Nat) (l : List (Nat × Value)) (H : HProp) : List ResultVar → List Value → Prop
  | nil : RVL c n l H [] []
  | cons {r : ResultVar} {v : Value} {rs : List ResultVar} {vs : List Value} (h : RV1 c n l H r v) (t : RVL c n l H rs vs) : RVL c n l H (r :: rs) (v :: vs)
theorem run_addr (a : Addr) (w : World) : (asAddr (.pointer (some a))).run Pg w = .ok a w := rfl
def rvOf : List Value → Value
  | [v] => v
  | vs => .tuple vs.toArray
section
variable {c : World} {n : Nat} {l : List (Nat × Value)} {H R : HProp} {v : Value}
theorem RV1.tmp {t : Tmp} (hv : lk t l = some v) : RV1 c n l H (.tmp t) v := fun a w hf _ => by
  simp [resOf, Array.getD_eq_getD_getElem?, hf.slot t v hv]
theorem RV1.cell {p : Tmp} {t : TypeId} {z : Value} {b i : Nat} {E : TypeId} {cs : List Value} [ti : TI t z 1 false] (hp : lk p l = some (.pointer (some ⟨b, i, none⟩))) [hr : Rw H b E cs R] [hv : Nv cs i v] : RV1 c n l H (.cell p t) v := fun a w hf hs => by
  rw [hr.eq] at hs
  have h1 : a.tmps.getD p undef = .pointer (some ⟨b, i, none⟩) := by simp [Array.getD_eq_getD_getElem?, hf.slot p _ hp]
  simp [resOf, h1, run_addr, loadVar, ti.agg, hs.rcell, hv.eq]
theorem RV1.cells {p : Tmp} {t : TypeId} {z : Value} {b i s : Nat} {E : TypeId} {cs vs : List Value} [ti : TI t z s true] (hp : lk p l = some (.pointer (some ⟨b, i, none⟩))) [hr : Rw H b E cs R] [hv : Nvs cs i s vs] : RV1 c n l H (.cell p t) (.agg vs.toArray) := fun a w hf hs => by
  rw [hr.eq] at hs
  have h1 : a.tmps.getD p undef = .pointer (some ⟨b, i, none⟩) := by simp [Array.getD_eq_getD_getElem?, hf.slot p _ hp]
  have hl := run_loadCells_list (P := Pg) w ⟨b, i, none⟩ vs (fun j u hu => by
    rw [add_none, hs.rcell, hv.eq j (by have := List.getElem?_eq_some_iff.1 hu; have := this.1; have := hv.len; omega)]; exact hu)
  rw [hv.len] at hl
  simp [resOf, h1, run_addr, loadVar, ti.agg, ti.size, hl]
theorem RVL.run {rs : List ResultVar} {vs : List Value} (h : RVL c n l H rs vs) {a : Act} {w : World} (hf : Fr a n l) (hs : SL c H w) : (rs.mapM (resOf a)).run Pg w = .ok vs w := by
  induction h with
  | nil => simp only [List.mapM_nil, Sem.run_pure]
  | cons h t ih => simp only [List.mapM_cons, Sem.run_bind, h a w hf hs, ih, Result.andThen_ok, Sem.run_pure]
theorem W.rets {fn : Func} {Post : Value → HProp → Prop} {e : Ex} {rs : List ResultVar} {vs : List Value} (he : e = .normal ∨ e = .ret) (hr : fn.results = rs.toArray) (hv : RVL c n l H rs vs) (H' : HProp) (hp : Post (rvOf vs) H') (hi : Imp H (H' • R)) :
    WS c (bodyPost Pg fn fun e w' => ∃ v H', Post v H' ∧ e = .returned v ∧ SL c (H' • R) w') n (.done e []) l H :=
  fin_of he (fun a w hf hs => by
    have h1 := hv.run hf hs
    have h2 : (results fn a.tmps) = (do let vs ← rs.toArray.mapM (resOf a); pure (if h : vs.size = 1 then vs[0] else .tuple vs)) := by
      unfold results
      rw [hr]
      rfl
    rw [h2, List.mapM_toArray]
    simp only [map_eq_pure_bind, Sem.run_bind, h1, Result.andThen_ok, Sem.run_pure]
    match vs with
    | [] => rfl
    | [v] => rfl
    | _ :: _ :: _ => rfl) H' hp hi
end
end Go.Proofs.YtbdhhedfplkidaaGreat
/- Plain facts on numbers and lists of bytes. -/
namespace Go.Proofs.YtbdhhedfplkidaaGreat.M
open Go
theorem be_length : ∀ s n, (be s n).length = s
  | 0, _ => rfl
  | s + 1, n => by simp [be, be_length s]
theorem be_succ : ∀ s n, be (s + 1) n = UInt8.ofNat (n / 256 ^ s % 256) :: be s n
  | 0, n => by simp [be]
  | s + 1, n => by
    show be (s + 1) (n / 256) ++ [UInt8.ofNat (n % 256)] = _
    rw [be_succ s (n / 256), Nat.div_div_eq_div_mul, Nat.pow_succ, Nat.mul_comm 256]
    rfl
theorem be_byte (s i n : Nat) (h : i < s) (x : UInt8 → Value) (z : Value) : (List.replicate (s - i) z ++ (be i n).map x).set (s - 1 - i) (x (UInt8.ofNat (n / 256 ^ i % 256))) = List.replicate (s - (i + 1)) z ++ (be (i + 1) n).map x := by
  rw [show s - i = (s - (i + 1)) + 1 from by omega, List.replicate_succ', List.append_assoc, List.set_append_right _ _ (by simp; omega), be_succ]
  simp [show s - 1 - i - (s - (i + 1)) = 0 from by omega]
theorem be_lt (s n : Nat) : n / 256 ^ s = 0 ↔ n < 256 ^ s := Nat.div_eq_zero_iff_lt (Nat.pow_pos (by omega))
theorem fdiv_pow (m k : Nat) : (m : Int).fdiv (2 ^ k) = ((m / 2 ^ k : Nat) : Int) := by
  rw [Int.fdiv_eq_ediv_of_nonneg _ (by exact Int.le_of_lt (Int.pow_pos (by omega)))]
  rw [Int.natCast_ediv, Int.natCast_pow]; rfl
theorem u8_wrap (m : Nat) : IntKind.u8.wrap (m : Int) = ((UInt8.ofNat (m % 256)).toNat : Int) := by
  simp [IntKind.wrap, IntKind.bits, IntKind.signed]
theorem bin_shr (k : IntKind) {yk : IntKind} (t m j : Nat) (w : World) (hj : j ≤ k.bits) : (binOp .shr t (.int k m) (.int yk j)).run Pg w = .ok (.int k ((m / 2 ^ j : Nat) : Int)) w := by
  have h0 : ¬ ((j : Int) < 0) := by omega
  simp only [binOp, Op.shift, if_neg h0, Int.toNat_natCast, Nat.min_eq_left hj, fdiv_pow]
  rfl
def put (n : Nat) (size : Int) : Str × Int := if 1 ≤ size ∧ size ≤ 8 ∧ n < 256 ^ size.toNat then (be size.toNat n, 0) else ([], 1)
theorem bin_shl (k : IntKind) (t m j : Nat) (w : World) (hj : j ≤ k.bits) : (binOp .shl t (.int k m) (.int .u64 j)).run Pg w = .ok (.int k (k.wrap ((m * 2 ^ j : Nat) : Int))) w := by
  have h0 : ¬ ((j : Int) < 0) := by omega
  simp only [binOp, Op.shift, if_neg h0, Int.toNat_natCast, Nat.min_eq_left hj]
  rw [Int.natCast_mul, Int.natCast_pow]; rfl
theorem bin_shl64 (t m j : Nat) (w : World) (hj : j ≤ 64) (h : m * 2 ^ j < 18446744073709551616) : (binOp .shl t (.int .u64 m) (.int .u64 j)).run Pg w = .ok (.int .u64 ((m * 2 ^ j : Nat) : Int)) w := by
  rw [bin_shl .u64 t m j w hj]
  generalize m * 2 ^ j = x at *
  have : IntKind.u64.wrap (x : Int) = x := by simp [IntKind.wrap, IntKind.bits, IntKind.signed]; omega
  rw [this]
theorem bin_rem (k : IntKind) (t m j : Nat) (w : World) (hj : 0 < j) : (binOp .rem t (.int k m) (.int k j)).run Pg w = .ok (.int k ((m % j : Nat) : Int)) w := by
  have h0 : j ≠ 0 := by omega
  simp [binOp, Op.intDiv, h0, Int.tmod_eq_emod_of_nonneg]
theorem bin_quo (t m j : Nat) (w : World) (hj : 0 < j) (hm : m < 9223372036854775808) : (binOp .quo t (.int .i64 m) (.int .i64 j)).run Pg w = .ok (.int .i64 ((m / j : Nat) : Int)) w := by
  have h0 : j ≠ 0 := by omega
  have hle := Nat.div_le_self m j
  have hw : ∀ x : Nat, x ≤ m → IntKind.i64.wrap (x : Int) = x := fun x hx => by rw [IntKind.wrap_i64]; omega
  have hw := hw _ hle
  rw [Int.natCast_ediv] at hw
  simp [binOp, Op.intDiv, h0, Int.tdiv_eq_ediv_of_nonneg, hw]
theorem bin_or8 (t m b : Nat) (w : World) (hb : b < 256) (hm : m * 2 ^ 8 + b < 4294967296) : (binOp .or t (.int .u32 ((m * 2 ^ 8 : Nat) : Int)) (.int .u32 b)).run Pg w = .ok (.int .u32 ((m * 256 + b : Nat) : Int)) w := by
  have h1 : (m * 2 ^ 8) ||| b = m * 2 ^ 8 + b := by
    rw [← Nat.shiftLeft_eq, ← Nat.shiftLeft_add_eq_or_of_lt hb]
  have h2 : (BitVec.ofInt 32 ((m * 2 ^ 8 : Nat) : Int) ||| BitVec.ofInt 32 (b : Int)).toNat = m * 2 ^ 8 + b := by
    rw [BitVec.toNat_or, BitVec.toNat_ofInt, BitVec.toNat_ofInt]
    rw [← h1]
    congr 1 <;> omega
  have hw : IntKind.u32.wrap ((m * 256 + b : Nat) : Int) = ((m * 256 + b : Nat) : Int) := by simp [IntKind.wrap, IntKind.bits, IntKind.signed]; omega
  simp only [binOp, Op.intBits]
  show (if IntKind.u32 ≠ IntKind.u32 then _ else (pure (.int .u32 (IntKind.u32.wrap ((BitVec.ofInt 32 ((m * 2 ^ 8 : Nat) : Int) ||| BitVec.ofInt 32 (b : Int)).toNat : Int))) : Sem Value)).run Pg w = _
  rw [if_neg (by simp), h2, hw]
  rfl
theorem bin_shl32 (t m j : Nat) (w : World) (hj : j ≤ 32) (h : m * 2 ^ j < 4294967296) : (binOp .shl t (.int .u32 m) (.int .u64 j)).run Pg w = .ok (.int .u32 ((m * 2 ^ j : Nat) : Int)) w := by
  rw [bin_shl .u32 t m j w hj]
  generalize m * 2 ^ j = x at *
  have : IntKind.u32.wrap (x : Int) = x := by simp [IntKind.wrap, IntKind.bits, IntKind.signed]; omega
  rw [this]
theorem sum_lt (s : Str) : (s.foldl sumStep (1, 0)).1 < 65521 ∧ (s.foldl sumStep (1, 0)).2 < 65521 := by
  have : ∀ (s : Str) (p : Nat × Nat), p.1 < 65521 → p.2 < 65521 → (s.foldl sumStep p).1 < 65521 ∧ (s.foldl sumStep p).2 < 65521 := by
    intro s
    induction s with
    | nil => exact fun p h1 h2 => ⟨h1, h2⟩
    | cons x s ih => exact fun p _ _ => ih _ (Nat.mod_lt _ (by omega)) (Nat.mod_lt _ (by omega))
  exact this s _ (by omega) (by omega)
theorem and_bit (x j : Nat) : x &&& 2 ^ j = if x.testBit j then 2 ^ j else 0 := by
  apply Nat.eq_of_testBit_eq
  intro i
  rw [Nat.testBit_and, Nat.testBit_two_pow]
  by_cases h : j = i
  · subst h; cases hx : x.testBit j <;> simp
  · cases hx : x.testBit j <;> simp [h]
theorem bin_and_bit (t x j : Nat) (w : World) (hx : x < 256) (hj : j < 8) : (binOp .and t (.int .u8 x) (.int .u8 ((2 ^ j : Nat) : Int))).run Pg w = .ok (.int .u8 ((if x.testBit j then 2 ^ j else 0 : Nat) : Int)) w := by
  have hp : 2 ^ j ≤ 2 ^ 7 := Nat.pow_le_pow_right (by omega) (by omega)
  have h2 : (BitVec.ofInt 8 (x : Int) &&& BitVec.ofInt 8 ((2 ^ j : Nat) : Int)).toNat = if x.testBit j then 2 ^ j else 0 := by
    rw [BitVec.toNat_and, BitVec.toNat_ofInt, BitVec.toNat_ofInt, ← and_bit]
    generalize 2 ^ j = y at *
    congr 1 <;> omega
  have hw : IntKind.u8.wrap ((if x.testBit j then 2 ^ j else 0 : Nat) : Int) = ((if x.testBit j then 2 ^ j else 0 : Nat) : Int) := by
    generalize hm : (if x.testBit j then 2 ^ j else 0 : Nat) = m
    have : m < 256 := by rw [← hm]; split <;> omega
    simp [IntKind.wrap, IntKind.bits, IntKind.signed]; omega
  simp only [binOp, Op.intBits]
  show (if IntKind.u8 ≠ IntKind.u8 then _ else (pure (.int .u8 (IntKind.u8.wrap ((BitVec.ofInt 8 (x : Int) &&& BitVec.ofInt 8 ((2 ^ j : Nat) : Int)).toNat : Int))) : Sem Value)).run Pg w = _
  rw [if_neg (by simp), h2, hw]
  rfl
theorem bin_shl8 (t j : Nat) (w : World) (hj : j < 8) : (binOp .shl t (.int .u8 1) (.int .i64 j)).run Pg w = .ok (.int .u8 ((2 ^ j : Nat) : Int)) w := by
  have h0 : ¬ ((j : Int) < 0) := by omega
  have hp : 2 ^ j ≤ 2 ^ 7 := Nat.pow_le_pow_right (by omega) (by omega)
  simp only [binOp, Op.shift, if_neg h0, Int.toNat_natCast, IntKind.bits, Nat.min_eq_left (show j ≤ 8 by omega)]
  have hw : IntKind.u8.wrap (1 * 2 ^ j) = ((2 ^ j : Nat) : Int) := by
    rw [Int.one_mul]
    have : ((2 : Int) ^ j) = ((2 ^ j : Nat) : Int) := by rw [Int.natCast_pow]; rfl
    rw [this]
    generalize 2 ^ j = y at *
    simp [IntKind.wrap, IntKind.bits, IntKind.signed]; omega
  rw [hw]; rfl
theorem getI {α : Type} (l : List α) (i : Nat) (h : i < l.length) : l[((i : Nat) : Int).toNat]? = some l[i] := by simp [h]
def take (b : Str) (size : Int) : Nat × Str × Int :=
  if size < 1 ∨ 8 < size then (0, [], 1) else if (b.length : Int) < size then (0, [], 2) else (fromBe (b.take size.toNat), b.drop size.toNat, 0)
def text (s : Str) : Str × Int := if 255 < s.length then ([], 16) else (UInt8.ofNat s.length :: s, 0)
def takeText (b : Str) : Str × Str × Int :=
  match b with
  | [] => ([], [], 2)
  | n :: _ => if n.toNat ≥ b.length then ([], [], 2) else ((b.drop 1).take n.toNat, b.drop (n.toNat + 1), 0)
theorem fromBe_snoc (l : Str) (x : UInt8) : fromBe (l ++ [x]) = fromBe l * 256 + x.toNat := by simp [fromBe]
theorem fromBe_succ (b : Str) (i : Nat) (h : i < b.length) : fromBe (b.take (i + 1)) = fromBe (b.take i) * 256 + (b[i]).toNat := by
  rw [List.take_succ_eq_append_getElem h, fromBe_snoc]
theorem fromBe_lt (l : Str) : fromBe l < 256 ^ l.length := by
  have : ∀ n (l : Str), l.length = n → fromBe l < 256 ^ n := by
    intro n
    induction n with
    | zero => intro l h; have := List.eq_nil_of_length_eq_zero h; subst this; simp [fromBe]
    | succ n ih =>
      intro l h
      have hne : l ≠ [] := by intro e; subst e; simp at h
      rw [← List.dropLast_concat_getLast hne, fromBe_snoc]
      have := ih l.dropLast (by simp [h])
      have hx := (l.getLast hne).toNat_lt
      rw [Nat.pow_succ]; omega
  exact this _ l rfl
theorem sealBody_length (kind : Int) (text : Str) (h : text.length ≤ 240) : (sealBody kind text).length = 252 := by
  simp [sealBody]; omega
theorem sum_u32 (s : Str) : sum s < 4294967296 := by
  have := sum_lt s
  unfold sum; dsimp only; omega
theorem wrap_u8_small {x : Int} (h0 : 0 ≤ x) (h : x < 256) : IntKind.u8.wrap x = ((UInt8.ofNat x.toNat).toNat : Int) := by
  obtain ⟨m, rfl⟩ := Int.eq_ofNat_of_zero_le h0
  rw [u8_wrap, Nat.mod_eq_of_lt (by omega)]; rfl
theorem seal_cells (kind : Int) (text : Str) (z : Value) (h : text.length ≤ 240) (h0 : 0 ≤ kind) (h1 : kind < 256) (hz : z = u8 0) :
    setAll (((List.replicate 256 z).set (0 + (0 : Int).toNat * 1) (.int .u8 (IntKind.u8.wrap kind))).set (0 + (1 : Int).toNat * 1) (.int .u8 (IntKind.u8.wrap text.length))) (0 + (2 : Int).toNat * 1) (text.map u8) =
      (sealBody kind text).map u8 ++ (List.replicate 4 z ++ (be 0 (sum (sealBody kind text))).map u8) := by
  rw [setAll_eq _ _ _ (by simp only [List.length_set, List.length_replicate, List.length_map]; omega), wrap_u8_small h0 h1, wrap_u8_small (x := text.length) (by omega) (by omega)]
  subst hz
  have e : List.replicate 256 (u8 0) = u8 0 :: u8 0 :: List.replicate 254 (u8 0) := rfl
  rw [e]
  simp only [Int.toNat_zero, Nat.zero_mul, Nat.add_zero, List.set_cons_zero, show (0 : Nat) + (1 : Int).toNat * 1 = 0 + 1 from rfl, List.set_cons_succ, show (0 : Nat) + (2 : Int).toNat * 1 = 2 from rfl]
  simp only [sealBody, be, List.map_nil, List.append_nil, List.map_append, List.map_cons, List.map_replicate, List.length_map, Int.toNat_natCast]
  rw [show (2 : Nat) + text.length = text.length + 1 + 1 from by omega]
  simp only [List.take_succ_cons, List.take_zero, List.drop_succ_cons, List.drop_replicate]
  rw [show 254 - text.length = (250 - text.length) + 4 from by omega, ← List.replicate_append_replicate]
  simp only [List.append_assoc]
end Go.Proofs.YtbdhhedfplkidaaGreat.M
/- What the functions of layer num do. -/
namespace Go.Proofs.YtbdhhedfplkidaaGreat
open Go
open M (Str)
set_option maxHeartbeats 400000
theorem wrap_u64 {x : Int} (h0 : 0 ≤ x) (h : x < 18446744073709551616) : IntKind.u64.wrap x = x := by
  simp [IntKind.wrap, IntKind.bits, IntKind.signed]; omega
theorem wrap_i64 {x : Int} (h0 : -9223372036854775808 ≤ x) (h : x < 9223372036854775808) : IntKind.i64.wrap x = x := by
  rw [IntKind.wrap_i64]; omega

theorem num_Put (n : Nat) (size : Int) (_hn : n < 18446744073709551616) (hs0 : -9223372036854775808 ≤ size) (hs1 : size < 9223372036854775808) :
    CS 54 [u64 n, int size] emp fun v H' => v = .tuple #[str (M.put n size).1, int (M.put n size).2] ∧ H' = emp := by
  refine CS.walk Tryz.func54 rfl Tryz.ntmps54 rfl fun c R => ?_
  (repeat (first | refine W.ctl rfl ?_ | refine W.op rfl rfl rfl rfl ?_ | refine W.skip rfl rfl ?_))
  by_cases h1 : size < 1
  · refine W.yes rfl rfl rfl rfl h1 ?_
    (repeat (first | refine W.ctl rfl ?_ | refine W.op rfl rfl rfl rfl ?_ | refine W.skip rfl rfl ?_))
    refine W.ret2 (.inr rfl) rfl rfl rfl emp ⟨?_, rfl⟩ (Imp.refl _)
    rw [M.put, if_neg (by omega)]; rfl
  refine W.no rfl rfl rfl rfl h1 ?_
  (repeat (first | refine W.ctl rfl ?_ | refine W.op rfl rfl rfl rfl ?_ | refine W.skip rfl rfl ?_))
  by_cases h2 : 8 < size
  · refine W.yes rfl rfl rfl rfl h2 ?_
    (repeat (first | refine W.ctl rfl ?_ | refine W.op rfl rfl rfl rfl ?_ | refine W.skip rfl rfl ?_))
    refine W.ret2 (.inr rfl) rfl rfl rfl emp ⟨?_, rfl⟩ (Imp.refl _)
    rw [M.put, if_neg (by omega)]; rfl
  refine W.no rfl rfl rfl rfl h2 ?_
  (repeat (first | refine W.ctl rfl ?_ | refine W.op rfl rfl rfl rfl ?_ | refine W.skip rfl rfl ?_))
  obtain ⟨s, rfl⟩ : ∃ s : Nat, size = s := ⟨size.toNat, by omega⟩
  refine W.mks rfl rfl rfl rfl rfl rfl (by omega) (by omega) fun b => ?_
  (repeat (first | refine W.ctl rfl ?_ | refine W.op rfl rfl rfl rfl ?_ | refine W.skip rfl rfl ?_))
  refine W.loop (σ := Nat) (fun i => i ≤ s) (fun i => [(0, u64 (n / 256 ^ i : Nat)), (1, int s), (6, .slice (some ⟨b, 0, none⟩) s s), (16, int s), (17, int i)])
    (fun i => row b 5 (List.replicate (s - i) (.int .u8 0) ++ (M.be i n).map u8) • emp • R) (fun i => s - i) 0 (Nat.zero_le _) ⟨by rw [Nat.pow_zero, Nat.div_one]; rfl, rfl, rfl, rfl, rfl, trivial⟩ (Imp.of_eq (by simp [M.be])) ?_
  intro i hi
  (repeat (first | refine W.ctl rfl ?_ | refine W.op rfl rfl rfl rfl ?_ | refine W.skip rfl rfl ?_))
  have hb := M.be_length i n
  by_cases hlt : i < s
  · refine W.yes rfl rfl rfl rfl (p := (i : Int) < s) (by omega) ?_
    (repeat (first | refine W.ctl rfl ?_ | refine W.op rfl rfl rfl rfl ?_ | refine W.skip rfl rfl ?_))
    refine W.ar rfl rfl rfl rfl rfl rfl rfl (wrap_i64 (by omega) (by omega)) ?_
    (repeat (first | refine W.ctl rfl ?_ | refine W.op rfl rfl rfl rfl ?_ | refine W.skip rfl rfl ?_))
    refine W.ar rfl rfl rfl rfl rfl rfl rfl (wrap_i64 (by omega) (by omega)) ?_
    (repeat (first | refine W.ctl rfl ?_ | refine W.op rfl rfl rfl rfl ?_ | refine W.skip rfl rfl ?_))
    refine W.conv rfl rfl rfl rfl rfl ?_
    refine W.idx rfl rfl rfl rfl rfl rfl (by omega) (by omega) ?_
    refine W.sti rfl rfl rfl rfl rfl (by simp [hb]; omega) ?_
    (repeat (first | refine W.ctl rfl ?_ | refine W.op rfl rfl rfl rfl ?_ | refine W.skip rfl rfl ?_))
    refine W.bin rfl rfl rfl rfl rfl rfl (fun w => M.bin_shr .u64 _ _ 8 w (by decide)) ?_
    (repeat (first | refine W.ctl rfl ?_ | refine W.op rfl rfl rfl rfl ?_ | refine W.skip rfl rfl ?_))
    refine W.ar rfl rfl rfl rfl rfl rfl rfl (wrap_i64 (by omega) (by omega)) ?_
    (repeat (first | refine W.ctl rfl ?_ | refine W.op rfl rfl rfl rfl ?_ | refine W.skip rfl rfl ?_))
    have e8 : n / 256 ^ (i + 1) = n / 256 ^ i / 2 ^ 8 := by rw [Nat.pow_succ, ← Nat.div_div_eq_div_mul]
    refine W.again (i + 1) hlt (by omega) ⟨by rw [e8]; rfl, rfl, rfl, rfl, rfl, trivial⟩ (Imp.of_eq ?_)
    rw [← M.be_byte s i n hlt u8, M.u8_wrap, show 0 + ((s : Int) - 1 - i).toNat * 1 = s - 1 - i from by omega]
  · refine W.no rfl rfl rfl rfl (p := (i : Int) < s) (by omega) ?_
    obtain rfl : i = s := by omega
    (repeat (first | refine W.ctl rfl ?_ | refine W.op rfl rfl rfl rfl ?_ | refine W.skip rfl rfl ?_))
    by_cases hz : n < 256 ^ i
    · refine W.no rfl rfl rfl rfl (p := ¬ (((n / 256 ^ i : Nat) : Int) = 0)) (by have := (M.be_lt i n).2 hz; omega) ?_
      (repeat (first | refine W.ctl rfl ?_ | refine W.op rfl rfl rfl rfl ?_ | refine W.skip rfl rfl ?_))
      refine W.eq (H' := row b 5 ((M.be i n).map u8 ++ []) • emp • R) (by simp) ?_
      refine W.b2s rfl rfl rfl rfl (by rw [hb]; rfl) ?_
      (repeat (first | refine W.ctl rfl ?_ | refine W.op rfl rfl rfl rfl ?_ | refine W.skip rfl rfl ?_))
      refine W.ret2 (.inr rfl) rfl rfl rfl emp ⟨?_, rfl⟩ Imp.all
      rw [M.put, if_pos ⟨by omega, by omega, hz⟩]; rfl
    · refine W.yes rfl rfl rfl rfl (p := ¬ (((n / 256 ^ i : Nat) : Int) = 0)) (by have := mt (M.be_lt i n).1 hz; omega) ?_
      (repeat (first | refine W.ctl rfl ?_ | refine W.op rfl rfl rfl rfl ?_ | refine W.skip rfl rfl ?_))
      refine W.ret2 (.inr rfl) rfl rfl rfl emp ⟨?_, rfl⟩ Imp.all
      rw [M.put, if_neg (by simp [hz])]; rfl

theorem num_Take (b : M.Str) (size : Int) (_hb : b.length < 9223372036854775808) (hs0 : -9223372036854775808 ≤ size) (hs1 : size < 9223372036854775808) :
    CS 56 [str b, int size] emp fun v H' => v = .tuple #[u64 (M.take b size).1, str (M.take b size).2.1, int (M.take b size).2.2] ∧ H' = emp := by
  refine CS.walk Tryz.func56 rfl Tryz.ntmps56 rfl fun c R => ?_
  (repeat (first | refine W.ctl rfl ?_ | refine W.op rfl rfl rfl rfl ?_ | refine W.skip rfl rfl ?_))
  by_cases h1 : size < 1
  · refine W.yes rfl rfl rfl rfl h1 ?_
    (repeat (first | refine W.ctl rfl ?_ | refine W.op rfl rfl rfl rfl ?_ | refine W.skip rfl rfl ?_))
    refine W.ret3 (.inr rfl) rfl rfl rfl rfl emp ⟨?_, rfl⟩ Imp.all
    rw [M.take, if_pos (by omega)]; rfl
  refine W.no rfl rfl rfl rfl h1 ?_
  (repeat (first | refine W.ctl rfl ?_ | refine W.op rfl rfl rfl rfl ?_ | refine W.skip rfl rfl ?_))
  by_cases h2 : 8 < size
  · refine W.yes rfl rfl rfl rfl h2 ?_
    (repeat (first | refine W.ctl rfl ?_ | refine W.op rfl rfl rfl rfl ?_ | refine W.skip rfl rfl ?_))
    refine W.ret3 (.inr rfl) rfl rfl rfl rfl emp ⟨?_, rfl⟩ Imp.all
    rw [M.take, if_pos (by omega)]; rfl
  refine W.no rfl rfl rfl rfl h2 ?_
  (repeat (first | refine W.ctl rfl ?_ | refine W.op rfl rfl rfl rfl ?_ | refine W.skip rfl rfl ?_))
  obtain ⟨s, rfl⟩ : ∃ s : Nat, size = s := ⟨size.toNat, by omega⟩
  refine W.slen rfl rfl rfl rfl rfl ?_
  (repeat (first | refine W.ctl rfl ?_ | refine W.op rfl rfl rfl rfl ?_ | refine W.skip rfl rfl ?_))
  by_cases h3 : (b.length : Int) < s
  · refine W.yes rfl rfl rfl rfl h3 ?_
    (repeat (first | refine W.ctl rfl ?_ | refine W.op rfl rfl rfl rfl ?_ | refine W.skip rfl rfl ?_))
    refine W.ret3 (.inr rfl) rfl rfl rfl rfl emp ⟨?_, rfl⟩ Imp.all
    rw [M.take, if_neg (by omega), if_pos h3]; rfl
  refine W.no rfl rfl rfl rfl h3 ?_
  (repeat (first | refine W.ctl rfl ?_ | refine W.op rfl rfl rfl rfl ?_ | refine W.skip rfl rfl ?_))
  refine W.loop (σ := Nat) (fun i => i ≤ s) (fun i => [(4, u64 (M.fromBe (b.take i))), (0, str b), (1, int s), (20, int s), (21, int i), (5, str []), (6, int 0)])
    (fun _ => emp • R) (fun i => s - i) 0 (Nat.zero_le _) ⟨rfl, rfl, rfl, rfl, rfl, rfl, rfl, trivial⟩ (Imp.refl _) ?_
  intro i hi
  (repeat (first | refine W.ctl rfl ?_ | refine W.op rfl rfl rfl rfl ?_ | refine W.skip rfl rfl ?_))
  by_cases hlt : i < s
  · refine W.yes rfl rfl rfl rfl (p := (i : Int) < s) (by omega) ?_
    (repeat (first | refine W.ctl rfl ?_ | refine W.op rfl rfl rfl rfl ?_ | refine W.skip rfl rfl ?_))
    have hl := M.fromBe_lt (b.take i)
    have hlen : (b.take i).length = i := by simp; omega
    have hp : 256 ^ i ≤ 256 ^ 7 := Nat.pow_le_pow_right (by omega) (by omega)
    rw [hlen] at hl
    have hx := (b[i]'(by omega)).toNat_lt
    have hsucc := M.fromBe_succ b i (by omega)
    refine W.bin rfl rfl rfl rfl rfl rfl (fun w => M.bin_shl64 _ _ 8 w (by decide) (by omega)) ?_
    (repeat (first | refine W.ctl rfl ?_ | refine W.op rfl rfl rfl rfl ?_ | refine W.skip rfl rfl ?_))
    refine W.sidx rfl rfl rfl rfl rfl rfl (by omega) (M.getI b i (by omega)) ?_
    refine W.cv rfl rfl rfl rfl rfl (wrap_u64 (by omega) (by omega)) ?_
    refine W.ar rfl rfl rfl rfl rfl rfl rfl (wrap_u64 (by omega) (by omega)) ?_
    (repeat (first | refine W.ctl rfl ?_ | refine W.op rfl rfl rfl rfl ?_ | refine W.skip rfl rfl ?_))
    refine W.ar rfl rfl rfl rfl rfl rfl rfl (wrap_i64 (by omega) (by omega)) ?_
    (repeat (first | refine W.ctl rfl ?_ | refine W.op rfl rfl rfl rfl ?_ | refine W.skip rfl rfl ?_))
    refine W.again (i + 1) hlt (by omega) ⟨?_, rfl, rfl, rfl, rfl, rfl, rfl, trivial⟩ (Imp.refl _)
    rw [hsucc]; rfl
  · refine W.no rfl rfl rfl rfl (p := (i : Int) < s) (by omega) ?_
    obtain rfl : i = s := by omega
    (repeat (first | refine W.ctl rfl ?_ | refine W.op rfl rfl rfl rfl ?_ | refine W.skip rfl rfl ?_))
    refine W.draw (by kernel_rfl) (by kernel_rfl) ?_
    (repeat (first | refine W.ctl rfl ?_ | refine W.op rfl rfl rfl rfl ?_ | refine W.skip rfl rfl ?_))
    refine W.sfrom rfl rfl rfl rfl rfl rfl (by omega) (by omega) ?_
    (repeat (first | refine W.ctl rfl ?_ | refine W.op rfl rfl rfl rfl ?_ | refine W.skip rfl rfl ?_))
    refine W.ret3 (.inr rfl) rfl rfl rfl rfl emp ⟨?_, rfl⟩ Imp.all
    rw [M.take, if_neg (by omega), if_neg h3]; rfl
theorem num_Text (s : M.Str) (hb : s.length < 4611686018427387904) :
    CS 179 [str s] emp fun v H' => v = .tuple #[str (M.text s).1, int (M.text s).2] ∧ H' = emp := by
  refine CS.walk Tryz.func179 rfl Tryz.ntmps179 rfl fun c R => ?_
  (repeat (first | refine W.ctl rfl ?_ | refine W.op rfl rfl rfl rfl ?_ | refine W.skip rfl rfl ?_))
  refine W.slen rfl rfl rfl rfl rfl ?_
  by_cases h : 255 < s.length
  · refine W.yes rfl rfl rfl rfl (p := (255 : Int) < s.length) (by omega) ?_
    (repeat (first | refine W.ctl rfl ?_ | refine W.op rfl rfl rfl rfl ?_ | refine W.skip rfl rfl ?_))
    refine W.ret2 (.inr rfl) rfl rfl rfl emp ⟨?_, rfl⟩ Imp.all
    rw [M.text, if_pos h]; rfl
  refine W.no rfl rfl rfl rfl (p := (255 : Int) < s.length) (by omega) ?_
  (repeat (first | refine W.ctl rfl ?_ | refine W.op rfl rfl rfl rfl ?_ | refine W.skip rfl rfl ?_))
  refine W.slen rfl rfl rfl rfl rfl ?_
  refine W.conv rfl rfl rfl rfl rfl ?_
  refine W.bsl (vs := [_]) rfl rfl rfl rfl ⟨rfl, rfl, trivial⟩ rfl rfl rfl fun b => ?_
  refine W.eq (H' := row b 5 ([UInt8.ofNat s.length].map u8 ++ []) • emp • R) (by rw [M.u8_wrap, Nat.mod_eq_of_lt (by omega)]; rfl) ?_
  refine W.b2s (u := [UInt8.ofNat s.length]) rfl rfl rfl rfl rfl ?_
  (repeat (first | refine W.ctl rfl ?_ | refine W.op rfl rfl rfl rfl ?_ | refine W.skip rfl rfl ?_))
  refine W.scat rfl rfl rfl rfl rfl rfl (by simp; omega) ?_
  (repeat (first | refine W.ctl rfl ?_ | refine W.op rfl rfl rfl rfl ?_ | refine W.skip rfl rfl ?_))
  refine W.ret2 (.inr rfl) rfl rfl rfl emp ⟨?_, rfl⟩ Imp.all
  rw [M.text, if_neg h]; rfl
theorem num_TakeText (b : M.Str) (hb : b.length < 9223372036854775808) :
    CS 183 [str b] emp fun v H' => v = .tuple #[str (M.takeText b).1, str (M.takeText b).2.1, int (M.takeText b).2.2] ∧ H' = emp := by
  refine CS.walk Tryz.func183 rfl Tryz.ntmps183 rfl fun c R => ?_
  (repeat (first | refine W.ctl rfl ?_ | refine W.op rfl rfl rfl rfl ?_ | refine W.skip rfl rfl ?_))
  refine W.seq (u := []) rfl rfl rfl rfl rfl rfl ?_
  cases b with
  | nil =>
    refine W.case 7 rfl (fun _ => ?_) (fun h => by simp at h)
    (repeat (first | refine W.ctl rfl ?_ | refine W.op rfl rfl rfl rfl ?_ | refine W.skip rfl rfl ?_))
    refine W.ret3 (.inr rfl) rfl rfl rfl rfl emp ⟨rfl, rfl⟩ Imp.all
  | cons x t =>
    refine W.case 7 rfl (fun h => by simp at h) (fun _ => ?_)
    (repeat (first | refine W.ctl rfl ?_ | refine W.op rfl rfl rfl rfl ?_ | refine W.skip rfl rfl ?_))
    have hx := x.toNat_lt
    refine W.sidx (u := x) rfl rfl rfl rfl rfl rfl (by omega) rfl ?_
    (repeat (first | refine W.ctl rfl ?_ | refine W.op rfl rfl rfl rfl ?_ | refine W.skip rfl rfl ?_))
    refine W.cv rfl rfl rfl rfl rfl (wrap_i64 (by omega) (by omega)) ?_
    (repeat (first | refine W.ctl rfl ?_ | refine W.op rfl rfl rfl rfl ?_ | refine W.skip rfl rfl ?_))
    refine W.slen rfl rfl rfl rfl rfl ?_
    (repeat (first | refine W.ctl rfl ?_ | refine W.op rfl rfl rfl rfl ?_ | refine W.skip rfl rfl ?_))
    by_cases h : (x :: t).length ≤ x.toNat
    · refine W.yes rfl rfl rfl rfl (p := ((x :: t).length : Int) ≤ x.toNat) (by omega) ?_
      (repeat (first | refine W.ctl rfl ?_ | refine W.op rfl rfl rfl rfl ?_ | refine W.skip rfl rfl ?_))
      refine W.ret3 (.inr rfl) rfl rfl rfl rfl emp ⟨?_, rfl⟩ Imp.all
      rw [M.takeText, if_pos h]; rfl
    refine W.no rfl rfl rfl rfl (p := ((x :: t).length : Int) ≤ x.toNat) (by omega) ?_
    (repeat (first | refine W.ctl rfl ?_ | refine W.op rfl rfl rfl rfl ?_ | refine W.skip rfl rfl ?_))
    refine W.sidx (u := x) rfl rfl rfl rfl rfl rfl (by omega) rfl ?_
    refine W.cv rfl rfl rfl rfl rfl (wrap_i64 (by omega) (by omega)) ?_
    refine W.ar rfl rfl rfl rfl rfl rfl rfl (wrap_i64 (by omega) (by omega)) ?_
    (repeat (first | refine W.ctl rfl ?_ | refine W.op rfl rfl rfl rfl ?_ | refine W.skip rfl rfl ?_))
    refine W.draw (by kernel_rfl) (by kernel_rfl) ?_
    (repeat (first | refine W.ctl rfl ?_ | refine W.op rfl rfl rfl rfl ?_ | refine W.skip rfl rfl ?_))
    refine W.ssub rfl rfl rfl rfl rfl rfl rfl (by omega) (by omega) (by omega) ?_
    (repeat (first | refine W.ctl rfl ?_ | refine W.op rfl rfl rfl rfl ?_ | refine W.skip rfl rfl ?_))
    refine W.sfrom rfl rfl rfl rfl rfl rfl (by omega) (by omega) ?_
    (repeat (first | refine W.ctl rfl ?_ | refine W.op rfl rfl rfl rfl ?_ | refine W.skip rfl rfl ?_))
    refine W.ret3 (.inr rfl) rfl rfl rfl rfl emp ⟨?_, rfl⟩ Imp.all
    rw [M.takeText, if_neg h]
    have e1 : ((x.toNat : Int) + 1).toNat = x.toNat + 1 := by omega
    rw [e1]
    rfl
end Go.Proofs.YtbdhhedfplkidaaGreat
/- What the functions of layers page, bits and space do. -/
namespace Go.Proofs.YtbdhhedfplkidaaGreat
open Go
open M (Str)
set_option maxHeartbeats 400000
theorem wrap_u32 {x : Int} (h0 : 0 ≤ x) (h : x < 4294967296) : IntKind.u32.wrap x = x := by
  simp [IntKind.wrap, IntKind.bits, IntKind.signed]; omega
theorem page_Sum (s : Str) (hs : s.length < 9223372036854775808) :
    CS 188 [str s] emp fun v H' => v = .int .u32 (M.sum s) ∧ H' = emp := by
  refine CS.walk Tryz.func188 rfl Tryz.ntmps188 rfl fun c R => ?_
  (repeat (first | refine W.ctl rfl ?_ | refine W.op rfl rfl rfl rfl ?_ | refine W.skip rfl rfl ?_))
  refine W.slen rfl rfl rfl rfl rfl ?_
  (repeat (first | refine W.ctl rfl ?_ | refine W.op rfl rfl rfl rfl ?_ | refine W.skip rfl rfl ?_))
  refine W.loop (σ := Nat) (fun i => i ≤ s.length) (fun i => [(3, .int .u32 ((s.take i).foldl M.sumStep (1, 0)).1), (4, .int .u32 ((s.take i).foldl M.sumStep (1, 0)).2), (0, str s), (7, int s.length), (8, int i)])
    (fun _ => emp • R) (fun i => s.length - i) 0 (Nat.zero_le _) ⟨rfl, rfl, rfl, rfl, rfl, trivial⟩ (Imp.refl _) ?_
  intro i hi
  (repeat (first | refine W.ctl rfl ?_ | refine W.op rfl rfl rfl rfl ?_ | refine W.skip rfl rfl ?_))
  obtain ⟨h1, h2⟩ := M.sum_lt (s.take i)
  generalize hp : (s.take i).foldl M.sumStep (1, 0) = p at *
  by_cases hlt : i < s.length
  · refine W.yes rfl rfl rfl rfl (p := (i : Int) < s.length) (by omega) ?_
    have hx := (s[i]'(by omega)).toNat_lt
    (repeat (first | refine W.ctl rfl ?_ | refine W.op rfl rfl rfl rfl ?_ | refine W.skip rfl rfl ?_))
    refine W.sidx rfl rfl rfl rfl rfl rfl (by omega) (M.getI s i (by omega)) ?_
    refine W.cv rfl rfl rfl rfl rfl (wrap_u32 (by omega) (by omega)) ?_
    refine W.ar rfl rfl rfl rfl rfl rfl rfl (wrap_u32 (by omega) (by omega)) ?_
    refine W.bin rfl rfl rfl rfl rfl rfl (fun w => M.bin_rem .u32 _ (p.1 + (s[i]'(by omega)).toNat) 65521 w (by decide)) ?_
    (repeat (first | refine W.ctl rfl ?_ | refine W.op rfl rfl rfl rfl ?_ | refine W.skip rfl rfl ?_))
    refine W.ar rfl rfl rfl rfl rfl rfl rfl (wrap_u32 (by omega) (by omega)) ?_
    refine W.bin rfl rfl rfl rfl rfl rfl (fun w => M.bin_rem .u32 _ (p.2 + (p.1 + (s[i]'(by omega)).toNat) % 65521) 65521 w (by decide)) ?_
    (repeat (first | refine W.ctl rfl ?_ | refine W.op rfl rfl rfl rfl ?_ | refine W.skip rfl rfl ?_))
    refine W.ar rfl rfl rfl rfl rfl rfl rfl (wrap_i64 (by omega) (by omega)) ?_
    (repeat (first | refine W.ctl rfl ?_ | refine W.op rfl rfl rfl rfl ?_ | refine W.skip rfl rfl ?_))
    refine W.again (i + 1) hlt (by omega) ⟨?_, ?_, rfl, rfl, rfl, trivial⟩ (Imp.refl _)
    · rw [List.take_succ_eq_append_getElem hlt, List.foldl_append, hp]; rfl
    · rw [List.take_succ_eq_append_getElem hlt, List.foldl_append, hp]; rfl
  · refine W.no rfl rfl rfl rfl (p := (i : Int) < s.length) (by omega) ?_
    obtain rfl : i = s.length := by omega
    (repeat (first | refine W.ctl rfl ?_ | refine W.op rfl rfl rfl rfl ?_ | refine W.skip rfl rfl ?_))
    refine W.bin rfl rfl rfl rfl rfl rfl (fun w => M.bin_shl32 _ _ 16 w (by decide) (by omega)) ?_
    (repeat (first | refine W.ctl rfl ?_ | refine W.op rfl rfl rfl rfl ?_ | refine W.skip rfl rfl ?_))
    refine W.ar rfl rfl rfl rfl rfl rfl rfl (wrap_u32 (by omega) (by omega)) ?_
    (repeat (first | refine W.ctl rfl ?_ | refine W.op rfl rfl rfl rfl ?_ | refine W.skip rfl rfl ?_))
    refine W.ret1 (.inr rfl) rfl rfl emp ⟨?_, rfl⟩ Imp.all
    rw [List.take_length] at hp
    rw [M.sum, hp]; rfl
theorem space_Key (kind a b : Int) : CS 103 [int kind, int a, int b] emp fun v H' => v = .tuple #[u64 (M.spaceKey kind a b).1, .bool (M.spaceKey kind a b).2] ∧ H' = emp := by
  refine CS.walk Tryz.func103 rfl Tryz.ntmps103 rfl fun c R => ?_
  (repeat (first | refine W.ctl rfl ?_ | refine W.op rfl rfl rfl rfl ?_ | refine W.skip rfl rfl ?_))
  by_cases h0 : kind < 0
  · refine W.yes rfl rfl rfl rfl h0 ?_
    (repeat (first | refine W.ctl rfl ?_ | refine W.op rfl rfl rfl rfl ?_ | refine W.skip rfl rfl ?_))
    refine W.ret2 (.inr rfl) rfl rfl rfl emp ⟨?_, rfl⟩ Imp.all
    rw [M.spaceKey, if_pos (by omega)]; rfl
  refine W.no rfl rfl rfl rfl h0 ?_
  (repeat (first | refine W.ctl rfl ?_ | refine W.op rfl rfl rfl rfl ?_ | refine W.skip rfl rfl ?_))
  by_cases h1 : (16 : Int) ≤ kind
  · refine W.yes rfl rfl rfl rfl h1 ?_
    (repeat (first | refine W.ctl rfl ?_ | refine W.op rfl rfl rfl rfl ?_ | refine W.skip rfl rfl ?_))
    refine W.ret2 (.inr rfl) rfl rfl rfl emp ⟨?_, rfl⟩ Imp.all
    rw [M.spaceKey, if_pos (by omega)]; rfl
  refine W.no rfl rfl rfl rfl h1 ?_
  (repeat (first | refine W.ctl rfl ?_ | refine W.op rfl rfl rfl rfl ?_ | refine W.skip rfl rfl ?_))
  by_cases h2 : a < 0
  · refine W.yes rfl rfl rfl rfl h2 ?_
    (repeat (first | refine W.ctl rfl ?_ | refine W.op rfl rfl rfl rfl ?_ | refine W.skip rfl rfl ?_))
    refine W.ret2 (.inr rfl) rfl rfl rfl emp ⟨?_, rfl⟩ Imp.all
    rw [M.spaceKey, if_pos (by omega)]; rfl
  refine W.no rfl rfl rfl rfl h2 ?_
  (repeat (first | refine W.ctl rfl ?_ | refine W.op rfl rfl rfl rfl ?_ | refine W.skip rfl rfl ?_))
  by_cases h3 : (268435455 : Int) < a
  · refine W.yes rfl rfl rfl rfl h3 ?_
    (repeat (first | refine W.ctl rfl ?_ | refine W.op rfl rfl rfl rfl ?_ | refine W.skip rfl rfl ?_))
    refine W.ret2 (.inr rfl) rfl rfl rfl emp ⟨?_, rfl⟩ Imp.all
    rw [M.spaceKey, if_pos (by omega)]; rfl
  refine W.no rfl rfl rfl rfl h3 ?_
  (repeat (first | refine W.ctl rfl ?_ | refine W.op rfl rfl rfl rfl ?_ | refine W.skip rfl rfl ?_))
  by_cases h4 : b < 0
  · refine W.yes rfl rfl rfl rfl h4 ?_
    (repeat (first | refine W.ctl rfl ?_ | refine W.op rfl rfl rfl rfl ?_ | refine W.skip rfl rfl ?_))
    refine W.ret2 (.inr rfl) rfl rfl rfl emp ⟨?_, rfl⟩ Imp.all
    rw [M.spaceKey, if_pos (by omega)]; rfl
  refine W.no rfl rfl rfl rfl h4 ?_
  (repeat (first | refine W.ctl rfl ?_ | refine W.op rfl rfl rfl rfl ?_ | refine W.skip rfl rfl ?_))
  by_cases h5 : (4294967296 : Int) ≤ b
  · refine W.yes rfl rfl rfl rfl h5 ?_
    (repeat (first | refine W.ctl rfl ?_ | refine W.op rfl rfl rfl rfl ?_ | refine W.skip rfl rfl ?_))
    refine W.ret2 (.inr rfl) rfl rfl rfl emp ⟨?_, rfl⟩ Imp.all
    rw [M.spaceKey, if_pos (by omega)]; rfl
  refine W.no rfl rfl rfl rfl h5 ?_
  (repeat (first | refine W.ctl rfl ?_ | refine W.op rfl rfl rfl rfl ?_ | refine W.skip rfl rfl ?_))
  obtain ⟨kind, rfl⟩ := Int.eq_ofNat_of_zero_le (a := kind) (by omega)
  obtain ⟨a, rfl⟩ := Int.eq_ofNat_of_zero_le (a := a) (by omega)
  obtain ⟨b, rfl⟩ := Int.eq_ofNat_of_zero_le (a := b) (by omega)
  refine W.cv rfl rfl rfl rfl rfl (wrap_u64 (by omega) (by omega)) ?_
  refine W.bin rfl rfl rfl rfl rfl rfl (fun w => M.bin_shl64 _ kind 60 w (by decide) (by omega)) ?_
  (repeat (first | refine W.ctl rfl ?_ | refine W.op rfl rfl rfl rfl ?_ | refine W.skip rfl rfl ?_))
  refine W.cv rfl rfl rfl rfl rfl (wrap_u64 (by omega) (by omega)) ?_
  refine W.bin rfl rfl rfl rfl rfl rfl (fun w => M.bin_shl64 _ a 32 w (by decide) (by omega)) ?_
  refine W.ar rfl rfl rfl rfl rfl rfl rfl (wrap_u64 (by omega) (by omega)) ?_
  (repeat (first | refine W.ctl rfl ?_ | refine W.op rfl rfl rfl rfl ?_ | refine W.skip rfl rfl ?_))
  refine W.cv rfl rfl rfl rfl rfl (wrap_u64 (by omega) (by omega)) ?_
  refine W.ar rfl rfl rfl rfl rfl rfl rfl (wrap_u64 (by omega) (by omega)) ?_
  (repeat (first | refine W.ctl rfl ?_ | refine W.op rfl rfl rfl rfl ?_ | refine W.skip rfl rfl ?_))
  refine W.ret2 (.inr rfl) rfl rfl rfl emp ⟨?_, rfl⟩ Imp.all
  rw [M.spaceKey, if_neg (by omega)]; rfl
theorem bits_Has (b : Str) (i : Int) (_hb : b.length < 9223372036854775808) (hi0 : -9223372036854775808 ≤ i) (hi1 : i < 9223372036854775808) :
    CS 95 [str b, int i] emp fun v H' => v = .bool (M.has b i) ∧ H' = emp := by
  refine CS.walk Tryz.func95 rfl Tryz.ntmps95 rfl fun c R => ?_
  (repeat (first | refine W.ctl rfl ?_ | refine W.op rfl rfl rfl rfl ?_ | refine W.skip rfl rfl ?_))
  refine W.draw (by kernel_rfl) (by kernel_rfl) ?_
  (repeat (first | refine W.ctl rfl ?_ | refine W.op rfl rfl rfl rfl ?_ | refine W.skip rfl rfl ?_))
  by_cases h0 : 0 ≤ i
  · refine W.yes rfl rfl rfl rfl h0 ?_
    (repeat (first | refine W.ctl rfl ?_ | refine W.op rfl rfl rfl rfl ?_ | refine W.skip rfl rfl ?_))
    obtain ⟨i, rfl⟩ := Int.eq_ofNat_of_zero_le h0
    refine W.bin rfl rfl rfl rfl rfl rfl (fun w => M.bin_quo _ i 8 w (by decide) (by omega)) ?_
    (repeat (first | refine W.ctl rfl ?_ | refine W.op rfl rfl rfl rfl ?_ | refine W.skip rfl rfl ?_))
    refine W.slen rfl rfl rfl rfl rfl ?_
    (repeat (first | refine W.ctl rfl ?_ | refine W.op rfl rfl rfl rfl ?_ | refine W.skip rfl rfl ?_))
    by_cases h1 : i / 8 < b.length
    · refine W.yes rfl rfl rfl rfl (p := ((i / 8 : Nat) : Int) < b.length) (by omega) ?_
      (repeat (first | refine W.ctl rfl ?_ | refine W.op rfl rfl rfl rfl ?_ | refine W.skip rfl rfl ?_))
      refine W.bin rfl rfl rfl rfl rfl rfl (fun w => M.bin_quo _ i 8 w (by decide) (by omega)) ?_
      (repeat (first | refine W.ctl rfl ?_ | refine W.op rfl rfl rfl rfl ?_ | refine W.skip rfl rfl ?_))
      refine W.sidx rfl rfl rfl rfl rfl rfl (by omega) (M.getI b (i / 8) h1) ?_
      (repeat (first | refine W.ctl rfl ?_ | refine W.op rfl rfl rfl rfl ?_ | refine W.skip rfl rfl ?_))
      refine W.bin rfl rfl rfl rfl rfl rfl (fun w => M.bin_rem .i64 _ i 8 w (by decide)) ?_
      (repeat (first | refine W.ctl rfl ?_ | refine W.op rfl rfl rfl rfl ?_ | refine W.skip rfl rfl ?_))
      refine W.bin rfl rfl rfl rfl rfl rfl (fun w => M.bin_shl8 _ (i % 8) w (by omega)) ?_
      (repeat (first | refine W.ctl rfl ?_ | refine W.op rfl rfl rfl rfl ?_ | refine W.skip rfl rfl ?_))
      refine W.bin rfl rfl rfl rfl rfl rfl (fun w => M.bin_and_bit _ (b[i / 8]).toNat (i % 8) w (b[i / 8]).toNat_lt (by omega)) ?_
      (repeat (first | refine W.ctl rfl ?_ | refine W.op rfl rfl rfl rfl ?_ | refine W.skip rfl rfl ?_))
      refine W.cmp rfl rfl rfl rfl ?_
      (repeat (first | refine W.ctl rfl ?_ | refine W.op rfl rfl rfl rfl ?_ | refine W.skip rfl rfl ?_))
      refine W.ret1 (.inr rfl) rfl rfl emp ⟨?_, rfl⟩ Imp.all
      have e : b.getD (i / 8) 0 = b[i / 8] := by simp [List.getD_eq_getElem?_getD, h1]
      simp only [M.has, h0, Int.toNat_natCast, h1, e, decide_true, Bool.true_and]
      have hp : 0 < 2 ^ (i % 8) := Nat.pow_pos (by omega)
      by_cases ht : (b[i / 8]).toNat.testBit (i % 8) = true
      · rw [if_pos ht, ht, decide_eq_true (by omega)]
      · rw [if_neg ht]; simp at ht; rw [ht]; rfl
    · refine W.no rfl rfl rfl rfl (p := ((i / 8 : Nat) : Int) < b.length) (by omega) ?_
      (repeat (first | refine W.ctl rfl ?_ | refine W.op rfl rfl rfl rfl ?_ | refine W.skip rfl rfl ?_))
      refine W.ret1 (.inr rfl) rfl rfl emp ⟨?_, rfl⟩ Imp.all
      simp [M.has, h1]
  · refine W.no rfl rfl rfl rfl h0 ?_
    (repeat (first | refine W.ctl rfl ?_ | refine W.op rfl rfl rfl rfl ?_ | refine W.skip rfl rfl ?_))
    refine W.ret1 (.inr rfl) rfl rfl emp ⟨?_, rfl⟩ Imp.all
    simp [M.has, h0]
theorem page_Seal (kind : Int) (text : Str) (ht : text.length < 9223372036854775808) :
    CS 168 [int kind, str text] emp fun v H' => v = .tuple #[str (M.sealP kind text).1, int (M.sealP kind text).2] ∧ H' = emp := by
  refine CS.walk Tryz.func168 rfl Tryz.ntmps168 rfl fun c R => ?_
  (repeat (first | refine W.ctl rfl ?_ | refine W.op rfl rfl rfl rfl ?_ | refine W.skip rfl rfl ?_))
  by_cases h1 : kind < 1
  · refine W.yes rfl rfl rfl rfl h1 ?_
    (repeat (first | refine W.ctl rfl ?_ | refine W.op rfl rfl rfl rfl ?_ | refine W.skip rfl rfl ?_))
    refine W.ret2 (.inr rfl) rfl rfl rfl emp ⟨?_, rfl⟩ Imp.all
    rw [M.sealP, if_pos (by omega)]; rfl
  refine W.no rfl rfl rfl rfl h1 ?_
  (repeat (first | refine W.ctl rfl ?_ | refine W.op rfl rfl rfl rfl ?_ | refine W.skip rfl rfl ?_))
  by_cases h2 : 15 < kind
  · refine W.yes rfl rfl rfl rfl h2 ?_
    (repeat (first | refine W.ctl rfl ?_ | refine W.op rfl rfl rfl rfl ?_ | refine W.skip rfl rfl ?_))
    refine W.ret2 (.inr rfl) rfl rfl rfl emp ⟨?_, rfl⟩ Imp.all
    rw [M.sealP, if_pos (by omega)]; rfl
  refine W.no rfl rfl rfl rfl h2 ?_
  (repeat (first | refine W.ctl rfl ?_ | refine W.op rfl rfl rfl rfl ?_ | refine W.skip rfl rfl ?_))
  refine W.slen rfl rfl rfl rfl rfl ?_
  (repeat (first | refine W.ctl rfl ?_ | refine W.op rfl rfl rfl rfl ?_ | refine W.skip rfl rfl ?_))
  by_cases h3 : 240 < text.length
  · refine W.yes rfl rfl rfl rfl (p := (240 : Int) < text.length) (by omega) ?_
    (repeat (first | refine W.ctl rfl ?_ | refine W.op rfl rfl rfl rfl ?_ | refine W.skip rfl rfl ?_))
    refine W.ret2 (.inr rfl) rfl rfl rfl emp ⟨?_, rfl⟩ Imp.all
    rw [M.sealP, if_pos (by omega)]; rfl
  refine W.no rfl rfl rfl rfl (p := (240 : Int) < text.length) (by omega) ?_
  (repeat (first | refine W.ctl rfl ?_ | refine W.op rfl rfl rfl rfl ?_ | refine W.skip rfl rfl ?_))
  refine W.mks (m := 256) rfl rfl rfl rfl rfl rfl (by omega) (by omega) fun b => ?_
  (repeat (first | refine W.ctl rfl ?_ | refine W.op rfl rfl rfl rfl ?_ | refine W.skip rfl rfl ?_))
  refine W.conv rfl rfl rfl rfl rfl ?_
  (repeat (first | refine W.ctl rfl ?_ | refine W.op rfl rfl rfl rfl ?_ | refine W.skip rfl rfl ?_))
  refine W.slen rfl rfl rfl rfl rfl ?_
  refine W.conv rfl rfl rfl rfl rfl ?_
  refine W.idx rfl rfl rfl rfl rfl rfl (by omega) (by omega) ?_
  refine W.sti rfl rfl rfl rfl rfl (by simp only [List.length_replicate]; omega) ?_
  refine W.idx rfl rfl rfl rfl rfl rfl (by omega) (by omega) ?_
  refine W.sti rfl rfl rfl rfl rfl (by simp only [List.length_set, List.length_replicate]; omega) ?_
  (repeat (first | refine W.ctl rfl ?_ | refine W.op rfl rfl rfl rfl ?_ | refine W.skip rfl rfl ?_))
  refine W.slf rfl rfl rfl rfl rfl rfl (by omega) (by omega) (by omega) ?_
  (repeat (first | refine W.ctl rfl ?_ | refine W.op rfl rfl rfl rfl ?_ | refine W.skip rfl rfl ?_))
  refine W.cpys rfl rfl rfl rfl rfl rfl (by omega) (by simp only [List.length_set, List.length_replicate]; omega) ?_
  have hl := M.sealBody_length kind text (by omega)
  have hn := M.sum_u32 (M.sealBody kind text)
  refine W.eq (congrArg (· • _) (congrArg (row b _) (M.seal_cells kind text _ (by omega) (by omega) (by omega) rfl))) ?_
  (repeat (first | refine W.ctl rfl ?_ | refine W.op rfl rfl rfl rfl ?_ | refine W.skip rfl rfl ?_))
  refine W.slt rfl rfl rfl rfl rfl rfl (by omega) (by omega) ?_
  refine W.b2s (u := M.sealBody kind text) rfl rfl rfl rfl (by rw [hl]; rfl) ?_
  refine W.fcall (page_Sum _ (by omega)) rfl rfl rfl rfl Tryz.call188 ⟨rfl, trivial⟩ ?_
  (repeat (first | refine W.ctl rfl ?_ | refine W.op rfl rfl rfl rfl ?_ | refine W.skip rfl rfl ?_))
  generalize hN : M.sum (M.sealBody kind text) = N at *
  refine W.loop (σ := Nat) (fun i => i ≤ 4) (fun i => [(7, .int .u32 N), (6, .slice (some ⟨b, 0, none⟩) 256 256), (38, int i)])
    (fun i => row b 5 ((M.sealBody kind text).map u8 ++ (List.replicate (4 - i) (.int .u8 0) ++ (M.be i N).map u8)) • emp • R) (fun i => 4 - i) 0 (by omega) ⟨rfl, rfl, rfl, trivial⟩ (Imp.refl _) ?_
  intro i hi
  (repeat (first | refine W.ctl rfl ?_ | refine W.op rfl rfl rfl rfl ?_ | refine W.skip rfl rfl ?_))
  have hb := M.be_length i N
  by_cases hlt : i < 4
  · refine W.yes rfl rfl rfl rfl (p := (i : Int) < 4) (by omega) ?_
    (repeat (first | refine W.ctl rfl ?_ | refine W.op rfl rfl rfl rfl ?_ | refine W.skip rfl rfl ?_))
    refine W.ar rfl rfl rfl rfl rfl rfl rfl (wrap_i64 (by omega) (by omega)) ?_
    (repeat (first | refine W.ctl rfl ?_ | refine W.op rfl rfl rfl rfl ?_ | refine W.skip rfl rfl ?_))
    refine W.ar rfl rfl rfl rfl rfl rfl rfl (wrap_i64 (by omega) (by omega)) ?_
    refine W.bin rfl rfl rfl rfl rfl rfl (fun w => M.bin_shr .u32 _ _ (8 * i) w (by simp [IntKind.bits]; omega)) ?_
    refine W.conv rfl rfl rfl rfl rfl ?_
    refine W.idx rfl rfl rfl rfl rfl rfl (by omega) (by omega) ?_
    refine W.sti rfl rfl rfl rfl rfl (by simp [hb, hl]; omega) ?_
    (repeat (first | refine W.ctl rfl ?_ | refine W.op rfl rfl rfl rfl ?_ | refine W.skip rfl rfl ?_))
    refine W.ar rfl rfl rfl rfl rfl rfl rfl (wrap_i64 (by omega) (by omega)) ?_
    (repeat (first | refine W.ctl rfl ?_ | refine W.op rfl rfl rfl rfl ?_ | refine W.skip rfl rfl ?_))
    refine W.again (i + 1) (by omega) (by omega) ⟨rfl, rfl, rfl, trivial⟩ (Imp.of_eq (congrArg (· • _) (congrArg (row b _) ?_)))
    rw [List.set_append_right _ _ (by simp [hl]; omega), M.u8_wrap, Nat.pow_mul, ← M.be_byte 4 i N hlt u8,
      show 0 + ((255 : Int) - i).toNat * 1 - ((M.sealBody kind text).map u8).length = 4 - 1 - i from by rw [List.length_map, hl]; omega]
  · refine W.no rfl rfl rfl rfl (p := (i : Int) < 4) (by omega) ?_
    obtain rfl : i = 4 := by omega
    (repeat (first | refine W.ctl rfl ?_ | refine W.op rfl rfl rfl rfl ?_ | refine W.skip rfl rfl ?_))
    refine W.eq (H' := row b 5 ((M.sealBody kind text ++ M.be 4 N).map u8 ++ []) • emp • R) (by simp) ?_
    refine W.b2s (u := M.sealBody kind text ++ M.be 4 N) rfl rfl rfl rfl (by rw [List.length_append, hl, hb]; rfl) ?_
    (repeat (first | refine W.ctl rfl ?_ | refine W.op rfl rfl rfl rfl ?_ | refine W.skip rfl rfl ?_))
    refine W.ret2 (.inr rfl) rfl rfl rfl emp ⟨?_, rfl⟩ Imp.all
    rw [M.sealP, if_neg (by omega), hN]
theorem page_Open (b : Str) (_hb : b.length < 9223372036854775808) :
    CS 164 [str b] emp fun v H' => v = .tuple #[int (M.opens b).1, str (M.opens b).2.1, int (M.opens b).2.2] ∧ H' = emp := by
  refine CS.walk Tryz.func164 rfl Tryz.ntmps164 rfl fun c R => ?_
  (repeat (first | refine W.ctl rfl ?_ | refine W.op rfl rfl rfl rfl ?_ | refine W.skip rfl rfl ?_))
  refine W.slen rfl rfl rfl rfl rfl ?_
  by_cases h1 : b.length ≠ 256
  · refine W.yes rfl rfl rfl rfl (p := (b.length : Int) ≠ 256) (by omega) ?_
    (repeat (first | refine W.ctl rfl ?_ | refine W.op rfl rfl rfl rfl ?_ | refine W.skip rfl rfl ?_))
    refine W.ret3 (.inr rfl) rfl rfl rfl rfl emp ⟨?_, rfl⟩ Imp.all
    rw [M.opens, if_pos h1]; rfl
  refine W.no rfl rfl rfl rfl (p := (b.length : Int) ≠ 256) (by omega) ?_
  have h1 : b.length = 256 := by omega
  (repeat (first | refine W.ctl rfl ?_ | refine W.op rfl rfl rfl rfl ?_ | refine W.skip rfl rfl ?_))
  refine W.loop (σ := Nat) (fun i => i ≤ 4) (fun i => [(0, str b), (5, .int .u32 (M.fromBe ((b.drop 252).take i))), (13, int i)])
    (fun _ => emp • R) (fun i => 4 - i) 0 (by omega) ⟨rfl, rfl, rfl, trivial⟩ (Imp.refl _) ?_
  intro i hi
  (repeat (first | refine W.ctl rfl ?_ | refine W.op rfl rfl rfl rfl ?_ | refine W.skip rfl rfl ?_))
  by_cases hlt : i < 4
  · refine W.yes rfl rfl rfl rfl (p := (i : Int) < 4) (by omega) ?_
    (repeat (first | refine W.ctl rfl ?_ | refine W.op rfl rfl rfl rfl ?_ | refine W.skip rfl rfl ?_))
    have hd : (b.drop 252).length = 4 := by simp [h1]
    have hl := M.fromBe_lt ((b.drop 252).take i)
    have hlen : ((b.drop 252).take i).length = i := by simp [h1]; omega
    have hp : 256 ^ i ≤ 256 ^ 3 := Nat.pow_le_pow_right (by omega) (by omega)
    rw [hlen] at hl
    have hx := ((b.drop 252)[i]'(by omega)).toNat_lt
    have hsucc := M.fromBe_succ (b.drop 252) i (by omega)
    have hsome : b[((252 : Int) + i).toNat]? = some ((b.drop 252)[i]'(by omega)) := by
      rw [show ((252 : Int) + i).toNat = 252 + i from by omega, List.getElem_drop]
      exact List.getElem?_eq_getElem (by omega)
    refine W.bin rfl rfl rfl rfl rfl rfl (fun w => M.bin_shl32 _ _ 8 w (by decide) (by omega)) ?_
    (repeat (first | refine W.ctl rfl ?_ | refine W.op rfl rfl rfl rfl ?_ | refine W.skip rfl rfl ?_))
    refine W.ar rfl rfl rfl rfl rfl rfl rfl (wrap_i64 (by omega) (by omega)) ?_
    refine W.sidx rfl rfl rfl rfl rfl rfl (by omega) hsome ?_
    refine W.cv rfl rfl rfl rfl rfl (wrap_u32 (by omega) (by omega)) ?_
    refine W.bin rfl rfl rfl rfl rfl rfl (fun w => M.bin_or8 _ _ _ w hx (by omega)) ?_
    (repeat (first | refine W.ctl rfl ?_ | refine W.op rfl rfl rfl rfl ?_ | refine W.skip rfl rfl ?_))
    refine W.ar rfl rfl rfl rfl rfl rfl rfl (wrap_i64 (by omega) (by omega)) ?_
    (repeat (first | refine W.ctl rfl ?_ | refine W.op rfl rfl rfl rfl ?_ | refine W.skip rfl rfl ?_))
    refine W.again (i + 1) (by omega) (by omega) ⟨rfl, by rw [hsucc]; rfl, rfl, trivial⟩ (Imp.refl _)
  refine W.no rfl rfl rfl rfl (p := (i : Int) < 4) (by omega) ?_
  obtain rfl : i = 4 := by omega
  have ht : (b.drop 252).take 4 = b.drop 252 := List.take_of_length_le (by simp [h1])
  (repeat (first | refine W.ctl rfl ?_ | refine W.op rfl rfl rfl rfl ?_ | refine W.skip rfl rfl ?_))
  refine W.sto rfl rfl rfl rfl rfl rfl (by omega) (by omega) ?_
  refine W.fcall (page_Sum _ (by simp; omega)) rfl rfl rfl rfl Tryz.call188 ⟨rfl, trivial⟩ ?_
  (repeat (first | refine W.ctl rfl ?_ | refine W.op rfl rfl rfl rfl ?_ | refine W.skip rfl rfl ?_))
  by_cases h2 : M.sum (b.take 252) ≠ M.fromBe (b.drop 252)
  · refine W.yes rfl rfl rfl rfl (p := (M.sum (b.take (252 : Int).toNat) : Int) ≠ (M.fromBe ((b.drop 252).take 4) : Int)) (fun h => h2 (by rw [ht] at h; exact Int.ofNat.inj h)) ?_
    (repeat (first | refine W.ctl rfl ?_ | refine W.op rfl rfl rfl rfl ?_ | refine W.skip rfl rfl ?_))
    refine W.ret3 (.inr rfl) rfl rfl rfl rfl emp ⟨?_, rfl⟩ Imp.all
    rw [M.opens, if_neg (by omega), if_pos h2]; rfl
  refine W.no rfl rfl rfl rfl (p := (M.sum (b.take (252 : Int).toNat) : Int) ≠ (M.fromBe ((b.drop 252).take 4) : Int)) (fun h => h2 (fun h' => h (by rw [ht]; exact congrArg Int.ofNat h'))) ?_
  (repeat (first | refine W.ctl rfl ?_ | refine W.op rfl rfl rfl rfl ?_ | refine W.skip rfl rfl ?_))
  have h0 : b[(0 : Int).toNat]? = some (b.getD 0 0) := by
    show b[0]? = _
    rw [List.getD_eq_getElem?_getD, List.getElem?_eq_getElem (by omega)]; rfl
  have h11 : b[(1 : Int).toNat]? = some (b.getD 1 0) := by
    show b[1]? = _
    rw [List.getD_eq_getElem?_getD, List.getElem?_eq_getElem (by omega)]; rfl
  have hx0 := (b.getD 0 0).toNat_lt
  have hx1 := (b.getD 1 0).toNat_lt
  refine W.sidx rfl rfl rfl rfl rfl rfl (by omega) h11 ?_
  refine W.cv rfl rfl rfl rfl rfl (wrap_i64 (by omega) (by omega)) ?_
  refine W.mn rfl rfl rfl rfl rfl rfl ?_
  (repeat (first | refine W.ctl rfl ?_ | refine W.op rfl rfl rfl rfl ?_ | refine W.skip rfl rfl ?_))
  obtain ⟨sz, hsz, hmin⟩ : ∃ sz : Nat, (if (250 : Int) < ((b.getD 1 0).toNat : Int) then 250 else ((b.getD 1 0).toNat : Int)) = sz ∧ sz = min (b.getD 1 0).toNat 250 := by
    refine ⟨_, ?_, rfl⟩
    split <;> omega
  rw [hsz]
  refine W.ar rfl rfl rfl rfl rfl rfl rfl (wrap_i64 (by omega) (by omega)) ?_
  refine W.ssub rfl rfl rfl rfl rfl rfl rfl (by omega) (by omega) (by omega) ?_
  (repeat (first | refine W.ctl rfl ?_ | refine W.op rfl rfl rfl rfl ?_ | refine W.skip rfl rfl ?_))
  refine W.sidx rfl rfl rfl rfl rfl rfl (by omega) h0 ?_
  refine W.cv rfl rfl rfl rfl rfl (wrap_i64 (by omega) (by omega)) ?_
  (repeat (first | refine W.ctl rfl ?_ | refine W.op rfl rfl rfl rfl ?_ | refine W.skip rfl rfl ?_))
  have e2 : ((2 : Int) + sz).toNat - (2 : Int).toNat = sz := by omega
  rw [e2, show (2 : Int).toNat = 2 from rfl]
  refine W.fcall (page_Seal _ _ (by simp; omega)) rfl rfl rfl rfl Tryz.call168 ⟨rfl, rfl, trivial⟩ ?_
  (repeat (first | refine W.ctl rfl ?_ | refine W.op rfl rfl rfl rfl ?_ | refine W.skip rfl rfl ?_))
  have hop : M.opens b = if (M.sealP (b.getD 0 0).toNat ((b.drop 2).take sz)).2 = 0 ∧ (M.sealP (b.getD 0 0).toNat ((b.drop 2).take sz)).1 = b then (((b.getD 0 0).toNat : Int), (b.drop 2).take sz, 0) else (0, [], 2) := by
    rw [M.opens, if_neg (by omega), if_neg h2, ← hmin]
  generalize hS : M.sealP (b.getD 0 0).toNat ((b.drop 2).take sz) = S at *
  by_cases h3 : S.2 = 0
  · refine W.no rfl rfl rfl rfl (p := S.2 ≠ 0) (by simpa using h3) ?_
    (repeat (first | refine W.ctl rfl ?_ | refine W.op rfl rfl rfl rfl ?_ | refine W.skip rfl rfl ?_))
    refine W.sne rfl rfl rfl rfl rfl rfl ?_
    by_cases h4 : S.1 = b
    · refine W.case 51 rfl (fun h => by simp [h4] at h) (fun _ => ?_)
      (repeat (first | refine W.ctl rfl ?_ | refine W.op rfl rfl rfl rfl ?_ | refine W.skip rfl rfl ?_))
      refine W.sidx rfl rfl rfl rfl rfl rfl (by omega) h0 ?_
      refine W.cv rfl rfl rfl rfl rfl (wrap_i64 (by omega) (by omega)) ?_
      (repeat (first | refine W.ctl rfl ?_ | refine W.op rfl rfl rfl rfl ?_ | refine W.skip rfl rfl ?_))
      refine W.ret3 (.inr rfl) rfl rfl rfl rfl emp ⟨?_, rfl⟩ Imp.all
      rw [hop, if_pos ⟨h3, h4⟩]
    · refine W.case 51 rfl (fun _ => ?_) (fun h => by simp [h4] at h)
      (repeat (first | refine W.ctl rfl ?_ | refine W.op rfl rfl rfl rfl ?_ | refine W.skip rfl rfl ?_))
      refine W.ret3 (.inr rfl) rfl rfl rfl rfl emp ⟨?_, rfl⟩ Imp.all
      rw [hop, if_neg (by simp [h4])]; rfl
  · refine W.yes rfl rfl rfl rfl (p := S.2 ≠ 0) h3 ?_
    (repeat (first | refine W.ctl rfl ?_ | refine W.op rfl rfl rfl rfl ?_ | refine W.skip rfl rfl ?_))
    refine W.ret3 (.inr rfl) rfl rfl rfl rfl emp ⟨?_, rfl⟩ Imp.all
    rw [hop, if_neg (by simp [h3])]; rfl
end Go.Proofs.YtbdhhedfplkidaaGreat
/- What the functions of layer disk do: the disk as the plain model has it. -/
namespace Go.Proofs.YtbdhhedfplkidaaGreat
open Go
open M (Str Disk DiskOk)
set_option maxHeartbeats 400000
set_option maxRecDepth 2000
/-- The disk at p. -/
abbrev DiskB (p : Nat) (D : Disk) (x : Nat × Nat × Value) (R : HProp) : HProp := row p 183 [.slice (some ⟨x.1, 0, none⟩) D.now.length D.now.length, .map (some x.2.1), x.2.2, int D.fuse, .bool D.gone] •
  row x.1 9 (D.now.map str) • mapI .i64 x.2.1 (D.was.map fun q => (q.1, str q.2)) • slck 1 3 x.2.2 D.order.length (D.order.map int) • R
def DiskP (p : Nat) (D : Disk) : HProp := ex fun x => pr (DiskOk D) • DiskB p D x emp
theorem DiskP.opn (p : Nat) (D : Disk) (R : HProp) : Imp (DiskP p D • R) (ex fun x => pr (DiskOk D) • DiskB p D x R) :=
  Imp.opn' fun x => by simp only [DiskB, sep_assoc', emp_sep]
theorem DiskP.mk {p : Nat} {D : Disk} (x : Nat × Nat × Value) (h : DiskOk D) : Imp (DiskB p D x emp) (DiskP p D) := Imp.mk (B := fun x => DiskB p D x emp) (φ := fun _ => DiskOk D) x h
theorem DiskP.mk0 {p : Nat} {D : Disk} (nb wb : Nat) (h : DiskOk D) (hw : D.was = []) : Imp (row p 183 [.slice (some ⟨nb, 0, none⟩) D.now.length D.now.length, .map (some wb), .slice none 0 0, int D.fuse, .bool D.gone] •
    row nb 9 (D.now.map str) • mapI .i64 wb [] • emp) (DiskP p D) := by
  refine Imp.trans (Imp.of_eq ?_) (DiskP.mk (nb, wb, .slice none 0 0) h)
  have ho : D.order = [] := by rw [← h.keys, hw]; rfl
  rw [DiskB, hw, ho]
  show _ = row _ _ _ • row _ _ _ • mapI _ _ [] • slck 1 _ _ 0 [] • emp
  rw [slck_nil, emp_sep]
theorem DiskP.mk2 {p nb wb len on : Nat} {D : Disk} {ov : Value} {nowv ordv : List Value} {wasv : List (Int × Value)} {f : Int} {g : Bool} (h : DiskOk D) (h1 : len = D.now.length) (h2 : nowv = D.now.map str) (h3 : wasv = D.was.map fun q => (q.1, str q.2)) (h4 : ordv = D.order.map int) (h5 : on = D.order.length) (h6 : f = D.fuse) (h7 : g = D.gone) :
    Imp (row p 183 [.slice (some ⟨nb, 0, none⟩) len len, .map (some wb), ov, int f, .bool g] • row nb 9 nowv • mapI .i64 wb wasv • slck 1 3 ov on ordv • emp) (DiskP p D) := by
  subst h1 h2 h3 h4 h5 h6 h7
  exact DiskP.mk (nb, wb, ov) h
abbrev ptr (p : Nat) : Value := .pointer (some ⟨p, 0, none⟩)
def dmay (D : Disk) (n : Int) : Int := if D.gone then 5 else if n < 0 ∨ n ≥ D.now.length then 1 else 0
theorem lookI_map (n : Int) : ∀ l : List (Int × Str), lookI n (l.map fun q => (q.1, str q.2)) = (l.lookup n).map str
  | [] => rfl
  | q :: l => by
    simp only [List.map_cons, lookI, List.lookup]
    by_cases h : n = q.1
    · rw [if_pos h]; simp [h]
    · rw [if_neg h]
      have : (n == q.1) = false := by simp [h]
      rw [this]; exact lookI_map n l
theorem putI_new {n : Int} {v : Value} {l : List (Int × Value)} (h : lookI n l = none) : putI n v l = l ++ [(n, v)] := by
  have := findI_look n l 0
  rw [h] at this
  exact putI_none n v l 0 (by simpa using this)

theorem disk_may (p : Nat) (D : Disk) (n : Int) : CS 187 [ptr p, int n] (DiskP p D) fun v H' => v = int (dmay D n) ∧ H' = DiskP p D := by
  refine CS.walk Tryz.func187 rfl Tryz.ntmps187 rfl fun c R => ?_
  refine W.open (DiskP.opn p D) rfl ?_
  rintro ⟨nb, wb, ov⟩ hD
  (repeat (first | refine W.ctl rfl ?_ | refine W.op rfl rfl rfl rfl ?_ | refine W.skip rfl rfl ?_ | refine W.fld rfl rfl rfl rfl rfl ?_ | refine W.ld rfl rfl rfl rfl rfl ?_))
  refine W.case 5 rfl (fun hg => ?_) (fun hg => ?_)
  · (repeat (first | refine W.ctl rfl ?_ | refine W.op rfl rfl rfl rfl ?_ | refine W.skip rfl rfl ?_ | refine W.fld rfl rfl rfl rfl rfl ?_ | refine W.ld rfl rfl rfl rfl rfl ?_))
    refine W.ret1 (.inr rfl) rfl rfl (DiskP p D) ⟨?_, rfl⟩ (Imp.pack (DiskP.mk (nb, wb, ov) hD) Imp.all)
    rw [dmay, if_pos hg]
  · (repeat (first | refine W.ctl rfl ?_ | refine W.op rfl rfl rfl rfl ?_ | refine W.skip rfl rfl ?_ | refine W.fld rfl rfl rfl rfl rfl ?_ | refine W.ld rfl rfl rfl rfl rfl ?_))
    by_cases h1 : n < 0
    · refine W.yes rfl rfl rfl rfl h1 ?_
      (repeat (first | refine W.ctl rfl ?_ | refine W.op rfl rfl rfl rfl ?_ | refine W.skip rfl rfl ?_ | refine W.fld rfl rfl rfl rfl rfl ?_ | refine W.ld rfl rfl rfl rfl rfl ?_))
      refine W.ret1 (.inr rfl) rfl rfl (DiskP p D) ⟨?_, rfl⟩ (Imp.pack (DiskP.mk (nb, wb, ov) hD) Imp.all)
      rw [dmay, if_neg (by simp [hg]), if_pos (.inl h1)]
    refine W.no rfl rfl rfl rfl h1 ?_
    (repeat (first | refine W.ctl rfl ?_ | refine W.op rfl rfl rfl rfl ?_ | refine W.skip rfl rfl ?_ | refine W.fld rfl rfl rfl rfl rfl ?_ | refine W.ld rfl rfl rfl rfl rfl ?_))
    refine W.len rfl rfl rfl rfl rfl ?_
    (repeat (first | refine W.ctl rfl ?_ | refine W.op rfl rfl rfl rfl ?_ | refine W.skip rfl rfl ?_ | refine W.fld rfl rfl rfl rfl rfl ?_ | refine W.ld rfl rfl rfl rfl rfl ?_))
    by_cases h2 : (D.now.length : Int) ≤ n
    · refine W.yes rfl rfl rfl rfl h2 ?_
      (repeat (first | refine W.ctl rfl ?_ | refine W.op rfl rfl rfl rfl ?_ | refine W.skip rfl rfl ?_ | refine W.fld rfl rfl rfl rfl rfl ?_ | refine W.ld rfl rfl rfl rfl rfl ?_))
      refine W.ret1 (.inr rfl) rfl rfl (DiskP p D) ⟨?_, rfl⟩ (Imp.pack (DiskP.mk (nb, wb, ov) hD) Imp.all)
      rw [dmay, if_neg (by simp [hg]), if_pos (.inr h2)]
    · refine W.no rfl rfl rfl rfl h2 ?_
      (repeat (first | refine W.ctl rfl ?_ | refine W.op rfl rfl rfl rfl ?_ | refine W.skip rfl rfl ?_ | refine W.fld rfl rfl rfl rfl rfl ?_ | refine W.ld rfl rfl rfl rfl rfl ?_))
      refine W.ret1 (.inr rfl) rfl rfl (DiskP p D) ⟨?_, rfl⟩ (Imp.pack (DiskP.mk (nb, wb, ov) hD) Imp.all)
      rw [dmay, if_neg (by simp [hg]), if_neg (by omega)]
theorem disk_Size (p : Nat) (D : Disk) : CS 125 [ptr p] (DiskP p D) fun v H' => v = int D.now.length ∧ H' = DiskP p D := by
  refine CS.walk Tryz.func125 rfl Tryz.ntmps125 rfl fun c R => ?_
  refine W.open (DiskP.opn p D) rfl ?_
  rintro ⟨nb, wb, ov⟩ hD
  (repeat (first | refine W.ctl rfl ?_ | refine W.op rfl rfl rfl rfl ?_ | refine W.skip rfl rfl ?_ | refine W.fld rfl rfl rfl rfl rfl ?_ | refine W.ld rfl rfl rfl rfl rfl ?_))
  refine W.len rfl rfl rfl rfl rfl ?_
  (repeat (first | refine W.ctl rfl ?_ | refine W.op rfl rfl rfl rfl ?_ | refine W.skip rfl rfl ?_ | refine W.fld rfl rfl rfl rfl rfl ?_ | refine W.ld rfl rfl rfl rfl rfl ?_))
  exact W.ret1 (.inr rfl) rfl rfl (DiskP p D) ⟨rfl, rfl⟩ (Imp.pack (DiskP.mk (nb, wb, ov) hD) Imp.all)
theorem disk_Read (p : Nat) (D : Disk) (n : Int) : CS 163 [ptr p, int n] (DiskP p D) fun v H' => v = .tuple #[str (D.read n).1, int (D.read n).2] ∧ H' = DiskP p D := by
  refine CS.walk Tryz.func163 rfl Tryz.ntmps163 rfl fun c R => ?_
  (repeat (first | refine W.ctl rfl ?_ | refine W.op rfl rfl rfl rfl ?_ | refine W.skip rfl rfl ?_ | refine W.fld rfl rfl rfl rfl rfl ?_ | refine W.ld rfl rfl rfl rfl rfl ?_))
  refine W.call (disk_may p D n) rfl rfl rfl rfl Tryz.call187 ⟨rfl, rfl, trivial⟩ ?_
  rintro _ _ ⟨rfl, rfl⟩
  (repeat (first | refine W.ctl rfl ?_ | refine W.op rfl rfl rfl rfl ?_ | refine W.skip rfl rfl ?_ | refine W.fld rfl rfl rfl rfl rfl ?_ | refine W.ld rfl rfl rfl rfl rfl ?_))
  by_cases h : dmay D n ≠ 0
  · refine W.yes rfl rfl rfl rfl h ?_
    (repeat (first | refine W.ctl rfl ?_ | refine W.op rfl rfl rfl rfl ?_ | refine W.skip rfl rfl ?_ | refine W.fld rfl rfl rfl rfl rfl ?_ | refine W.ld rfl rfl rfl rfl rfl ?_))
    refine W.ret2 (.inr rfl) rfl rfl rfl (DiskP p D) ⟨?_, rfl⟩ Imp.all
    unfold dmay at h ⊢
    unfold Disk.read
    split <;> rename_i hg
    · rfl
    · rw [if_neg hg] at h
      split <;> rename_i hn
      · rfl
      · simp [hn] at h
  · refine W.no rfl rfl rfl rfl h ?_
    (repeat (first | refine W.ctl rfl ?_ | refine W.op rfl rfl rfl rfl ?_ | refine W.skip rfl rfl ?_ | refine W.fld rfl rfl rfl rfl rfl ?_ | refine W.ld rfl rfl rfl rfl rfl ?_))
    refine W.open (DiskP.opn p D) rfl ?_
    rintro ⟨nb, wb, ov⟩ hD
    have h' : D.gone = false ∧ 0 ≤ n ∧ n < D.now.length := by
      unfold dmay at h
      cases hg : D.gone with
      | true => rw [hg] at h; simp at h
      | false =>
        rw [hg] at h
        simp only [Bool.false_eq_true, if_false] at h
        by_cases hn : n < 0 ∨ n ≥ D.now.length
        · rw [if_pos hn] at h; simp at h
        · exact ⟨rfl, by omega, by omega⟩
    obtain ⟨m, rfl⟩ := Int.eq_ofNat_of_zero_le h'.2.1
    have hm : m < D.now.length := by omega
    (repeat (first | refine W.ctl rfl ?_ | refine W.op rfl rfl rfl rfl ?_ | refine W.skip rfl rfl ?_ | refine W.fld rfl rfl rfl rfl rfl ?_ | refine W.ld rfl rfl rfl rfl rfl ?_))
    refine W.idx rfl rfl rfl rfl rfl rfl (by omega) (by omega) ?_
    refine W.ldi (v := str (D.now[m]'hm)) rfl rfl rfl rfl rfl (by simp [hm]) ?_
    (repeat (first | refine W.ctl rfl ?_ | refine W.op rfl rfl rfl rfl ?_ | refine W.skip rfl rfl ?_ | refine W.fld rfl rfl rfl rfl rfl ?_ | refine W.ld rfl rfl rfl rfl rfl ?_))
    refine W.ret2 (.inr rfl) rfl rfl rfl (DiskP p D) ⟨?_, rfl⟩ (Imp.pack (DiskP.mk (nb, wb, ov) hD) Imp.all)
    rw [Disk.read, if_neg (by simp [h'.1]), if_neg (by omega)]
    simp [List.getD_eq_getElem?_getD, hm]
theorem disk_Sync (p : Nat) (D : Disk) : CS 97 [ptr p] (DiskP p D) fun v H' => v = int D.sync.2 ∧ H' = DiskP p D.sync.1 := by
  refine CS.walk Tryz.func97 rfl Tryz.ntmps97 rfl fun c R => ?_
  refine W.open (DiskP.opn p D) rfl ?_
  rintro ⟨nb, wb, ov⟩ hD
  have hD' := M.sync_ok hD
  (repeat (first | refine W.ctl rfl ?_ | refine W.op rfl rfl rfl rfl ?_ | refine W.skip rfl rfl ?_ | refine W.fld rfl rfl rfl rfl rfl ?_ | refine W.ld rfl rfl rfl rfl rfl ?_))
  refine W.case 6 rfl (fun hg => ?_) (fun hg => ?_)
  · (repeat (first | refine W.ctl rfl ?_ | refine W.op rfl rfl rfl rfl ?_ | refine W.skip rfl rfl ?_ | refine W.fld rfl rfl rfl rfl rfl ?_ | refine W.ld rfl rfl rfl rfl rfl ?_))
    have e : D.sync = (D, 5) := by rw [Disk.sync, if_pos hg]
    rw [e]
    exact W.ret1 (.inr rfl) rfl rfl (DiskP p D) ⟨rfl, rfl⟩ (Imp.pack (DiskP.mk (nb, wb, ov) hD) Imp.all)
  · have e : D.sync = ({ D with was := [], order := [] }, 0) := by rw [Disk.sync, if_neg (by simp [hg])]
    rw [e] at hD' ⊢
    (repeat (first | refine W.ctl rfl ?_ | refine W.op rfl rfl rfl rfl ?_ | refine W.skip rfl rfl ?_ | refine W.fld rfl rfl rfl rfl rfl ?_ | refine W.ld rfl rfl rfl rfl rfl ?_))
    refine W.mmk .i64 rfl rfl rfl rfl fun b => ?_
    (repeat (first | refine W.ctl rfl ?_ | refine W.op rfl rfl rfl rfl ?_ | refine W.skip rfl rfl ?_ | refine W.fld rfl rfl rfl rfl rfl ?_ | refine W.ld rfl rfl rfl rfl rfl ?_))
    refine W.st rfl rfl rfl rfl rfl ?_
    (repeat (first | refine W.ctl rfl ?_ | refine W.op rfl rfl rfl rfl ?_ | refine W.skip rfl rfl ?_ | refine W.fld rfl rfl rfl rfl rfl ?_ | refine W.ld rfl rfl rfl rfl rfl ?_))
    refine W.st rfl rfl rfl rfl rfl ?_
    (repeat (first | refine W.ctl rfl ?_ | refine W.op rfl rfl rfl rfl ?_ | refine W.skip rfl rfl ?_ | refine W.fld rfl rfl rfl rfl rfl ?_ | refine W.ld rfl rfl rfl rfl rfl ?_))
    exact W.ret1 (.inr rfl) rfl rfl (DiskP p { D with was := [], order := [] }) ⟨rfl, rfl⟩ (Imp.pack (DiskP.mk0 nb b hD' rfl) Imp.all)
theorem lookI_some {n : Int} {l : List (Int × Str)} : (lookI n (l.map fun q => (q.1, str q.2))).isSome = (l.lookup n).isSome := by rw [lookI_map]; simp
theorem disk_Write (p : Nat) (D : Disk) (n : Int) (s : Str) : CS 169 [ptr p, int n, str s] (DiskP p D) fun v H' => v = int (D.write n s).2 ∧ H' = DiskP p (D.write n s).1 := by
  refine CS.walk Tryz.func169 rfl Tryz.ntmps169 rfl fun c R => ?_
  (repeat (first | refine W.ctl rfl ?_ | refine W.op rfl rfl rfl rfl ?_ | refine W.skip rfl rfl ?_ | refine W.fld rfl rfl rfl rfl rfl ?_ | refine W.ld rfl rfl rfl rfl rfl ?_))
  refine W.call (disk_may p D n) rfl rfl rfl rfl Tryz.call187 ⟨rfl, rfl, trivial⟩ ?_
  rintro _ _ ⟨rfl, rfl⟩
  (repeat (first | refine W.ctl rfl ?_ | refine W.op rfl rfl rfl rfl ?_ | refine W.skip rfl rfl ?_ | refine W.fld rfl rfl rfl rfl rfl ?_ | refine W.ld rfl rfl rfl rfl rfl ?_))
  by_cases h : dmay D n ≠ 0
  · refine W.yes rfl rfl rfl rfl h ?_
    (repeat (first | refine W.ctl rfl ?_ | refine W.op rfl rfl rfl rfl ?_ | refine W.skip rfl rfl ?_ | refine W.fld rfl rfl rfl rfl rfl ?_ | refine W.ld rfl rfl rfl rfl rfl ?_))
    have e : D.write n s = (D, dmay D n) := by
      unfold dmay at h ⊢
      unfold Disk.write
      split <;> rename_i hg
      · rfl
      · rw [if_neg hg] at h
        split <;> rename_i hn
        · rfl
        · simp [hn] at h
    rw [e]
    exact W.ret1 (.inr rfl) rfl rfl (DiskP p D) ⟨rfl, rfl⟩ Imp.all
  refine W.no rfl rfl rfl rfl h ?_
  (repeat (first | refine W.ctl rfl ?_ | refine W.op rfl rfl rfl rfl ?_ | refine W.skip rfl rfl ?_ | refine W.fld rfl rfl rfl rfl rfl ?_ | refine W.ld rfl rfl rfl rfl rfl ?_))
  have h' : D.gone = false ∧ 0 ≤ n ∧ n < D.now.length := by
    unfold dmay at h
    cases hg : D.gone with
    | true => rw [hg] at h; simp at h
    | false =>
      rw [hg] at h
      simp only [Bool.false_eq_true, if_false] at h
      by_cases hn : n < 0 ∨ n ≥ D.now.length
      · rw [if_pos hn] at h; simp at h
      · exact ⟨rfl, by omega, by omega⟩
  have e0 : D.write n s = if s.length ≠ 256 then (D, 1) else
      if D.fuse = 0 then ({ D with gone := true }, 5) else
      let d := { D with fuse := max (-1) (D.fuse - 1) }
      let d := if (d.was.lookup n).isSome then d else { d with was := d.was ++ [(n, d.now.getD n.toNat [])], order := d.order ++ [n] }
      ({ d with now := d.now.set n.toNat s }, 0) := by rw [Disk.write, if_neg (by simp [h'.1]), if_neg (by omega)]
  obtain ⟨m, rfl⟩ := Int.eq_ofNat_of_zero_le h'.2.1
  have hm : m < D.now.length := by omega
  refine W.slen rfl rfl rfl rfl rfl ?_
  by_cases h2 : (s.length : Int) ≠ 256
  · refine W.yes rfl rfl rfl rfl h2 ?_
    (repeat (first | refine W.ctl rfl ?_ | refine W.op rfl rfl rfl rfl ?_ | refine W.skip rfl rfl ?_ | refine W.fld rfl rfl rfl rfl rfl ?_ | refine W.ld rfl rfl rfl rfl rfl ?_))
    rw [e0, if_pos (by omega)]
    exact W.ret1 (.inr rfl) rfl rfl (DiskP p D) ⟨rfl, rfl⟩ Imp.all
  refine W.no rfl rfl rfl rfl h2 ?_
  rw [if_neg (by omega)] at e0
  refine W.open (DiskP.opn p D) rfl ?_
  rintro ⟨nb, wb, ov⟩ hD
  have hok := M.write_ok hD m s
  (repeat (first | refine W.ctl rfl ?_ | refine W.op rfl rfl rfl rfl ?_ | refine W.skip rfl rfl ?_ | refine W.fld rfl rfl rfl rfl rfl ?_ | refine W.ld rfl rfl rfl rfl rfl ?_))
  by_cases h3 : D.fuse = 0
  · refine W.yes rfl rfl rfl rfl h3 ?_
    (repeat (first | refine W.ctl rfl ?_ | refine W.op rfl rfl rfl rfl ?_ | refine W.skip rfl rfl ?_ | refine W.fld rfl rfl rfl rfl rfl ?_ | refine W.ld rfl rfl rfl rfl rfl ?_))
    refine W.st rfl rfl rfl rfl rfl ?_
    (repeat (first | refine W.ctl rfl ?_ | refine W.op rfl rfl rfl rfl ?_ | refine W.skip rfl rfl ?_ | refine W.fld rfl rfl rfl rfl rfl ?_ | refine W.ld rfl rfl rfl rfl rfl ?_))
    rw [e0, if_pos h3] at hok ⊢
    exact W.ret1 (.inr rfl) rfl rfl (DiskP p { D with gone := true }) ⟨rfl, rfl⟩ (Imp.pack (DiskP.mk (nb, wb, ov) hok) Imp.all)
  refine W.no rfl rfl rfl rfl h3 ?_
  rw [if_neg h3] at e0
  have f0 := hD.fuse0
  have f1 := hD.fuse1
  (repeat (first | refine W.ctl rfl ?_ | refine W.op rfl rfl rfl rfl ?_ | refine W.skip rfl rfl ?_ | refine W.fld rfl rfl rfl rfl rfl ?_ | refine W.ld rfl rfl rfl rfl rfl ?_))
  refine W.ar (r := D.fuse - 1) rfl rfl rfl rfl rfl rfl rfl (wrap_i64 (by omega) (by omega)) ?_
  refine W.mx rfl rfl rfl rfl rfl rfl ?_
  (repeat (first | refine W.ctl rfl ?_ | refine W.op rfl rfl rfl rfl ?_ | refine W.skip rfl rfl ?_ | refine W.fld rfl rfl rfl rfl rfl ?_ | refine W.ld rfl rfl rfl rfl rfl ?_))
  refine W.st rfl rfl rfl rfl rfl ?_
  (repeat (first | refine W.ctl rfl ?_ | refine W.op rfl rfl rfl rfl ?_ | refine W.skip rfl rfl ?_ | refine W.fld rfl rfl rfl rfl rfl ?_ | refine W.ld rfl rfl rfl rfl rfl ?_))
  have hmm : D.now[m]? = some (D.now[m]'hm) := List.getElem?_eq_getElem hm
  refine W.mget rfl rfl rfl rfl rfl rfl ?_
  cases hw : (D.was.lookup (m : Int)).isSome with
  | true =>
    have e1 : D.write m s = ({ D with fuse := max (-1) (D.fuse - 1), now := D.now.set m s }, 0) := by rw [e0]; simp [hw]
    rw [e1] at hok ⊢
    rw [lookI_some, hw]
    (repeat (first | refine W.ctl rfl ?_ | refine W.op rfl rfl rfl rfl ?_ | refine W.skip rfl rfl ?_ | refine W.fld rfl rfl rfl rfl rfl ?_ | refine W.ld rfl rfl rfl rfl rfl ?_))
    refine W.idx rfl rfl rfl rfl rfl rfl (by omega) (by omega) ?_
    refine W.sti rfl rfl rfl rfl rfl (by simp; omega) ?_
    (repeat (first | refine W.ctl rfl ?_ | refine W.op rfl rfl rfl rfl ?_ | refine W.skip rfl rfl ?_ | refine W.fld rfl rfl rfl rfl rfl ?_ | refine W.ld rfl rfl rfl rfl rfl ?_))
    refine W.ret1 (.inr rfl) rfl rfl (DiskP p { D with fuse := max (-1) (D.fuse - 1), now := D.now.set m s }) ⟨rfl, rfl⟩ (Imp.pack (DiskP.mk2 (p := p) (nb := nb) (wb := wb) (ov := ov) (len := D.now.length) (on := D.order.length) (nowv := (D.now.map str).set (0 + (m : Int).toNat * 1) (str s)) (ordv := D.order.map int) (wasv := D.was.map fun q => (q.1, str q.2)) (f := if -1 < D.fuse - 1 then D.fuse - 1 else -1) (g := D.gone) hok ?_ ?_ rfl rfl rfl ?_ rfl) Imp.all)
    · simp
    · simp
    · dsimp only; omega
  | false =>
    have e1 : D.write m s = ({ D with fuse := max (-1) (D.fuse - 1), now := D.now.set m s, was := D.was ++ [((m : Int), D.now[m]'hm)], order := D.order ++ [(m : Int)] }, 0) := by rw [e0]; simp [hw, List.getD_eq_getElem?_getD, hmm]
    rw [e1] at hok ⊢
    rw [lookI_some, hw]
    (repeat (first | refine W.ctl rfl ?_ | refine W.op rfl rfl rfl rfl ?_ | refine W.skip rfl rfl ?_ | refine W.fld rfl rfl rfl rfl rfl ?_ | refine W.ld rfl rfl rfl rfl rfl ?_))
    refine W.anyq (fun j => !Nat.beq j 12) [0, 1, 2, 3, 4, 5, 6, 7, 8, 9, 10, 11] (by kernel_rfl) (by kernel_rfl) (by kernel_rfl) (by kernel_rfl) rfl ?_
    (repeat (first | refine W.ctl rfl ?_ | refine W.op rfl rfl rfl rfl ?_ | refine W.skip rfl rfl ?_ | refine W.fld rfl rfl rfl rfl rfl ?_ | refine W.ld rfl rfl rfl rfl rfl ?_))
    refine W.idx rfl rfl rfl rfl rfl rfl (by omega) (by omega) ?_
    refine W.ldi (v := str (D.now[m]'hm)) rfl rfl rfl rfl rfl (by simp [hm]) ?_
    refine W.tdn ?_
    refine W.ald1 12 (by kernel_rfl) rfl ?_
    refine W.mput rfl rfl rfl rfl rfl rfl ?_
    refine W.afb (W.adn (by kernel_rfl) ?_)
    (repeat (first | refine W.ctl rfl ?_ | refine W.op rfl rfl rfl rfl ?_ | refine W.skip rfl rfl ?_ | refine W.fld rfl rfl rfl rfl rfl ?_ | refine W.ld rfl rfl rfl rfl rfl ?_))
    refine W.bsl (vs := [_]) rfl rfl rfl rfl ⟨rfl, rfl, trivial⟩ rfl rfl rfl fun g => ?_
    (repeat (first | refine W.ctl rfl ?_ | refine W.op rfl rfl rfl rfl ?_ | refine W.skip rfl rfl ?_ | refine W.fld rfl rfl rfl rfl rfl ?_ | refine W.ld rfl rfl rfl rfl rfl ?_))
    have ho := hD.order_le
    refine W.app (kk := 1) (n' := D.order.length) (xs := D.order.map int) (news := [int m]) rfl rfl rfl rfl rfl rfl rfl rfl rfl (by omega) (by omega) fun v' _ => ?_
    (repeat (first | refine W.ctl rfl ?_ | refine W.op rfl rfl rfl rfl ?_ | refine W.skip rfl rfl ?_ | refine W.fld rfl rfl rfl rfl rfl ?_ | refine W.ld rfl rfl rfl rfl rfl ?_))
    refine W.st rfl rfl rfl rfl rfl ?_
    (repeat (first | refine W.ctl rfl ?_ | refine W.op rfl rfl rfl rfl ?_ | refine W.skip rfl rfl ?_ | refine W.fld rfl rfl rfl rfl rfl ?_ | refine W.ld rfl rfl rfl rfl rfl ?_))
    refine W.idx rfl rfl rfl rfl rfl rfl (by omega) (by omega) ?_
    refine W.sti rfl rfl rfl rfl rfl (by simp; omega) ?_
    (repeat (first | refine W.ctl rfl ?_ | refine W.op rfl rfl rfl rfl ?_ | refine W.skip rfl rfl ?_ | refine W.fld rfl rfl rfl rfl rfl ?_ | refine W.ld rfl rfl rfl rfl rfl ?_))
    have hw2 : lookI (m : Int) (D.was.map fun q => (q.1, str q.2)) = none := by
      have := lookI_some (n := (m : Int)) (l := D.was)
      rw [hw] at this
      cases hq : lookI (m : Int) (D.was.map fun q => (q.1, str q.2)) with
      | none => rfl
      | some v => rw [hq] at this; cases this
    refine W.ret1 (.inr rfl) rfl rfl (DiskP p { D with fuse := max (-1) (D.fuse - 1), now := D.now.set m s, was := D.was ++ [((m : Int), D.now[m]'hm)], order := D.order ++ [(m : Int)] }) ⟨rfl, rfl⟩
      (Imp.pack (DiskP.mk2 (p := p) (nb := nb) (wb := wb) (ov := v') (len := D.now.length) (on := D.order.length + 1) (nowv := (D.now.map str).set (0 + (m : Int).toNat * 1) (str s)) (ordv := D.order.map int ++ [int m]) (wasv := putI m (str (D.now[m]'hm)) (D.was.map fun q => (q.1, str q.2))) (f := if -1 < D.fuse - 1 then D.fuse - 1 else -1) (g := D.gone) hok ?_ ?_ ?_ ?_ ?_ ?_ rfl) Imp.all)
    · simp
    · simp
    · rw [putI_new hw2]; simp
    · simp
    · simp
    · dsimp only; omega
end Go.Proofs.YtbdhhedfplkidaaGreat
/- Pages on a disk; the store's heads. -/
namespace Go.Proofs.YtbdhhedfplkidaaGreat
open Go
open M (Str Disk DiskOk Store)
set_option maxHeartbeats 400000
set_option maxRecDepth 2000
theorem page_Write (p : Nat) (D : Disk) (n kind : Int) (text : Str) (ht : text.length < 9223372036854775808) : CS 137 [ptr p, int n, int kind, str text] (DiskP p D) fun v H' => v = int (M.pageWrite D n kind text).2 ∧ H' = DiskP p (M.pageWrite D n kind text).1 := by
  refine CS.walk Tryz.func137 rfl Tryz.ntmps137 rfl fun c R => ?_
  (repeat (first | refine W.ctl rfl ?_ | refine W.op rfl rfl rfl rfl ?_ | refine W.skip rfl rfl ?_ | refine W.fld rfl rfl rfl rfl rfl ?_ | refine W.ld rfl rfl rfl rfl rfl ?_))
  refine W.call (page_Seal kind text ht) rfl rfl rfl rfl Tryz.call168 ⟨rfl, rfl, trivial⟩ ?_
  rintro _ _ ⟨rfl, rfl⟩
  (repeat (first | refine W.ctl rfl ?_ | refine W.op rfl rfl rfl rfl ?_ | refine W.skip rfl rfl ?_ | refine W.fld rfl rfl rfl rfl rfl ?_ | refine W.ld rfl rfl rfl rfl rfl ?_))
  by_cases h : (M.sealP kind text).2 ≠ 0
  · refine W.yes rfl rfl rfl rfl h ?_
    (repeat (first | refine W.ctl rfl ?_ | refine W.op rfl rfl rfl rfl ?_ | refine W.skip rfl rfl ?_ | refine W.fld rfl rfl rfl rfl rfl ?_ | refine W.ld rfl rfl rfl rfl rfl ?_))
    rw [M.pageWrite, if_pos h]
    exact W.ret1 (.inr rfl) rfl rfl (DiskP p D) ⟨rfl, rfl⟩ Imp.all
  · refine W.no rfl rfl rfl rfl h ?_
    (repeat (first | refine W.ctl rfl ?_ | refine W.op rfl rfl rfl rfl ?_ | refine W.skip rfl rfl ?_ | refine W.fld rfl rfl rfl rfl rfl ?_ | refine W.ld rfl rfl rfl rfl rfl ?_))
    rw [M.pageWrite, if_neg h]
    refine W.call (disk_Write p D n _) rfl rfl rfl rfl Tryz.call169 ⟨rfl, rfl, rfl, trivial⟩ ?_
    rintro _ _ ⟨rfl, rfl⟩
    (repeat (first | refine W.ctl rfl ?_ | refine W.op rfl rfl rfl rfl ?_ | refine W.skip rfl rfl ?_ | refine W.fld rfl rfl rfl rfl rfl ?_ | refine W.ld rfl rfl rfl rfl rfl ?_))
    exact W.ret1 (.inr rfl) rfl rfl _ ⟨rfl, rfl⟩ Imp.all
theorem read_len {D : Disk} (h : DiskOk D) (n : Int) : (D.read n).1.length < 9223372036854775808 := by
  unfold Disk.read
  split
  · simp
  split
  · simp
  · rw [List.getD_eq_getElem?_getD]
    cases hq : D.now[n.toNat]? with
    | none => simp
    | some x => have := h.full x (List.mem_of_getElem? hq); simp; omega
theorem page_Read (p : Nat) (D : Disk) (n : Int) : CS 132 [ptr p, int n] (DiskP p D) fun v H' => v = .tuple #[int (M.pageRead D n).1, str (M.pageRead D n).2.1, int (M.pageRead D n).2.2] ∧ H' = DiskP p D := by
  refine CS.walk Tryz.func132 rfl Tryz.ntmps132 rfl fun c R => ?_
  (repeat (first | refine W.ctl rfl ?_ | refine W.op rfl rfl rfl rfl ?_ | refine W.skip rfl rfl ?_ | refine W.fld rfl rfl rfl rfl rfl ?_ | refine W.ld rfl rfl rfl rfl rfl ?_))
  refine W.open (DiskP.opn p D) rfl ?_
  rintro ⟨nb, wb, ov⟩ hD
  refine W.imp (H' := DiskP p D • R) rfl (Imp.pack (DiskP.mk (nb, wb, ov) hD) Imp.all) ?_
  refine W.call (disk_Read p D n) rfl rfl rfl rfl Tryz.call163 ⟨rfl, rfl, trivial⟩ ?_
  rintro _ _ ⟨rfl, rfl⟩
  (repeat (first | refine W.ctl rfl ?_ | refine W.op rfl rfl rfl rfl ?_ | refine W.skip rfl rfl ?_ | refine W.fld rfl rfl rfl rfl rfl ?_ | refine W.ld rfl rfl rfl rfl rfl ?_))
  by_cases h : (D.read n).2 ≠ 0
  · refine W.yes rfl rfl rfl rfl h ?_
    (repeat (first | refine W.ctl rfl ?_ | refine W.op rfl rfl rfl rfl ?_ | refine W.skip rfl rfl ?_ | refine W.fld rfl rfl rfl rfl rfl ?_ | refine W.ld rfl rfl rfl rfl rfl ?_))
    rw [M.pageRead, if_pos h]
    exact W.ret3 (.inr rfl) rfl rfl rfl rfl (DiskP p D) ⟨rfl, rfl⟩ Imp.all
  · refine W.no rfl rfl rfl rfl h ?_
    (repeat (first | refine W.ctl rfl ?_ | refine W.op rfl rfl rfl rfl ?_ | refine W.skip rfl rfl ?_ | refine W.fld rfl rfl rfl rfl rfl ?_ | refine W.ld rfl rfl rfl rfl rfl ?_))
    rw [M.pageRead, if_neg h]
    refine W.call (page_Open _ (read_len hD n)) rfl rfl rfl rfl Tryz.call164 ⟨rfl, trivial⟩ ?_
    rintro _ _ ⟨rfl, rfl⟩
    (repeat (first | refine W.ctl rfl ?_ | refine W.op rfl rfl rfl rfl ?_ | refine W.skip rfl rfl ?_ | refine W.fld rfl rfl rfl rfl rfl ?_ | refine W.ld rfl rfl rfl rfl rfl ?_))
    exact W.ret3 (.inr rfl) rfl rfl rfl rfl (DiskP p D) ⟨rfl, rfl⟩ Imp.all
abbrev headV (gen root : Int) (used : Str) : Value := .agg #[int gen, int root, str used]
theorem put_be {s n : Nat} (hs : 1 ≤ s) (hs8 : s ≤ 8) (hn : n < 256 ^ s) : M.put n s = (M.be s n, 0) := by
  rw [M.put, if_pos ⟨by omega, by omega, by simpa using hn⟩]; simp
theorem be_len : ∀ s n, (M.be s n).length = s := by
  intro s
  induction s with
  | zero => intro n; rfl
  | succ s ih => intro n; simp [M.be, ih]
theorem head_text (gen root : Int) (used : Str) (hu : used.length < 4611686018427387904) (hg : 0 ≤ gen) (hg2 : gen < 281474976710656) (hr : 0 ≤ root) (hr2 : root < 65536) : CS 138 [headV gen root used] emp fun v H' => v = str (M.headText gen root used) ∧ H' = emp := by
  obtain ⟨g, rfl⟩ := Int.eq_ofNat_of_zero_le hg
  obtain ⟨r, rfl⟩ := Int.eq_ofNat_of_zero_le hr
  refine CS.walk Tryz.func138 rfl Tryz.ntmps138 rfl fun c R => ?_
  (repeat (first | refine W.ctl rfl ?_ | refine W.op rfl rfl rfl rfl ?_ | refine W.skip rfl rfl ?_ | refine W.fld rfl rfl rfl rfl rfl ?_ | refine W.ld rfl rfl rfl rfl rfl ?_))
  refine W.box rfl rfl rfl rfl rfl fun b => ?_
  (repeat (first | refine W.ctl rfl ?_ | refine W.op rfl rfl rfl rfl ?_ | refine W.skip rfl rfl ?_ | refine W.fld rfl rfl rfl rfl rfl ?_ | refine W.ld rfl rfl rfl rfl rfl ?_))
  refine W.cv rfl rfl rfl rfl rfl (wrap_u64 (by omega) (by omega)) ?_
  (repeat (first | refine W.ctl rfl ?_ | refine W.op rfl rfl rfl rfl ?_ | refine W.skip rfl rfl ?_ | refine W.fld rfl rfl rfl rfl rfl ?_ | refine W.ld rfl rfl rfl rfl rfl ?_))
  refine W.call (num_Put g 6 (by omega) (by omega) (by omega)) rfl rfl rfl rfl Tryz.call54 ⟨rfl, rfl, trivial⟩ ?_
  rintro _ _ ⟨rfl, rfl⟩
  (repeat (first | refine W.ctl rfl ?_ | refine W.op rfl rfl rfl rfl ?_ | refine W.skip rfl rfl ?_ | refine W.fld rfl rfl rfl rfl rfl ?_ | refine W.ld rfl rfl rfl rfl rfl ?_))
  refine W.cv rfl rfl rfl rfl rfl (wrap_u64 (by omega) (by omega)) ?_
  (repeat (first | refine W.ctl rfl ?_ | refine W.op rfl rfl rfl rfl ?_ | refine W.skip rfl rfl ?_ | refine W.fld rfl rfl rfl rfl rfl ?_ | refine W.ld rfl rfl rfl rfl rfl ?_))
  refine W.call (num_Put r 2 (by omega) (by omega) (by omega)) rfl rfl rfl rfl Tryz.call54 ⟨rfl, rfl, trivial⟩ ?_
  rintro _ _ ⟨rfl, rfl⟩
  (repeat (first | refine W.ctl rfl ?_ | refine W.op rfl rfl rfl rfl ?_ | refine W.skip rfl rfl ?_ | refine W.fld rfl rfl rfl rfl rfl ?_ | refine W.ld rfl rfl rfl rfl rfl ?_))
  have e1 : (M.put g 6).1 = M.be 6 g := congrArg (·.1) (put_be (s := 6) (n := g) (by omega) (by omega) (by omega))
  have e2 : (M.put r 2).1 = M.be 2 r := congrArg (·.1) (put_be (s := 2) (n := r) (by omega) (by omega) (by omega))
  refine W.scat (s := (M.put g 6).1) (u := (M.put r 2).1) rfl rfl rfl rfl rfl rfl (by rw [e1, e2]; simp [be_len]) ?_
  (repeat (first | refine W.ctl rfl ?_ | refine W.op rfl rfl rfl rfl ?_ | refine W.skip rfl rfl ?_ | refine W.fld rfl rfl rfl rfl rfl ?_ | refine W.ld rfl rfl rfl rfl rfl ?_))
  refine W.scat (u := used) rfl rfl rfl rfl rfl rfl (by rw [e1, e2]; simp [be_len]; omega) ?_
  (repeat (first | refine W.ctl rfl ?_ | refine W.op rfl rfl rfl rfl ?_ | refine W.skip rfl rfl ?_ | refine W.fld rfl rfl rfl rfl rfl ?_ | refine W.ld rfl rfl rfl rfl rfl ?_))
  refine W.ret1 (.inr rfl) rfl rfl emp ⟨?_, rfl⟩ Imp.all
  rw [e1, e2]
  simp [M.headText]
theorem headText_len (gen root : Int) (used : Str) : (M.headText gen root used).length = 8 + used.length := by
  simp [M.headText, be_len]; omega
theorem head_lay (p : Nat) (D : Disk) (gen root : Int) (used : Str) (hg : 0 ≤ gen) (hg2 : gen < 281474976710656) (hr : 0 ≤ root) (hr2 : root < 65536) (hu : used.length < 4611686018427387904) : CS 98 [headV gen root used, ptr p] (DiskP p D) fun v H' => v = int (M.headLay D gen root used).2 ∧ H' = DiskP p (M.headLay D gen root used).1 := by
  refine CS.walk Tryz.func98 rfl Tryz.ntmps98 rfl fun c R => ?_
  (repeat (first | refine W.ctl rfl ?_ | refine W.op rfl rfl rfl rfl ?_ | refine W.skip rfl rfl ?_ | refine W.fld rfl rfl rfl rfl rfl ?_ | refine W.ld rfl rfl rfl rfl rfl ?_))
  refine W.box rfl rfl rfl rfl rfl fun b => ?_
  (repeat (first | refine W.ctl rfl ?_ | refine W.op rfl rfl rfl rfl ?_ | refine W.skip rfl rfl ?_ | refine W.fld rfl rfl rfl rfl rfl ?_ | refine W.ld rfl rfl rfl rfl rfl ?_))
  refine W.anyq (f := 3) (fun j => !Nat.beq j 6 && !Nat.beq j 7) [0, 1, 2, 3, 4] (by kernel_rfl) (by kernel_rfl) (by kernel_rfl) (by kernel_rfl) rfl ?_
  (repeat (first | refine W.ctl rfl ?_ | refine W.op rfl rfl rfl rfl ?_ | refine W.skip rfl rfl ?_ | refine W.fld rfl rfl rfl rfl rfl ?_ | refine W.ld rfl rfl rfl rfl rfl ?_))
  obtain ⟨g, rfl⟩ := Int.eq_ofNat_of_zero_le hg
  refine W.bin rfl rfl rfl rfl rfl rfl (fun w => M.bin_rem .i64 _ g 2 w (by decide)) ?_
  (repeat (first | refine W.ctl rfl ?_ | refine W.op rfl rfl rfl rfl ?_ | refine W.skip rfl rfl ?_ | refine W.fld rfl rfl rfl rfl rfl ?_ | refine W.ld rfl rfl rfl rfl rfl ?_))
  refine W.lds rfl rfl rfl rfl rfl ?_
  refine W.tdn ?_
  refine W.ald1 5 (by kernel_rfl) rfl ?_
  refine W.call (head_text g root used hu hg hg2 hr hr2) rfl rfl rfl rfl Tryz.call138 ⟨rfl, trivial⟩ ?_
  rintro _ _ ⟨rfl, rfl⟩
  refine W.aft Imp.all ?_
  refine W.ald1 6 (by kernel_rfl) rfl ?_
  refine W.call (page_Write p D _ _ _ (by rw [headText_len]; omega)) rfl rfl rfl rfl Tryz.call137 ⟨rfl, rfl, rfl, rfl, trivial⟩ ?_
  rintro _ _ ⟨rfl, rfl⟩
  refine W.afb ?_
  refine W.ald1 7 (by kernel_rfl) rfl ?_
  (repeat (first | refine W.ctl rfl ?_ | refine W.op rfl rfl rfl rfl ?_ | refine W.skip rfl rfl ?_ | refine W.fld rfl rfl rfl rfl rfl ?_ | refine W.ld rfl rfl rfl rfl rfl ?_))
  refine W.afb (W.adn (by kernel_rfl) ?_)
  (repeat (first | refine W.ctl rfl ?_ | refine W.op rfl rfl rfl rfl ?_ | refine W.skip rfl rfl ?_ | refine W.fld rfl rfl rfl rfl rfl ?_ | refine W.ld rfl rfl rfl rfl rfl ?_))
  have e : M.headLay D g root used = if (M.pageWrite D (↑(g % 2)) 1 (M.headText (↑g) root used)).2 ≠ 0 then M.pageWrite D (↑(g % 2)) 1 (M.headText (↑g) root used) else (M.pageWrite D (↑(g % 2)) 1 (M.headText (↑g) root used)).1.sync := rfl
  rw [e]
  by_cases h : (M.pageWrite D (↑(g % 2)) 1 (M.headText (↑g) root used)).2 ≠ 0
  · refine W.yes rfl rfl rfl rfl h ?_
    (repeat (first | refine W.ctl rfl ?_ | refine W.op rfl rfl rfl rfl ?_ | refine W.skip rfl rfl ?_ | refine W.fld rfl rfl rfl rfl rfl ?_ | refine W.ld rfl rfl rfl rfl rfl ?_))
    rw [if_pos h]
    exact W.ret1 (.inr rfl) rfl rfl _ ⟨rfl, rfl⟩ Imp.all
  · refine W.no rfl rfl rfl rfl h ?_
    (repeat (first | refine W.ctl rfl ?_ | refine W.op rfl rfl rfl rfl ?_ | refine W.skip rfl rfl ?_ | refine W.fld rfl rfl rfl rfl rfl ?_ | refine W.ld rfl rfl rfl rfl rfl ?_))
    refine W.call (disk_Sync p (M.pageWrite D (↑(g % 2)) 1 (M.headText (↑g) root used)).1) rfl rfl rfl rfl Tryz.call97 ⟨rfl, trivial⟩ ?_
    rintro _ _ ⟨rfl, rfl⟩
    (repeat (first | refine W.ctl rfl ?_ | refine W.op rfl rfl rfl rfl ?_ | refine W.skip rfl rfl ?_ | refine W.fld rfl rfl rfl rfl rfl ?_ | refine W.ld rfl rfl rfl rfl rfl ?_))
    rw [if_neg h]
    exact W.ret1 (.inr rfl) rfl rfl _ ⟨rfl, rfl⟩ Imp.all
/-! ### the store -/
structure StoreOk (S : Store) : Prop where
  disk : DiskOk S.d
  gen0 : 0 ≤ S.gen
  gen1 : S.gen < 281474976710656
  root0 : 0 ≤ S.root
  root1 : S.root < 640
  used : S.used.length = 80
abbrev mset (l : List Int) : List (Int × Value) := l.map fun n => (n, .bool true)
abbrev StoreB (p dp : Nat) (S : Store) (x : Nat × Nat) (R : HProp) : HProp := row p 153 [ptr dp, int S.gen, int S.root, str S.used, .map (some x.1), .map (some x.2), .bool S.down] •
  DiskP dp S.d • mapI .i64 x.1 (mset S.fresh) • mapI .i64 x.2 (mset S.given) • R
def StoreP (p dp : Nat) (S : Store) : HProp := ex fun x => pr (StoreOk S) • StoreB p dp S x emp
theorem StoreP.opn (p dp : Nat) (S : Store) (R : HProp) : Imp (StoreP p dp S • R) (ex fun x => pr (StoreOk S) • StoreB p dp S x R) :=
  Imp.opn' fun x => by simp only [StoreB, sep_assoc', emp_sep]
theorem StoreP.mk {p dp : Nat} {S : Store} (x : Nat × Nat) (h : StoreOk S) : Imp (StoreB p dp S x emp) (StoreP p dp S) := Imp.mk (B := fun x => StoreB p dp S x emp) (φ := fun _ => StoreOk S) x h
theorem shadow_Root (p dp : Nat) (S : Store) : CS 47 [ptr p] (StoreP p dp S) fun v H' => v = int S.root ∧ H' = StoreP p dp S := by
  refine CS.walk Tryz.func47 rfl Tryz.ntmps47 rfl fun c R => ?_
  refine W.open (StoreP.opn p dp S) rfl ?_
  rintro ⟨fb, gb⟩ hS
  (repeat (first | refine W.ctl rfl ?_ | refine W.op rfl rfl rfl rfl ?_ | refine W.skip rfl rfl ?_ | refine W.fld rfl rfl rfl rfl rfl ?_ | refine W.ld rfl rfl rfl rfl rfl ?_))
  exact W.ret1 (.inr rfl) rfl rfl (StoreP p dp S) ⟨rfl, rfl⟩ (Imp.pack (StoreP.mk (fb, gb) hS) Imp.all)
theorem shadow_Size (p dp : Nat) (S : Store) : CS 77 [ptr p] (StoreP p dp S) fun v H' => v = int S.size ∧ H' = StoreP p dp S := by
  refine CS.walk Tryz.func77 rfl Tryz.ntmps77 rfl fun c R => ?_
  refine W.open (StoreP.opn p dp S) rfl ?_
  rintro ⟨fb, gb⟩ hS
  (repeat (first | refine W.ctl rfl ?_ | refine W.op rfl rfl rfl rfl ?_ | refine W.skip rfl rfl ?_ | refine W.fld rfl rfl rfl rfl rfl ?_ | refine W.ld rfl rfl rfl rfl rfl ?_))
  refine W.call (disk_Size dp S.d) rfl rfl rfl rfl Tryz.call125 ⟨rfl, trivial⟩ ?_
  rintro _ _ ⟨rfl, rfl⟩
  (repeat (first | refine W.ctl rfl ?_ | refine W.op rfl rfl rfl rfl ?_ | refine W.skip rfl rfl ?_ | refine W.fld rfl rfl rfl rfl rfl ?_ | refine W.ld rfl rfl rfl rfl rfl ?_))
  exact W.ret1 (.inr rfl) rfl rfl (StoreP p dp S) ⟨rfl, rfl⟩ (Imp.pack (StoreP.mk (fb, gb) hS) Imp.all)
theorem told_eq (S : Store) (e : Int) : S.told e = { S with down := S.down || decide (e = 5) } := by
  unfold Store.told; congr 2
theorem told_ok {S : Store} (h : StoreOk S) (e : Int) : StoreOk (S.told e) := ⟨h.disk, h.gen0, h.gen1, h.root0, h.root1, h.used⟩
theorem shadow_told (p dp : Nat) (S : Store) (e : Int) : CS 96 [ptr p, int e] (StoreP p dp S) fun v H' => v = int e ∧ H' = StoreP p dp (S.told e) := by
  refine CS.walk Tryz.func96 rfl Tryz.ntmps96 rfl fun c R => ?_
  refine W.open (StoreP.opn p dp S) rfl ?_
  rintro ⟨fb, gb⟩ hS
  have hS' := told_ok hS e
  rw [told_eq] at hS' ⊢
  (repeat (first | refine W.ctl rfl ?_ | refine W.op rfl rfl rfl rfl ?_ | refine W.skip rfl rfl ?_ | refine W.fld rfl rfl rfl rfl rfl ?_ | refine W.ld rfl rfl rfl rfl rfl ?_))
  cases hd : S.down with
  | true =>
    simp only [hd, Bool.true_or] at hS' ⊢
    (repeat (first | refine W.ctl rfl ?_ | refine W.op rfl rfl rfl rfl ?_ | refine W.skip rfl rfl ?_ | refine W.fld rfl rfl rfl rfl rfl ?_ | refine W.ld rfl rfl rfl rfl rfl ?_))
    refine W.st rfl rfl rfl rfl rfl ?_
    (repeat (first | refine W.ctl rfl ?_ | refine W.op rfl rfl rfl rfl ?_ | refine W.skip rfl rfl ?_ | refine W.fld rfl rfl rfl rfl rfl ?_ | refine W.ld rfl rfl rfl rfl rfl ?_))
    exact W.ret1 (.inr rfl) rfl rfl _ ⟨rfl, rfl⟩ (Imp.pack (StoreP.mk (fb, gb) hS') Imp.all)
  | false =>
    simp only [hd, Bool.false_or] at hS' ⊢
    (repeat (first | refine W.ctl rfl ?_ | refine W.op rfl rfl rfl rfl ?_ | refine W.skip rfl rfl ?_ | refine W.fld rfl rfl rfl rfl rfl ?_ | refine W.ld rfl rfl rfl rfl rfl ?_))
    by_cases he : e = 5
    · refine W.yes rfl rfl rfl rfl he ?_
      simp only [he, decide_true] at hS' ⊢
      (repeat (first | refine W.ctl rfl ?_ | refine W.op rfl rfl rfl rfl ?_ | refine W.skip rfl rfl ?_ | refine W.fld rfl rfl rfl rfl rfl ?_ | refine W.ld rfl rfl rfl rfl rfl ?_))
      refine W.st rfl rfl rfl rfl rfl ?_
      (repeat (first | refine W.ctl rfl ?_ | refine W.op rfl rfl rfl rfl ?_ | refine W.skip rfl rfl ?_ | refine W.fld rfl rfl rfl rfl rfl ?_ | refine W.ld rfl rfl rfl rfl rfl ?_))
      exact W.ret1 (.inr rfl) rfl rfl _ ⟨rfl, rfl⟩ (Imp.pack (StoreP.mk (fb, gb) hS') Imp.all)
    · refine W.no rfl rfl rfl rfl he ?_
      simp only [he, decide_false] at hS' ⊢
      (repeat (first | refine W.ctl rfl ?_ | refine W.op rfl rfl rfl rfl ?_ | refine W.skip rfl rfl ?_ | refine W.fld rfl rfl rfl rfl rfl ?_ | refine W.ld rfl rfl rfl rfl rfl ?_))
      refine W.st rfl rfl rfl rfl rfl ?_
      (repeat (first | refine W.ctl rfl ?_ | refine W.op rfl rfl rfl rfl ?_ | refine W.skip rfl rfl ?_ | refine W.fld rfl rfl rfl rfl rfl ?_ | refine W.ld rfl rfl rfl rfl rfl ?_))
      exact W.ret1 (.inr rfl) rfl rfl _ ⟨rfl, rfl⟩ (Imp.pack (StoreP.mk (fb, gb) hS') Imp.all)
end Go.Proofs.YtbdhhedfplkidaaGreat
/- The store: what its functions do. -/
namespace Go.Proofs.YtbdhhedfplkidaaGreat
open Go
open M (Str Disk DiskOk Store)
set_option maxHeartbeats 400000
set_option maxRecDepth 2000
theorem lookI_mset (n : Int) : ∀ l : List Int, lookI n (mset l) = if n ∈ l then some (.bool true) else none
  | [] => rfl
  | m :: l => by
    simp only [mset, List.map_cons, lookI, List.mem_cons]
    by_cases h : n = m
    · simp [h]
    · have := lookI_mset n l
      simp only [mset] at this
      simp [h, this]
theorem getD_mset (n : Int) (l : List Int) : (lookI n (mset l)).getD (.bool false) = .bool (decide (n ∈ l)) := by
  rw [lookI_mset]; by_cases h : n ∈ l <;> simp [h]
theorem delI_mset (n : Int) : ∀ l : List Int, delI n (mset l) = mset (l.erase n)
  | [] => rfl
  | m :: l => by
    simp only [mset, List.map_cons, delI, List.erase_cons]
    by_cases h : n = m
    · simp [h]
    · have := delI_mset n l
      simp only [mset] at this
      rw [if_neg h, if_neg (by simpa using Ne.symm h)]
      simp [this]
theorem putI_mset {n : Int} {l : List Int} (h : n ∉ l) : putI n (.bool true) (mset l) = mset (l ++ [n]) := by
  rw [putI_new (by rw [lookI_mset, if_neg h])]; simp [mset]
theorem shadow_Fresh (p dp : Nat) (S : Store) (n : Int) : CS 117 [ptr p, int n] (StoreP p dp S) fun v H' => v = .bool (decide (n ∈ S.fresh)) ∧ H' = StoreP p dp S := by
  refine CS.walk Tryz.func117 rfl Tryz.ntmps117 rfl fun c R => ?_
  refine W.open (StoreP.opn p dp S) rfl ?_
  rintro ⟨fb, gb⟩ hS
  (repeat (first | refine W.ctl rfl ?_ | refine W.op rfl rfl rfl rfl ?_ | refine W.skip rfl rfl ?_ | refine W.fld rfl rfl rfl rfl rfl ?_ | refine W.ld rfl rfl rfl rfl rfl ?_))
  refine W.mgt rfl rfl rfl rfl rfl rfl ?_
  rw [getD_mset]
  (repeat (first | refine W.ctl rfl ?_ | refine W.op rfl rfl rfl rfl ?_ | refine W.skip rfl rfl ?_ | refine W.fld rfl rfl rfl rfl rfl ?_ | refine W.ld rfl rfl rfl rfl rfl ?_))
  exact W.ret1 (.inr rfl) rfl rfl (StoreP p dp S) ⟨rfl, rfl⟩ (Imp.pack (StoreP.mk (fb, gb) hS) Imp.all)
theorem read_ok {S : Store} (h : StoreOk S) (n : Int) : StoreOk (S.read n).1 := by
  unfold Store.read
  split
  · exact h
  split
  · exact h
  · exact told_ok h _
theorem shadow_Read (p dp : Nat) (S : Store) (n : Int) : CS 122 [ptr p, int n] (StoreP p dp S) fun v H' => v = .tuple #[int (S.read n).2.1, str (S.read n).2.2.1, int (S.read n).2.2.2] ∧ H' = StoreP p dp (S.read n).1 := by
  refine CS.walk Tryz.func122 rfl Tryz.ntmps122 rfl fun c R => ?_
  refine W.open (StoreP.opn p dp S) rfl ?_
  rintro ⟨fb, gb⟩ hS
  (repeat (first | refine W.ctl rfl ?_ | refine W.op rfl rfl rfl rfl ?_ | refine W.skip rfl rfl ?_ | refine W.fld rfl rfl rfl rfl rfl ?_ | refine W.ld rfl rfl rfl rfl rfl ?_))
  refine W.case 7 rfl (fun hd => ?_) (fun hd => ?_)
  · (repeat (first | refine W.ctl rfl ?_ | refine W.op rfl rfl rfl rfl ?_ | refine W.skip rfl rfl ?_ | refine W.fld rfl rfl rfl rfl rfl ?_ | refine W.ld rfl rfl rfl rfl rfl ?_))
    have e : S.read n = (S, 0, [], 5) := by rw [Store.read, if_pos hd]
    rw [e]
    exact W.ret3 (.inr rfl) rfl rfl rfl rfl (StoreP p dp S) ⟨rfl, rfl⟩ (Imp.pack (StoreP.mk (fb, gb) hS) Imp.all)
  have e0 : S.read n = if n < 2 ∨ n ≥ S.size then (S, 0, [], 1) else (S.told (M.pageRead S.d n).2.2, M.pageRead S.d n) := by rw [Store.read, if_neg (by simp [hd])]
  (repeat (first | refine W.ctl rfl ?_ | refine W.op rfl rfl rfl rfl ?_ | refine W.skip rfl rfl ?_ | refine W.fld rfl rfl rfl rfl rfl ?_ | refine W.ld rfl rfl rfl rfl rfl ?_))
  by_cases h1 : n < 2
  · refine W.yes rfl rfl rfl rfl h1 ?_
    (repeat (first | refine W.ctl rfl ?_ | refine W.op rfl rfl rfl rfl ?_ | refine W.skip rfl rfl ?_ | refine W.fld rfl rfl rfl rfl rfl ?_ | refine W.ld rfl rfl rfl rfl rfl ?_))
    rw [e0, if_pos (.inl h1)]
    exact W.ret3 (.inr rfl) rfl rfl rfl rfl (StoreP p dp S) ⟨rfl, rfl⟩ (Imp.pack (StoreP.mk (fb, gb) hS) Imp.all)
  refine W.no rfl rfl rfl rfl h1 ?_
  (repeat (first | refine W.ctl rfl ?_ | refine W.op rfl rfl rfl rfl ?_ | refine W.skip rfl rfl ?_ | refine W.fld rfl rfl rfl rfl rfl ?_ | refine W.ld rfl rfl rfl rfl rfl ?_))
  refine W.imp (H' := StoreP p dp S • R) rfl (Imp.pack (StoreP.mk (fb, gb) hS) Imp.all) ?_
  refine W.call (shadow_Size p dp S) rfl rfl rfl rfl Tryz.call77 ⟨rfl, trivial⟩ ?_
  rintro _ _ ⟨rfl, rfl⟩
  (repeat (first | refine W.ctl rfl ?_ | refine W.op rfl rfl rfl rfl ?_ | refine W.skip rfl rfl ?_ | refine W.fld rfl rfl rfl rfl rfl ?_ | refine W.ld rfl rfl rfl rfl rfl ?_))
  by_cases h2 : S.size ≤ n
  · refine W.yes rfl rfl rfl rfl h2 ?_
    (repeat (first | refine W.ctl rfl ?_ | refine W.op rfl rfl rfl rfl ?_ | refine W.skip rfl rfl ?_ | refine W.fld rfl rfl rfl rfl rfl ?_ | refine W.ld rfl rfl rfl rfl rfl ?_))
    rw [e0, if_pos (.inr h2)]
    exact W.ret3 (.inr rfl) rfl rfl rfl rfl (StoreP p dp S) ⟨rfl, rfl⟩ Imp.all
  refine W.no rfl rfl rfl rfl h2 ?_
  rw [if_neg (by omega)] at e0
  refine W.open (StoreP.opn p dp S) rfl ?_
  rintro ⟨fb, gb⟩ _
  (repeat (first | refine W.ctl rfl ?_ | refine W.op rfl rfl rfl rfl ?_ | refine W.skip rfl rfl ?_ | refine W.fld rfl rfl rfl rfl rfl ?_ | refine W.ld rfl rfl rfl rfl rfl ?_))
  refine W.call (page_Read dp S.d n) rfl rfl rfl rfl Tryz.call132 ⟨rfl, rfl, trivial⟩ ?_
  rintro _ _ ⟨rfl, rfl⟩
  (repeat (first | refine W.ctl rfl ?_ | refine W.op rfl rfl rfl rfl ?_ | refine W.skip rfl rfl ?_ | refine W.fld rfl rfl rfl rfl rfl ?_ | refine W.ld rfl rfl rfl rfl rfl ?_))
  refine W.imp (H' := StoreP p dp S • R) rfl (Imp.pack (StoreP.mk (fb, gb) hS) Imp.all) ?_
  refine W.call (shadow_told p dp S _) rfl rfl rfl rfl Tryz.call96 ⟨rfl, rfl, trivial⟩ ?_
  rintro _ _ ⟨rfl, rfl⟩
  (repeat (first | refine W.ctl rfl ?_ | refine W.op rfl rfl rfl rfl ?_ | refine W.skip rfl rfl ?_ | refine W.fld rfl rfl rfl rfl rfl ?_ | refine W.ld rfl rfl rfl rfl rfl ?_))
  rw [e0]
  exact W.ret3 (.inr rfl) rfl rfl rfl rfl _ ⟨rfl, rfl⟩ Imp.all
theorem pageWrite_ok {D : Disk} (h : DiskOk D) (n kind : Int) (text : Str) : DiskOk (M.pageWrite D n kind text).1 := by
  unfold M.pageWrite
  dsimp only
  split
  · exact h
  · exact M.write_ok h _ _
theorem swrite_ok {S : Store} (h : StoreOk S) (n kind : Int) (text : Str) : StoreOk (S.write n kind text).1 := by
  unfold Store.write
  split
  · exact h
  split
  · exact h
  · exact told_ok (S := { S with d := _ }) ⟨pageWrite_ok h.disk _ _ _, h.gen0, h.gen1, h.root0, h.root1, h.used⟩ _
theorem shadow_Write (p dp : Nat) (S : Store) (n kind : Int) (text : Str) (ht : text.length < 9223372036854775808) : CS 150 [ptr p, int n, int kind, str text] (StoreP p dp S) fun v H' => v = int (S.write n kind text).2 ∧ H' = StoreP p dp (S.write n kind text).1 := by
  refine CS.walk Tryz.func150 rfl Tryz.ntmps150 rfl fun c R => ?_
  refine W.open (StoreP.opn p dp S) rfl ?_
  rintro ⟨fb, gb⟩ hS
  (repeat (first | refine W.ctl rfl ?_ | refine W.op rfl rfl rfl rfl ?_ | refine W.skip rfl rfl ?_ | refine W.fld rfl rfl rfl rfl rfl ?_ | refine W.ld rfl rfl rfl rfl rfl ?_))
  refine W.case 9 rfl (fun hd => ?_) (fun hd => ?_)
  · (repeat (first | refine W.ctl rfl ?_ | refine W.op rfl rfl rfl rfl ?_ | refine W.skip rfl rfl ?_ | refine W.fld rfl rfl rfl rfl rfl ?_ | refine W.ld rfl rfl rfl rfl rfl ?_))
    have e : S.write n kind text = (S, 5) := by rw [Store.write, if_pos hd]
    rw [e]
    exact W.ret1 (.inr rfl) rfl rfl (StoreP p dp S) ⟨rfl, rfl⟩ (Imp.pack (StoreP.mk (fb, gb) hS) Imp.all)
  have e0 : S.write n kind text = if n ∉ S.fresh then (S, 6) else (Store.told { S with d := (M.pageWrite S.d n kind text).1 } (M.pageWrite S.d n kind text).2, (M.pageWrite S.d n kind text).2) := by rw [Store.write, if_neg (by simp [hd])]
  (repeat (first | refine W.ctl rfl ?_ | refine W.op rfl rfl rfl rfl ?_ | refine W.skip rfl rfl ?_ | refine W.fld rfl rfl rfl rfl rfl ?_ | refine W.ld rfl rfl rfl rfl rfl ?_))
  refine W.mgt rfl rfl rfl rfl rfl rfl ?_
  rw [getD_mset]
  by_cases h1 : n ∈ S.fresh
  · rw [decide_eq_true h1]
    (repeat (first | refine W.ctl rfl ?_ | refine W.op rfl rfl rfl rfl ?_ | refine W.skip rfl rfl ?_ | refine W.fld rfl rfl rfl rfl rfl ?_ | refine W.ld rfl rfl rfl rfl rfl ?_))
    refine W.call (page_Write dp S.d n kind text ht) rfl rfl rfl rfl Tryz.call137 ⟨rfl, rfl, rfl, rfl, trivial⟩ ?_
    rintro _ _ ⟨rfl, rfl⟩
    have hS2 : StoreOk { S with d := (M.pageWrite S.d n kind text).1 } := ⟨pageWrite_ok hS.disk _ _ _, hS.gen0, hS.gen1, hS.root0, hS.root1, hS.used⟩
    refine W.imp (H' := StoreP p dp { S with d := (M.pageWrite S.d n kind text).1 } • R) rfl (Imp.pack (StoreP.mk (fb, gb) hS2) Imp.all) ?_
    refine W.call (shadow_told p dp { S with d := (M.pageWrite S.d n kind text).1 } _) rfl rfl rfl rfl Tryz.call96 ⟨rfl, rfl, trivial⟩ ?_
    rintro _ _ ⟨rfl, rfl⟩
    (repeat (first | refine W.ctl rfl ?_ | refine W.op rfl rfl rfl rfl ?_ | refine W.skip rfl rfl ?_ | refine W.fld rfl rfl rfl rfl rfl ?_ | refine W.ld rfl rfl rfl rfl rfl ?_))
    rw [e0, if_neg (by simp [h1])]
    exact W.ret1 (.inr rfl) rfl rfl _ ⟨rfl, rfl⟩ Imp.all
  · rw [decide_eq_false h1]
    (repeat (first | refine W.ctl rfl ?_ | refine W.op rfl rfl rfl rfl ?_ | refine W.skip rfl rfl ?_ | refine W.fld rfl rfl rfl rfl rfl ?_ | refine W.ld rfl rfl rfl rfl rfl ?_))
    rw [e0, if_pos h1]
    exact W.ret1 (.inr rfl) rfl rfl (StoreP p dp S) ⟨rfl, rfl⟩ (Imp.pack (StoreP.mk (fb, gb) hS) Imp.all)
theorem give_ok {S : Store} (h : StoreOk S) (n : Int) : StoreOk (S.give n).1 := by
  unfold Store.give
  split
  · exact h
  split
  · exact ⟨h.disk, h.gen0, h.gen1, h.root0, h.root1, h.used⟩
  split
  · exact ⟨h.disk, h.gen0, h.gen1, h.root0, h.root1, h.used⟩
  · exact h
theorem shadow_Give (p dp : Nat) (S : Store) (n : Int) (hn0 : -9223372036854775808 ≤ n) (hn1 : n < 9223372036854775808) : CS 71 [ptr p, int n] (StoreP p dp S) fun v H' => v = int (S.give n).2 ∧ H' = StoreP p dp (S.give n).1 := by
  refine CS.walk Tryz.func71 rfl Tryz.ntmps71 rfl fun c R => ?_
  refine W.open (StoreP.opn p dp S) rfl ?_
  rintro ⟨fb, gb⟩ hS
  have hS' := give_ok hS n
  (repeat (first | refine W.ctl rfl ?_ | refine W.op rfl rfl rfl rfl ?_ | refine W.skip rfl rfl ?_ | refine W.fld rfl rfl rfl rfl rfl ?_ | refine W.ld rfl rfl rfl rfl rfl ?_))
  refine W.case 5 rfl (fun hd => ?_) (fun hd => ?_)
  · (repeat (first | refine W.ctl rfl ?_ | refine W.op rfl rfl rfl rfl ?_ | refine W.skip rfl rfl ?_ | refine W.fld rfl rfl rfl rfl rfl ?_ | refine W.ld rfl rfl rfl rfl rfl ?_))
    have e : S.give n = (S, 5) := by rw [Store.give, if_pos hd]
    rw [e]
    exact W.ret1 (.inr rfl) rfl rfl (StoreP p dp S) ⟨rfl, rfl⟩ (Imp.pack (StoreP.mk (fb, gb) hS) Imp.all)
  have e0 : S.give n = if n ∈ S.fresh then ({ S with fresh := S.fresh.erase n }, 0) else if M.has S.used n = true ∧ n ∉ S.given then ({ S with given := S.given ++ [n] }, 0) else (S, 6) := by rw [Store.give, if_neg (by simp [hd])]
  (repeat (first | refine W.ctl rfl ?_ | refine W.op rfl rfl rfl rfl ?_ | refine W.skip rfl rfl ?_ | refine W.fld rfl rfl rfl rfl rfl ?_ | refine W.ld rfl rfl rfl rfl rfl ?_))
  refine W.mgt rfl rfl rfl rfl rfl rfl ?_
  rw [getD_mset]
  by_cases h1 : n ∈ S.fresh
  · rw [decide_eq_true h1]
    rw [if_pos h1] at e0
    rw [e0] at hS' ⊢
    (repeat (first | refine W.ctl rfl ?_ | refine W.op rfl rfl rfl rfl ?_ | refine W.skip rfl rfl ?_ | refine W.fld rfl rfl rfl rfl rfl ?_ | refine W.ld rfl rfl rfl rfl rfl ?_))
    refine W.mdn rfl rfl rfl rfl rfl ?_
    rw [delI_mset]
    (repeat (first | refine W.ctl rfl ?_ | refine W.op rfl rfl rfl rfl ?_ | refine W.skip rfl rfl ?_ | refine W.fld rfl rfl rfl rfl rfl ?_ | refine W.ld rfl rfl rfl rfl rfl ?_))
    exact W.ret1 (.inr rfl) rfl rfl _ ⟨rfl, rfl⟩ (Imp.pack (StoreP.mk (fb, gb) hS') Imp.all)
  · rw [decide_eq_false h1]
    rw [if_neg h1] at e0
    have hu := hS.used
    (repeat (first | refine W.ctl rfl ?_ | refine W.op rfl rfl rfl rfl ?_ | refine W.skip rfl rfl ?_ | refine W.fld rfl rfl rfl rfl rfl ?_ | refine W.ld rfl rfl rfl rfl rfl ?_))
    refine W.call (bits_Has S.used n (by omega) hn0 hn1) rfl rfl rfl rfl Tryz.call95 ⟨rfl, rfl, trivial⟩ ?_
    rintro _ _ ⟨rfl, rfl⟩
    cases h2 : M.has S.used n with
    | false =>
      (repeat (first | refine W.ctl rfl ?_ | refine W.op rfl rfl rfl rfl ?_ | refine W.skip rfl rfl ?_ | refine W.fld rfl rfl rfl rfl rfl ?_ | refine W.ld rfl rfl rfl rfl rfl ?_))
      rw [e0, if_neg (by simp [h2])]
      exact W.ret1 (.inr rfl) rfl rfl (StoreP p dp S) ⟨rfl, rfl⟩ (Imp.pack (StoreP.mk (fb, gb) hS) Imp.all)
    | true =>
      (repeat (first | refine W.ctl rfl ?_ | refine W.op rfl rfl rfl rfl ?_ | refine W.skip rfl rfl ?_ | refine W.fld rfl rfl rfl rfl rfl ?_ | refine W.ld rfl rfl rfl rfl rfl ?_))
      refine W.mgt rfl rfl rfl rfl rfl rfl ?_
      rw [getD_mset]
      by_cases h3 : n ∈ S.given
      · rw [decide_eq_true h3]
        (repeat (first | refine W.ctl rfl ?_ | refine W.op rfl rfl rfl rfl ?_ | refine W.skip rfl rfl ?_ | refine W.fld rfl rfl rfl rfl rfl ?_ | refine W.ld rfl rfl rfl rfl rfl ?_))
        rw [e0, if_neg (by simp [h3])]
        exact W.ret1 (.inr rfl) rfl rfl (StoreP p dp S) ⟨rfl, rfl⟩ (Imp.pack (StoreP.mk (fb, gb) hS) Imp.all)
      · rw [decide_eq_false h3]
        rw [if_pos ⟨h2, h3⟩] at e0
        rw [e0] at hS' ⊢
        (repeat (first | refine W.ctl rfl ?_ | refine W.op rfl rfl rfl rfl ?_ | refine W.skip rfl rfl ?_ | refine W.fld rfl rfl rfl rfl rfl ?_ | refine W.ld rfl rfl rfl rfl rfl ?_))
        refine W.mput rfl rfl rfl rfl rfl rfl ?_
        rw [putI_mset h3]
        (repeat (first | refine W.ctl rfl ?_ | refine W.op rfl rfl rfl rfl ?_ | refine W.skip rfl rfl ?_ | refine W.fld rfl rfl rfl rfl rfl ?_ | refine W.ld rfl rfl rfl rfl rfl ?_))
        exact W.ret1 (.inr rfl) rfl rfl _ ⟨rfl, rfl⟩ (Imp.pack (StoreP.mk (fb, gb) hS') Imp.all)
theorem takeFrom_ok {S : Store} (h : StoreOk S) : ∀ (k : Nat) (n : Int), StoreOk (S.takeFrom k n).1
  | 0, _ => h
  | k + 1, n => by
    unfold Store.takeFrom
    split
    · exact ⟨h.disk, h.gen0, h.gen1, h.root0, h.root1, h.used⟩
    · exact takeFrom_ok h k (n + 1)
theorem shadow_Take (p dp : Nat) (S : Store) : CS 109 [ptr p] (StoreP p dp S) fun v H' => v = .tuple #[int S.take.2.1, int S.take.2.2] ∧ H' = StoreP p dp S.take.1 := by
  refine CS.walk Tryz.func109 rfl Tryz.ntmps109 rfl fun c R => ?_
  refine W.open (StoreP.opn p dp S) rfl ?_
  rintro ⟨fb, gb⟩ hS
  have hu := hS.used
  have hsz : 8 ≤ S.size ∧ S.size ≤ 640 := by have := hS.disk.least; have := hS.disk.most; simp only [Store.size]; omega
  (repeat (first | refine W.ctl rfl ?_ | refine W.op rfl rfl rfl rfl ?_ | refine W.skip rfl rfl ?_ | refine W.fld rfl rfl rfl rfl rfl ?_ | refine W.ld rfl rfl rfl rfl rfl ?_))
  refine W.case 8 rfl (fun hd => ?_) (fun hd => ?_)
  · (repeat (first | refine W.ctl rfl ?_ | refine W.op rfl rfl rfl rfl ?_ | refine W.skip rfl rfl ?_ | refine W.fld rfl rfl rfl rfl rfl ?_ | refine W.ld rfl rfl rfl rfl rfl ?_))
    have e : S.take = (S, 0, 5) := by rw [Store.take, if_pos hd]
    rw [e]
    exact W.ret2 (.inr rfl) rfl rfl rfl (StoreP p dp S) ⟨rfl, rfl⟩ (Imp.pack (StoreP.mk (fb, gb) hS) Imp.all)
  have e0 : S.take = S.takeFrom (S.size - 2).toNat 2 := by rw [Store.take, if_neg (by simp [hd])]
  (repeat (first | refine W.ctl rfl ?_ | refine W.op rfl rfl rfl rfl ?_ | refine W.skip rfl rfl ?_ | refine W.fld rfl rfl rfl rfl rfl ?_ | refine W.ld rfl rfl rfl rfl rfl ?_))
  refine W.loop (σ := Nat) (fun i => i ≤ (S.size - 2).toNat ∧ S.take = S.takeFrom ((S.size - 2).toNat - i) (2 + i)) (fun i => [(0, ptr p), (4, int (2 + i))]) (fun _ => StoreP p dp S • R) (fun i => (S.size - 2).toNat - i) 0 ⟨by omega, by simpa using e0⟩ ⟨rfl, rfl, trivial⟩ (Imp.pack (StoreP.mk (fb, gb) hS) Imp.all) ?_
  rintro i ⟨hi, ei⟩
  (repeat (first | refine W.ctl rfl ?_ | refine W.op rfl rfl rfl rfl ?_ | refine W.skip rfl rfl ?_ | refine W.fld rfl rfl rfl rfl rfl ?_ | refine W.ld rfl rfl rfl rfl rfl ?_))
  refine W.call (shadow_Size p dp S) rfl rfl rfl rfl Tryz.call77 ⟨rfl, trivial⟩ ?_
  rintro _ _ ⟨rfl, rfl⟩
  (repeat (first | refine W.ctl rfl ?_ | refine W.op rfl rfl rfl rfl ?_ | refine W.skip rfl rfl ?_ | refine W.fld rfl rfl rfl rfl rfl ?_ | refine W.ld rfl rfl rfl rfl rfl ?_))
  by_cases h1 : (2 + i : Int) < S.size
  · refine W.yes rfl rfl rfl rfl h1 ?_
    (repeat (first | refine W.ctl rfl ?_ | refine W.op rfl rfl rfl rfl ?_ | refine W.skip rfl rfl ?_ | refine W.fld rfl rfl rfl rfl rfl ?_ | refine W.ld rfl rfl rfl rfl rfl ?_))
    refine W.open (StoreP.opn p dp S) rfl ?_
    rintro ⟨fb, gb⟩ _
    (repeat (first | refine W.ctl rfl ?_ | refine W.op rfl rfl rfl rfl ?_ | refine W.skip rfl rfl ?_ | refine W.fld rfl rfl rfl rfl rfl ?_ | refine W.ld rfl rfl rfl rfl rfl ?_))
    refine W.call (bits_Has S.used (2 + i) (by omega) (by omega) (by omega)) rfl rfl rfl rfl Tryz.call95 ⟨rfl, rfl, trivial⟩ ?_
    rintro _ _ ⟨rfl, rfl⟩
    obtain ⟨k, hk⟩ : ∃ k, (S.size - 2).toNat - i = k + 1 := ⟨(S.size - 2).toNat - i - 1, by omega⟩
    rw [hk] at ei
    have ei' : S.take = if M.has S.used (2 + i) = false ∧ (2 + i : Int) ∉ S.fresh then ({ S with fresh := S.fresh ++ [(2 + i : Int)] }, 2 + (i : Int), 0) else S.takeFrom k (2 + i + 1) := ei
    have e1 : (2 + (i : Int) + 1) = 2 + ((i + 1 : Nat) : Int) := by omega
    have hk' : (S.size - 2).toNat - (i + 1) = k := by omega
    cases h2 : M.has S.used (2 + i) with
    | true =>
      rw [if_neg (by simp [h2])] at ei'
      (repeat (first | refine W.ctl rfl ?_ | refine W.op rfl rfl rfl rfl ?_ | refine W.skip rfl rfl ?_ | refine W.fld rfl rfl rfl rfl rfl ?_ | refine W.ld rfl rfl rfl rfl rfl ?_))
      refine W.ar (r := 2 + i + 1) rfl rfl rfl rfl rfl rfl rfl (wrap_i64 (by omega) (by omega)) ?_
      (repeat (first | refine W.ctl rfl ?_ | refine W.op rfl rfl rfl rfl ?_ | refine W.skip rfl rfl ?_ | refine W.fld rfl rfl rfl rfl rfl ?_ | refine W.ld rfl rfl rfl rfl rfl ?_))
      rw [e1] at ei' ⊢
      exact W.again (i + 1) ⟨by omega, by rw [hk']; exact ei'⟩ (by omega) ⟨rfl, rfl, trivial⟩ (Imp.pack (StoreP.mk (fb, gb) hS) Imp.all)
    | false =>
      (repeat (first | refine W.ctl rfl ?_ | refine W.op rfl rfl rfl rfl ?_ | refine W.skip rfl rfl ?_ | refine W.fld rfl rfl rfl rfl rfl ?_ | refine W.ld rfl rfl rfl rfl rfl ?_))
      refine W.mgt rfl rfl rfl rfl rfl rfl ?_
      rw [getD_mset]
      by_cases h3 : (2 + i : Int) ∈ S.fresh
      · rw [decide_eq_true h3]
        rw [if_neg (by simp [h3])] at ei'
        (repeat (first | refine W.ctl rfl ?_ | refine W.op rfl rfl rfl rfl ?_ | refine W.skip rfl rfl ?_ | refine W.fld rfl rfl rfl rfl rfl ?_ | refine W.ld rfl rfl rfl rfl rfl ?_))
        refine W.ar (r := 2 + i + 1) rfl rfl rfl rfl rfl rfl rfl (wrap_i64 (by omega) (by omega)) ?_
        (repeat (first | refine W.ctl rfl ?_ | refine W.op rfl rfl rfl rfl ?_ | refine W.skip rfl rfl ?_ | refine W.fld rfl rfl rfl rfl rfl ?_ | refine W.ld rfl rfl rfl rfl rfl ?_))
        rw [e1] at ei' ⊢
        exact W.again (i + 1) ⟨by omega, by rw [hk']; exact ei'⟩ (by omega) ⟨rfl, rfl, trivial⟩ (Imp.pack (StoreP.mk (fb, gb) hS) Imp.all)
      · rw [decide_eq_false h3]
        rw [if_pos ⟨h2, h3⟩] at ei'
        have hS' : StoreOk { S with fresh := S.fresh ++ [(2 + i : Int)] } := ⟨hS.disk, hS.gen0, hS.gen1, hS.root0, hS.root1, hS.used⟩
        (repeat (first | refine W.ctl rfl ?_ | refine W.op rfl rfl rfl rfl ?_ | refine W.skip rfl rfl ?_ | refine W.fld rfl rfl rfl rfl rfl ?_ | refine W.ld rfl rfl rfl rfl rfl ?_))
        refine W.mput rfl rfl rfl rfl rfl rfl ?_
        rw [putI_mset h3]
        (repeat (first | refine W.ctl rfl ?_ | refine W.op rfl rfl rfl rfl ?_ | refine W.skip rfl rfl ?_ | refine W.fld rfl rfl rfl rfl rfl ?_ | refine W.ld rfl rfl rfl rfl rfl ?_))
        rw [ei']
        exact W.ret2 (.inr rfl) rfl rfl rfl _ ⟨rfl, rfl⟩ (Imp.pack (StoreP.mk (fb, gb) hS') Imp.all)
  · refine W.no rfl rfl rfl rfl h1 ?_
    (repeat (first | refine W.ctl rfl ?_ | refine W.op rfl rfl rfl rfl ?_ | refine W.skip rfl rfl ?_ | refine W.fld rfl rfl rfl rfl rfl ?_ | refine W.ld rfl rfl rfl rfl rfl ?_))
    have hi' : (S.size - 2).toNat - i = 0 := by omega
    rw [hi'] at ei
    have ei' : S.take = (S, 0, 4) := ei
    rw [ei']
    exact W.ret2 (.inr rfl) rfl rfl rfl (StoreP p dp S) ⟨rfl, rfl⟩ Imp.all
theorem shadow_Rollback (p : Nat) (dv used : Value) (gen root : Int) (f g : Option Nat) (down : Bool) : CS 46 [ptr p] (row p 153 [dv, int gen, int root, used, .map f, .map g, .bool down])
    fun v H' => v = .tuple #[] ∧ ∃ fb gb, H' = (row p 153 [dv, int gen, int root, used, .map (some fb), .map (some gb), .bool down] • mapI .i64 fb [] • mapI .i64 gb []) := by
  refine CS.walk Tryz.func46 rfl Tryz.ntmps46 rfl fun c R => ?_
  (repeat (first | refine W.ctl rfl ?_ | refine W.op rfl rfl rfl rfl ?_ | refine W.skip rfl rfl ?_ | refine W.fld rfl rfl rfl rfl rfl ?_ | refine W.ld rfl rfl rfl rfl rfl ?_))
  refine W.mmk .i64 rfl rfl rfl rfl fun fb => ?_
  refine W.mmk .i64 rfl rfl rfl rfl fun gb => ?_
  (repeat (first | refine W.ctl rfl ?_ | refine W.op rfl rfl rfl rfl ?_ | refine W.skip rfl rfl ?_ | refine W.fld rfl rfl rfl rfl rfl ?_ | refine W.ld rfl rfl rfl rfl rfl ?_))
  refine W.st rfl rfl rfl rfl rfl ?_
  (repeat (first | refine W.ctl rfl ?_ | refine W.op rfl rfl rfl rfl ?_ | refine W.skip rfl rfl ?_ | refine W.fld rfl rfl rfl rfl rfl ?_ | refine W.ld rfl rfl rfl rfl rfl ?_))
  refine W.st rfl rfl rfl rfl rfl ?_
  (repeat (first | refine W.ctl rfl ?_ | refine W.op rfl rfl rfl rfl ?_ | refine W.skip rfl rfl ?_ | refine W.fld rfl rfl rfl rfl rfl ?_ | refine W.ld rfl rfl rfl rfl rfl ?_))
  exact W.ret0 (.inl rfl) rfl _ ⟨rfl, fb, gb, rfl⟩ Imp.all
theorem over_ok {D : Disk} (h : DiskOk D) {gen root : Int} {used : Str} (hg : 0 ≤ gen) (hg2 : gen < 281474976710656) (hr : 0 ≤ root) (hr2 : root < 640) (hu : used.length = 80) : StoreOk (M.over D gen root used) := ⟨h, hg, hg2, hr, hr2, hu⟩
theorem StoreP.mk0 {p dp fb gb : Nat} {S : Store} (h : StoreOk S) (hf : S.fresh = []) (hg : S.given = []) : Imp (row p 153 [ptr dp, int S.gen, int S.root, str S.used, .map (some fb), .map (some gb), .bool S.down] • DiskP dp S.d • mapI .i64 fb [] • mapI .i64 gb [] • emp) (StoreP p dp S) := by
  have := StoreP.mk (p := p) (dp := dp) (fb, gb) h
  simp only [StoreB, hf, hg] at this
  exact this
theorem shadow_over (dp : Nat) (D : Disk) (gen root : Int) (used : Str) (hg : 0 ≤ gen) (hg2 : gen < 281474976710656) (hr : 0 ≤ root) (hr2 : root < 640) (hu : used.length = 80) : CS 91 [ptr dp, headV gen root used] (DiskP dp D) fun v H' => ∃ p, v = ptr p ∧ H' = StoreP p dp (M.over D gen root used) := by
  refine CS.walk Tryz.func91 rfl Tryz.ntmps91 rfl fun c R => ?_
  refine W.open (DiskP.opn dp D) rfl ?_
  rintro ⟨nb, wb, ov⟩ hD
  refine W.imp (H' := DiskP dp D • R) rfl (Imp.pack (DiskP.mk (nb, wb, ov) hD) Imp.all) ?_
  (repeat (first | refine W.ctl rfl ?_ | refine W.op rfl rfl rfl rfl ?_ | refine W.skip rfl rfl ?_ | refine W.fld rfl rfl rfl rfl rfl ?_ | refine W.ld rfl rfl rfl rfl rfl ?_))
  refine W.box rfl rfl rfl rfl rfl fun b => ?_
  (repeat (first | refine W.ctl rfl ?_ | refine W.op rfl rfl rfl rfl ?_ | refine W.skip rfl rfl ?_ | refine W.fld rfl rfl rfl rfl rfl ?_ | refine W.ld rfl rfl rfl rfl rfl ?_))
  refine W.lds rfl rfl rfl rfl rfl ?_
  refine W.bld rfl rfl rfl rfl rfl ?_
  refine W.box rfl rfl rfl rfl rfl fun p => ?_
  (repeat (first | refine W.ctl rfl ?_ | refine W.op rfl rfl rfl rfl ?_ | refine W.skip rfl rfl ?_ | refine W.fld rfl rfl rfl rfl rfl ?_ | refine W.ld rfl rfl rfl rfl rfl ?_))
  refine W.call (shadow_Rollback p (ptr dp) (str used) gen root none none false) rfl rfl rfl rfl Tryz.call46 ⟨rfl, trivial⟩ ?_
  rintro _ _ ⟨rfl, fb, gb, rfl⟩
  simp only [sep_assoc']
  (repeat (first | refine W.ctl rfl ?_ | refine W.op rfl rfl rfl rfl ?_ | refine W.skip rfl rfl ?_ | refine W.fld rfl rfl rfl rfl rfl ?_ | refine W.ld rfl rfl rfl rfl rfl ?_))
  exact W.ret1 (.inr rfl) rfl rfl (StoreP p dp (M.over D gen root used)) ⟨p, rfl, rfl⟩ (Imp.pack (StoreP.mk0 (fb := fb) (gb := gb) (over_ok hD hg hg2 hr hr2 hu) rfl rfl) Imp.all)
end Go.Proofs.YtbdhhedfplkidaaGreat
