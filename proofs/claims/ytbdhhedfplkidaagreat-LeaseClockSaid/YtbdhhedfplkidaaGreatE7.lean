/- Struct literals. -/
import Derived.Test.YtbdhhedfplkidaaGreatE6
namespace Go.Proofs.YtbdhhedfplkidaaGreat
open Go
class Pl (pl : List (Nat × Nat)) (i : Nat) (off s : outParam Nat) : Prop where
  eq : pl[i]? = some (off, s)
instance pl0 (o s : Nat) (r : List (Nat × Nat)) : Pl ((o, s) :: r) 0 o s := ⟨rfl⟩
instance plS (p : Nat × Nat) (r : List (Nat × Nat)) (i o s : Nat) [h : Pl r i o s] : Pl (p :: r) (i + 1) o s := ⟨by simp [h.eq]⟩
class Ln (vs : List Value) (n : outParam Nat) : Prop where
  eq : vs.length = n
instance ln0 : Ln [] 0 := ⟨rfl⟩
instance lnS (v : Value) (vs : List Value) (n : Nat) [h : Ln vs n] : Ln (v :: vs) (n + 1) := ⟨by simp [h.eq]⟩
class Bld (pl : List (Nat × Nat)) (cs : List Value) (ps : List (Nat × Value)) (out : outParam (List Value)) : Prop where
  eq : Instr.fill (pl.toArray[·]?) cs.toArray ps = some out.toArray
  one : (∀ u ∈ cs, u.oneCell' = true) → ∀ u ∈ out, u.oneCell' = true
instance bldN (pl : List (Nat × Nat)) (cs : List Value) : Bld pl cs [] cs := ⟨rfl, id⟩
theorem fold_setAll : ∀ (vs cs : List Value) (off j : Nat), (vs.zipIdx j).foldl (fun cs (x : Value × Nat) => cs.setIfInBounds (off + x.2) x.1) cs.toArray = (setAll cs (off + j) vs).toArray
  | [], _, _, _ => rfl
  | v :: vs, cs, off, j => by
    simp only [List.zipIdx_cons, List.foldl_cons, List.setIfInBounds_toArray, fold_setAll vs, setAll]
    rfl
theorem setAll_one : ∀ (vs cs : List Value) (off : Nat), (∀ u ∈ cs, u.oneCell' = true) → (∀ u ∈ vs, u.oneCell' = true) → ∀ u ∈ setAll cs off vs, u.oneCell' = true
  | [], _, _, hc, _ => hc
  | v :: vs, cs, off, hc, hv => by
    refine setAll_one vs _ _ (fun u hu => ?_) fun u hu => hv u (List.mem_cons_of_mem _ hu)
    rcases List.mem_or_eq_of_mem_set hu with h | h
    · exact hc u h
    · rw [h]; exact hv v (List.mem_cons_self ..)
instance bldS (pl : List (Nat × Nat)) (cs vs cs' out : List Value) (i off s : Nat) (v : Value) (r : List (Nat × Value)) [hp : Pl pl i off s] [hc : Cl v vs] [hl : Ln vs s] [hs : Sts cs off vs cs'] [hb : Bld pl cs' r out] : Bld pl cs ((i, v) :: r) out := ⟨by
  have h1 : pl.toArray[i]? = some (off, s) := by simpa using hp.eq
  have h2 := hs.le
  have h3 : (vs.zipIdx 0).foldl (fun cs (x : Value × Nat) => cs.setIfInBounds (off + x.2) x.1) cs.toArray = cs'.toArray := by rw [fold_setAll, Nat.add_zero, hs.eq]
  have h4 : v.cells.size = s := by rw [hc.eq]; simpa using hl.eq
  have h5 : ¬ (v.cells.size ≠ s ∨ off + v.cells.size > cs.toArray.size) := by rw [h4, ← hl.eq]; simp; omega
  simp only [Instr.fill, h1]
  rw [if_neg (by simpa using h5), hc.eq]
  rw [show (vs.toArray.zipIdx.foldl (fun cs (x : Value × Nat) => cs.setIfInBounds (off + x.2) x.1) cs.toArray) = cs'.toArray by rw [← h3]; simp]
  exact hb.eq, fun h => hb.one (by rw [← hs.eq]; exact setAll_one vs cs off h hc.one)⟩
/-- What a struct literal is filled into. -/
class TS (t : Nat) (zs : outParam (List Value)) (pl : outParam (List (Nat × Nat))) : Prop where
  run : ∀ (parts : Array (Nat × Value)) (out : List Value), Instr.fill (pl.toArray[·]?) zs.toArray parts.toList = some out.toArray → ∀ w, (Instr.build t parts).run Pg w = .ok (.agg out.toArray) w
inductive Places : List Field → List (Nat × Nat) → Prop
  | nil : Places [] []
  | cons {f : Field} {s : Nat} {r : List Field} {q : List (Nat × Nat)} (h : ∀ w, (sizeOf f.type).run Pg w = .ok s w) (t : Places r q) : Places (f :: r) ((f.offset, s) :: q)
theorem Places.run {fs : List Field} {pl : List (Nat × Nat)} (h : Places fs pl) (w : World) : ((fs.mapM fun f => do pure (f.offset, ← sizeOf f.type) : Sem (List (Nat × Nat)))).run Pg w = .ok pl w := by
  induction h with
  | nil => simp only [List.mapM_nil, Sem.run_pure]
  | cons h t ih => simp only [List.mapM_cons, Sem.run_bind, h, ih, Result.andThen_ok, Sem.run_pure]
theorem mkTS {t : Nat} {z : Value} {zs : List Value} {fs : List Field} {pl : List (Nat × Nat)} (hz : ∀ w, (zeroValue t).run Pg w = .ok z w) (hu : Pg.underlying t = some (.struct fs.toArray)) (hc : z.cells = zs.toArray) (hp : Places fs pl) : TS t zs pl := ⟨fun parts out hf w => by
  have h1 := hp.run w
  simp only [Instr.build, Sem.run_bind, hz, Result.andThen_ok, run_underlying hu, List.mapM_toArray, hc]
  simp only [map_eq_pure_bind, Sem.run_bind, h1, Result.andThen_ok, Sem.run_pure, hf]⟩
def evB (l : List (Nat × Value)) : List (Nat × Operand) → Option (List (Nat × Value))
  | [] => some []
  | (i, x) :: r => match ev l x, evB l r with
    | some v, some vs => some ((i, v) :: vs)
    | _, _ => none
theorem evB_eval {a : Act} {n : Nat} {l : List (Nat × Value)} (hf : Fr a n l) : ∀ {ps : List (Nat × Operand)} {vs : List (Nat × Value)}, evB l ps = some vs → ps.map (fun p => (p.1, a.eval p.2)) = vs
  | [], _, h => by cases h; rfl
  | (i, x) :: r, vs, h => by
    unfold evB at h
    split at h
    · rename_i v vs' h1 h2
      cases h
      simp only [List.map_cons, hf.eval h1, evB_eval hf h2]
    · cases h
section
variable {c : World} {Q : Exit → Act → World → Prop} {n : Nat} {l : List (Nat × Value)} {H R : HProp} {ks : List Kn}
variable {q q1 q2 : Md} {all : Array Oper} {o : Oper} {rest : List Oper} {d : Nat} {v : Value}
/-- T{x, y, ..} -/
theorem W.bld [hNL : NL q1 q2] {t : TypeId} {zs out : List Value} {pl : List (Nat × Nat)} {ps : Array (Nat × Operand)} {vs : List (Nat × Value)} (hg : o.guard = none) (hd : o.dst = some d) (hn : Nat.blt d n = true) (ho : o.op = .build t ps) [ht : TS t zs pl]
    (he : evB l ps.toList = some vs) [hb : Bld pl zs vs out] (k : WS c Q n (.ops q2 all rest ks) ((d, .agg out.toArray) :: l) H) : WS c Q n (.ops q1 all (o :: rest) ks) l H := by
  refine W.val hg hd hn (fun a w hf hs => ?_) k
  simp only [execOp, ho]
  have h1 : (ps.map fun x => (x.1, a.eval x.2)).toList = vs := by rw [Array.toList_map]; exact evB_eval hf he
  have h2 := ht.run (ps.map fun x => (x.1, a.eval x.2)) out (by rw [h1]; exact hb.eq) w
  simp [h2]
end
end Go.Proofs.YtbdhhedfplkidaaGreat
