/- A key with a value is put. -/
import Derived.Test.YtbdhhedfplkidaaGreatC18
namespace Go.Proofs.YtbdhhedfplkidaaGreat
open Go
open M (Str Store Work Spot)
set_option maxHeartbeats 1000000
set_option maxRecDepth 2000
/-- A node under way: as a page's, but for a key more. -/
structure Mid (n : M.Node) : Prop where
  keys : n.keys.length ≤ 1000
  fit : Fit n
  kb : KB n
  val : ∀ v ∈ n.vals, v.length ≤ 4294967296
theorem Mid.nb {n : M.Node} (h : Mid n) : NB n := by
  have h1 := h.keys
  have h2 := h.fit.vals
  have h3 := h.fit.kids
  refine ⟨by omega, ?_, ?_, h.val⟩
  · rw [h2]; split <;> omega
  · rw [h3]; split <;> omega
theorem mid_right {n : M.Node} (h : M.right n = true) (hk : KB n) : Mid n := by
  obtain ⟨h1, _, _, h4, _⟩ := right_bounds h
  exact ⟨by omega, fit_right h, hk, fun v hv => by have := h4 v hv; omega⟩
theorem laid_len {α β : Type} (xs ys : List α) (zs ws : List β) (a g : Int) (h : xs.length = zs.length) (h' : ys.length = ws.length) : (M.laid xs a g ys).length = (M.laid zs a g ws).length := by
  simp [M.laid, h, h']
theorem laid_le {α : Type} (xs ys : List α) (a g : Int) (hg : 0 ≤ g) (ha : 0 ≤ a) : (M.laid xs a g ys).length ≤ xs.length + ys.length := by
  simp only [M.laid, List.length_append, List.length_take, List.length_drop]; omega
theorem laid_mem {α : Type} {xs ys : List α} {a g : Int} {x : α} (h : x ∈ M.laid xs a g ys) : x ∈ xs ∨ x ∈ ys := by
  simp only [M.laid, List.mem_append] at h
  rcases h with (h | h) | h
  · exact .inl (List.mem_of_mem_take h)
  · exact .inr h
  · exact .inl (List.mem_of_mem_drop h)
theorem nput_mid {n : M.Node} {key : Nat} {value : Str} (h : Mid n) (h1 : n.keys.length ≤ 900) (hl : n.leaf = true) (hk : key < 18446744073709551616) (hv : value.length ≤ 4294967296) : Mid (M.nput n key value) := by
  have hf := h.fit.vals
  rw [hl, if_pos rfl] at hf
  rw [nput_leaf hl]
  refine ⟨?_, ⟨?_, by simp⟩, ?_, ?_⟩
  · have := laid_le n.keys [key] (M.place n.keys key).1 ((if (M.place n.keys key).2 = true then 1 else 0 : Nat) : Int) (by omega) (by omega)
    simp at this ⊢; omega
  · simp only [if_true]; exact laid_len _ _ _ _ _ _ hf rfl
  · intro k hk'
    rcases laid_mem hk' with hk' | hk'
    · exact h.kb k hk'
    · simp at hk'; omega
  · intro v hv'
    rcases laid_mem hv' with hv' | hv'
    · exact h.val v hv'
    · simp at hv'; subst hv'; exact hv
theorem nhang_mid {n : M.Node} {i key : Nat} {kid : Int} (h : Mid n) (h1 : n.keys.length ≤ 900) (hl : n.leaf = false) (hi : i ≤ n.keys.length) (hk : key < 18446744073709551616) : Mid (M.nhang n i key kid) := by
  have hf := h.fit.kids
  rw [hl, if_neg (by simp)] at hf
  rw [M.nhang, if_neg (by simp [hl]; omega)]
  refine ⟨?_, ⟨by simp, ?_⟩, ?_, by simp⟩
  · have := laid_le n.keys [key] i 0 (by omega) (by omega)
    simp at this ⊢; omega
  · simp only [Bool.false_eq_true, if_false, M.laid, List.length_append, List.length_take, List.length_drop, List.length_singleton]; omega
  · intro k hk'
    rcases laid_mem hk' with hk' | hk'
    · exact h.kb k hk'
    · simp at hk'; omega
theorem set_mid {n : M.Node} {i : Nat} {kid : Int} (h : Mid n) : Mid { n with kids := n.kids.set i kid } := ⟨h.keys, ⟨h.fit.vals, by simpa using h.fit.kids⟩, h.kb, h.val⟩
theorem kb_zero : KB M.Node.zero := fun k hk => by simp [M.Node.zero] at hk
theorem nfront_kb {n : M.Node} (h : KB n) (k : Nat) : KB (M.nfront n k) := by
  intro x hx
  unfold M.nfront at hx
  split at hx <;> exact h x (List.mem_of_mem_take hx)
theorem nback_kb {n : M.Node} (h : KB n) (k : Nat) : KB (M.nback n k) := by
  intro x hx
  unfold M.nback at hx
  split at hx <;> exact h x (List.mem_of_mem_drop hx)
theorem nback_nb {N : M.Node} (h : NB N) (k : Nat) : NB (M.nback N k) := by
  have h1 := h.keys
  have h2 := h.vals
  have h3 := h.kids
  unfold M.nback
  split
  · exact ⟨by simp; omega, by simp; omega, by simp, fun v hv => h.val v (List.mem_of_mem_drop hv)⟩
  · exact ⟨by simp; omega, by simp, by simp; omega, fun v hv => by simp at hv⟩
theorem nsplit_cases (n : M.Node) : M.nsplit n = (M.Node.zero, 0, M.Node.zero, false) ∨ ∃ k, M.nsplit n = (M.nfront n k, n.keys.getD k 0, M.nback n k, true) := by
  rw [M.nsplit]
  generalize (n.keys.length : Int) - 1 - (if n.leaf = true then 0 else 1) = m
  dsimp only
  by_cases h : m < 1
  · left; rw [if_pos h]
  · right; rw [if_neg h]; exact ⟨_, rfl⟩
theorem splitQ_ok {n : M.Node} (h : Mid n) : (NB (M.splitQ n).1 ∧ KB (M.splitQ n).1) ∧ (NB (M.splitQ n).2.2.1 ∧ KB (M.splitQ n).2.2.1) ∧ (M.splitQ n).2.1 < 18446744073709551616 := by
  unfold M.splitQ
  split
  · rcases nsplit_cases n with e | ⟨k, e⟩
    · rw [e]; exact ⟨⟨nb_zero, kb_zero⟩, ⟨nb_zero, kb_zero⟩, by simp⟩
    · rw [e]
      refine ⟨⟨nfront_nb h.nb _, nfront_kb h.kb _⟩, ⟨nback_nb h.nb _, nback_kb h.kb _⟩, ?_⟩
      dsimp only
      rw [List.getD_eq_getElem?_getD]
      cases hq : n.keys[k]? with
      | none => simp
      | some x => exact h.kb x (List.mem_of_getElem? hq)
  · exact ⟨⟨h.nb, h.kb⟩, ⟨nb_zero, kb_zero⟩, by simp⟩
theorem sk_row (g : Nat) (E : TypeId) (vs : List Value) (n : Nat) (hn : vs.length = n) (hm : n ≤ 1000) : Imp (row g E vs) (slck 1 E (sv (some g) n n) n vs) := by
  have := slck_mk (k := 1) (E := E) (g := g) (n := n) (cap := n) (xs := vs) (sp := []) (by omega) (Nat.le_refl _) (by simp only [maxLen]; omega) (by simp; omega)
  rw [List.append_nil] at this
  exact this
theorem way_branch : ∀ (f : Nat) (X : Work) (at' deep : Int) (key : Nat) (p : List Spot), (∀ t ∈ p, t.n.leaf = false) → ∀ q s, (M.way f X at' deep key p).2 = q ++ [s] → ∀ t ∈ q, t.n.leaf = false
  | 0, X, at', deep, key, p, hp, q, s, h => by
    intro t ht
    rw [M.way] at h
    exact hp t (by dsimp only at h; rw [h]; simp [ht])
  | f + 1, X, at', deep, key, p, hp, q, s, h => by
    intro t ht
    rw [M.way] at h
    dsimp only at h
    split at h
    · exact hp t (by dsimp only at h; rw [h]; simp [ht])
    · split at h
      · dsimp only at h
        have := List.append_inj_left' h rfl
        exact hp t (by rw [this]; exact ht)
      · rename_i hl
        refine way_branch f _ _ _ key _ ?_ q s h t ht
        intro u hu
        rcases List.mem_append.1 hu with hu | hu
        · exact hp u hu
        · simp at hu; subst hu; simpa using hl
theorem putUp_eq (above : List Spot) (w : Work) (at' : Int) (n : M.Node) : M.putUp above w at' n =
    if M.nsize n > 240 ∧ (M.splitQ n).2.2.2 = false then ({ w with e := 2 }, 0) else
    if (M.splitQ n).2.2.2 = true then
      if (w.lay at' (M.splitQ n).1).1.e ≠ 0 then ((w.lay at' (M.splitQ n).1).1, 0) else
      if ((w.lay at' (M.splitQ n).1).1.fresh (M.splitQ n).2.2.1).1.e ≠ 0 then (((w.lay at' (M.splitQ n).1).1.fresh (M.splitQ n).2.2.1).1, 0) else
      match above with
      | [] => ((w.lay at' (M.splitQ n).1).1.fresh (M.splitQ n).2.2.1).1.fresh ⟨false, [(M.splitQ n).2.1], [], [(w.lay at' (M.splitQ n).1).2, ((w.lay at' (M.splitQ n).1).1.fresh (M.splitQ n).2.2.1).2]⟩
      | x :: above => M.putUp above ((w.lay at' (M.splitQ n).1).1.fresh (M.splitQ n).2.2.1).1 x.at' (M.nhang { x.n with kids := x.n.kids.set x.i (w.lay at' (M.splitQ n).1).2 } x.i (M.splitQ n).2.1 ((w.lay at' (M.splitQ n).1).1.fresh (M.splitQ n).2.2.1).2)
    else
      if (w.lay at' (M.splitQ n).1).1.e ≠ 0 then ((w.lay at' (M.splitQ n).1).1, 0) else
      match above with
      | [] => ((w.lay at' (M.splitQ n).1).1, (w.lay at' (M.splitQ n).1).2)
      | x :: above => M.putUp above (w.lay at' (M.splitQ n).1).1 x.at' { x.n with kids := x.n.kids.set x.i (w.lay at' (M.splitQ n).1).2 } := by
  cases above with
  | nil =>
    rw [M.putUp]
    dsimp only
    by_cases h1 : M.nsize n > 240 ∧ (M.splitQ n).2.2.2 = false
    · rw [if_pos h1, if_pos h1]
    · rw [if_neg h1, if_neg h1]
      cases h2 : (M.splitQ n).2.2.2 with
      | true =>
        by_cases h3 : (w.lay at' (M.splitQ n).1).1.e ≠ 0
        · simp [h3]
        · simp [show (w.lay at' (M.splitQ n).1).1.e = 0 by simpa using h3]
      | false => simp
  | cons x above =>
    rw [M.putUp]
    dsimp only
    by_cases h1 : M.nsize n > 240 ∧ (M.splitQ n).2.2.2 = false
    · rw [if_pos h1, if_pos h1]
    · rw [if_neg h1, if_neg h1]
      cases h2 : (M.splitQ n).2.2.2 with
      | true =>
        by_cases h3 : (w.lay at' (M.splitQ n).1).1.e ≠ 0
        · simp [h3]
        · simp [show (w.lay at' (M.splitQ n).1).1.e = 0 by simpa using h3]
      | false => simp
end Go.Proofs.YtbdhhedfplkidaaGreat
