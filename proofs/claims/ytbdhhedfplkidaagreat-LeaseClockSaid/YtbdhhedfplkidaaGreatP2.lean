/- Plain facts: a store that is well; its nodes are read and written. -/
import Derived.Test.YtbdhhedfplkidaaGreatP1
namespace Go.Proofs.YtbdhhedfplkidaaGreat
open M (Str Store Disk Work Spot)
/-- The power is there, and stays. -/
structure Hl (S : Store) : Prop where
  down : S.down = false
  gone : S.d.gone = false
  fuse : S.d.fuse = -1
/-- Page number at' is the node n. -/
structure Pn (S : Store) (at' : Int) (n : M.Node) : Prop where
  lo : 2 ≤ at'
  hi : at' < S.size
  page : S.d.now.getD at'.toNat [] = (M.sealP 2 (M.encBody n)).1
  right : M.right n = true
  kb : KB n
/-- The store with a node laid on a page. -/
def putN (S : Store) (at' : Int) (n : M.Node) : Store := { S with d := (S.d.write at' (M.sealP 2 (M.encBody n)).1).1 }
theorem told_zero (S : Store) : S.told 0 = S := by
  unfold Store.told
  rw [show ((0 : Int) == 5) = false from rfl, Bool.or_false]
theorem enc_seal {n : M.Node} (h : M.right n = true) : M.sealP 2 (M.encBody n) = (M.sealBody 2 (M.encBody n) ++ M.be 4 (M.sum (M.sealBody 2 (M.encBody n))), 0) ∧ (M.sealP 2 (M.encBody n)).1.length = 256 ∧ M.opens (M.sealP 2 (M.encBody n)).1 = (2, M.encBody n, 0) :=
  opens_seal 2 (M.encBody n) (by omega) (by omega) (by rw [encBody_len h]; exact right_size h)
theorem store_read {S : Store} {at' : Int} {n : M.Node} (hl : Hl S) (h : Pn S at' n) : S.read at' = (S, 2, M.encBody n, 0) := by
  have hs := h.hi
  unfold Store.size at hs
  have hr : M.pageRead S.d at' = (2, M.encBody n, 0) := by
    have h2 := h.lo
    have hd : S.d.read at' = ((M.sealP 2 (M.encBody n)).1, 0) := by
      unfold Disk.read
      rw [if_neg (by simp [hl.gone]), if_neg (by omega), h.page]
    unfold M.pageRead
    rw [hd]
    exact (enc_seal h.right).2.2
  have h2 := h.lo
  have h3 := h.hi
  unfold Store.read
  rw [hl.down]
  simp only [Bool.false_eq_true, if_false]
  rw [if_neg (by omega), hr]
  simp only [told_zero]
theorem node_read_ok {X : Work} {at' deep : Int} {n : M.Node} (hl : Hl X.s) (h : Pn X.s at' n) (he : X.e = 0) (hr : X.read < 640) (hd : deep ≤ 10) : X.node at' deep = ({ X with read := X.read + 1 }, n) := by
  obtain ⟨h1, h2⟩ := decode_encode h.right h.kb
  obtain ⟨S, rd, e⟩ := X
  dsimp only at hl h he hr ⊢
  subst he
  unfold Work.node
  dsimp only
  rw [if_neg (by omega), store_read hl h]
  dsimp only
  have hf : ({ s := S, read := rd + 1, e := 0 } : Work).fail 0 = { s := S, read := rd + 1, e := 0 } := by unfold Work.fail; rfl
  rw [hf, h2]
  dsimp only
  rw [if_neg (by simp), if_neg (by simp; omega)]
theorem disk_write_ok {d : Disk} {n : Int} {s : Str} (hg : d.gone = false) (hf : d.fuse = -1) (h0 : 0 ≤ n) (h1 : n < d.now.length) (hs : s.length = 256) : (d.write n s).2 = 0 ∧ (d.write n s).1.now = d.now.set n.toNat s ∧ (d.write n s).1.gone = false ∧ (d.write n s).1.fuse = -1 := by
  unfold Disk.write
  rw [if_neg (by simp [hg]), if_neg (by omega), if_neg (by omega), if_neg (by omega)]
  dsimp only
  refine ⟨rfl, ?_, ?_, ?_⟩
  · split <;> rfl
  · split <;> simp [hg]
  · split <;> (show max (-1) (d.fuse - 1) = -1; rw [hf]; decide)
theorem write_node_ok {X : Work} {at' : Int} {n : M.Node} (hl : Hl X.s) (hf : at' ∈ X.s.fresh) (h0 : 2 ≤ at') (h1 : at' < X.s.size) (hr : M.right n = true) (hk : KB n) (he : X.e = 0) : X.write at' n = { X with s := putN X.s at' n } := by
  obtain ⟨e1, e2, e3⟩ := enc_seal hr
  obtain ⟨d1, d2⟩ := decode_encode hr hk
  obtain ⟨S, rd, e⟩ := X
  dsimp only at hl hf h1 he ⊢
  subst he
  unfold Store.size at h1
  have hw := disk_write_ok (n := at') (s := (M.sealP 2 (M.encBody n)).1) hl.gone hl.fuse (by omega) (by omega) e2
  have hp : M.pageWrite S.d at' 2 (M.encBody n) = ((S.d.write at' (M.sealP 2 (M.encBody n)).1).1, 0) := by
    unfold M.pageWrite
    dsimp only
    rw [show (M.sealP 2 (M.encBody n)).2 = 0 by rw [e1], if_neg (by simp)]
    exact Prod.ext rfl hw.1
  have hs : S.write at' 2 (M.encBody n) = (putN S at' n, 0) := by
    unfold Store.write
    rw [if_neg (by simp [hl.down]), if_neg (by simpa using hf), hp]
    simp only [told_zero]
    rfl
  unfold Work.write
  rw [if_neg (by rw [d1]; simp), show (M.encode n).1 = M.encBody n by rw [d1], hs]
  unfold Work.fail
  rfl
theorem putN_hl {S : Store} {at' : Int} {n : M.Node} (hl : Hl S) (h0 : 2 ≤ at') (h1 : at' < S.size) (hr : M.right n = true) : Hl (putN S at' n) := by
  unfold Store.size at h1
  have hw := disk_write_ok (n := at') (s := (M.sealP 2 (M.encBody n)).1) hl.gone hl.fuse (by omega) (by omega) (enc_seal hr).2.1
  exact ⟨hl.down, hw.2.2.1, hw.2.2.2⟩
theorem putN_now {S : Store} {at' : Int} {n : M.Node} (hl : Hl S) (h0 : 2 ≤ at') (h1 : at' < S.size) (hr : M.right n = true) : (putN S at' n).d.now = S.d.now.set at'.toNat (M.sealP 2 (M.encBody n)).1 := by
  unfold Store.size at h1
  exact (disk_write_ok (n := at') (s := (M.sealP 2 (M.encBody n)).1) hl.gone hl.fuse (by omega) (by omega) (enc_seal hr).2.1).2.1
theorem putN_size {S : Store} {at' : Int} {n : M.Node} (hl : Hl S) (h0 : 2 ≤ at') (h1 : at' < S.size) (hr : M.right n = true) : (putN S at' n).size = S.size := by
  unfold Store.size
  rw [putN_now hl h0 h1 hr, List.length_set]
theorem putN_same {S : Store} {at' : Int} {n : M.Node} (hl : Hl S) (h0 : 2 ≤ at') (h1 : at' < S.size) (hr : M.right n = true) (hk : KB n) : Pn (putN S at' n) at' n := by
  refine ⟨h0, by rw [putN_size hl h0 h1 hr]; exact h1, ?_, hr, hk⟩
  rw [putN_now hl h0 h1 hr]
  unfold Store.size at h1
  rw [List.getD_eq_getElem?_getD, List.getElem?_set_self (by omega)]; rfl
theorem putN_other {S : Store} {at' b : Int} {n m : M.Node} (hl : Hl S) (h0 : 2 ≤ at') (h1 : at' < S.size) (hr : M.right n = true) (h : Pn S b m) (hne : b ≠ at') : Pn (putN S at' n) b m := by
  refine ⟨h.lo, by rw [putN_size hl h0 h1 hr]; exact h.hi, ?_, h.right, h.kb⟩
  have := h.lo
  rw [putN_now hl h0 h1 hr, List.getD_eq_getElem?_getD, List.getElem?_set_ne (by omega), ← List.getD_eq_getElem?_getD]
  exact h.page
end Go.Proofs.YtbdhhedfplkidaaGreat
