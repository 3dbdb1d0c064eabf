/- What the functions of layer disk do: the disk as the plain model has it. -/
import Derived.Test.YtbdhhedfplkidaaGreatC2
import Derived.Test.YtbdhhedfplkidaaGreatE6
namespace Go.Proofs.YtbdhhedfplkidaaGreat
open Go
open M (Str Disk DiskOk)
set_option maxHeartbeats 400000
set_option maxRecDepth 2000
/-- The disk at p. -/
abbrev DiskB (p : Nat) (D : Disk) (x : Nat × Nat × Value) (R : HProp) : HProp := row p 183 [.slice (some ⟨x.1, 0, none⟩) D.now.length D.now.length, .map (some x.2.1), x.2.2, int D.fuse, .bool D.gone] •
  row x.1 9 (D.now.map str) • mapI .i64 x.2.1 (D.was.map fun q => (q.1, str q.2)) • slck 1 3 x.2.2 D.order.length (D.order.map int) • R
def DiskP (p : Nat) (D : Disk) : HProp := ex fun x => pr (DiskOk D) • DiskB p D x emp
theorem DiskP.opn (p : Nat) (D : Disk) (R : HProp) : Imp (DiskP p D • R) (ex fun x => pr (DiskOk D) • DiskB p D x R) :=
  Imp.opn' fun x => by simp only [DiskB, sep_assoc', emp_sep]
theorem DiskP.mk {p : Nat} {D : Disk} (x : Nat × Nat × Value) (h : DiskOk D) : Imp (DiskB p D x emp) (DiskP p D) := Imp.mk (B := fun x => DiskB p D x emp) (φ := fun _ => DiskOk D) x h
theorem DiskP.mk0 {p : Nat} {D : Disk} (nb wb : Nat) (h : DiskOk D) (hw : D.was = []) : Imp (row p 183 [.slice (some ⟨nb, 0, none⟩) D.now.length D.now.length, .map (some wb), .slice none 0 0, int D.fuse, .bool D.gone] •
    row nb 9 (D.now.map str) • mapI .i64 wb [] • emp) (DiskP p D) := by
  refine Imp.trans (Imp.of_eq ?_) (DiskP.mk (nb, wb, .slice none 0 0) h)
  have ho : D.order = [] := by rw [← h.keys, hw]; rfl
  rw [DiskB, hw, ho]
  show _ = row _ _ _ • row _ _ _ • mapI _ _ [] • slck 1 _ _ 0 [] • emp
  rw [slck_nil, emp_sep]
theorem DiskP.mk2 {p nb wb len on : Nat} {D : Disk} {ov : Value} {nowv ordv : List Value} {wasv : List (Int × Value)} {f : Int} {g : Bool} (h : DiskOk D) (h1 : len = D.now.length) (h2 : nowv = D.now.map str) (h3 : wasv = D.was.map fun q => (q.1, str q.2)) (h4 : ordv = D.order.map int) (h5 : on = D.order.length) (h6 : f = D.fuse) (h7 : g = D.gone) :
    Imp (row p 183 [.slice (some ⟨nb, 0, none⟩) len len, .map (some wb), ov, int f, .bool g] • row nb 9 nowv • mapI .i64 wb wasv • slck 1 3 ov on ordv • emp) (DiskP p D) := by
  subst h1 h2 h3 h4 h5 h6 h7
  exact DiskP.mk (nb, wb, ov) h
abbrev ptr (p : Nat) : Value := .pointer (some ⟨p, 0, none⟩)
def dmay (D : Disk) (n : Int) : Int := if D.gone then 5 else if n < 0 ∨ n ≥ D.now.length then 1 else 0
theorem lookI_map (n : Int) : ∀ l : List (Int × Str), lookI n (l.map fun q => (q.1, str q.2)) = (l.lookup n).map str
  | [] => rfl
  | q :: l => by
    simp only [List.map_cons, lookI, List.lookup]
    by_cases h : n = q.1
    · rw [if_pos h]; simp [h]
    · rw [if_neg h]
      have : (n == q.1) = false := by simp [h]
      rw [this]; exact lookI_map n l
theorem putI_new {n : Int} {v : Value} {l : List (Int × Value)} (h : lookI n l = none) : putI n v l = l ++ [(n, v)] := by
  have := findI_look n l 0
  rw [h] at this
  exact putI_none n v l 0 (by simpa using this)

theorem disk_may (p : Nat) (D : Disk) (n : Int) : CS 187 [ptr p, int n] (DiskP p D) fun v H' => v = int (dmay D n) ∧ H' = DiskP p D := by
  refine CS.walk Tryz.func187 rfl Tryz.ntmps187 rfl fun c R => ?_
  refine W.open (DiskP.opn p D) rfl ?_
  rintro ⟨nb, wb, ov⟩ hD
  (repeat (first | refine W.ctl rfl ?_ | refine W.op rfl rfl rfl rfl ?_ | refine W.skip rfl rfl ?_ | refine W.fld rfl rfl rfl rfl rfl ?_ | refine W.ld rfl rfl rfl rfl rfl ?_))
  refine W.case 5 rfl (fun hg => ?_) (fun hg => ?_)
  · (repeat (first | refine W.ctl rfl ?_ | refine W.op rfl rfl rfl rfl ?_ | refine W.skip rfl rfl ?_ | refine W.fld rfl rfl rfl rfl rfl ?_ | refine W.ld rfl rfl rfl rfl rfl ?_))
    refine W.ret1 (.inr rfl) rfl rfl (DiskP p D) ⟨?_, rfl⟩ (Imp.pack (DiskP.mk (nb, wb, ov) hD) Imp.all)
    rw [dmay, if_pos hg]
  · (repeat (first | refine W.ctl rfl ?_ | refine W.op rfl rfl rfl rfl ?_ | refine W.skip rfl rfl ?_ | refine W.fld rfl rfl rfl rfl rfl ?_ | refine W.ld rfl rfl rfl rfl rfl ?_))
    by_cases h1 : n < 0
    · refine W.yes rfl rfl rfl rfl h1 ?_
      (repeat (first | refine W.ctl rfl ?_ | refine W.op rfl rfl rfl rfl ?_ | refine W.skip rfl rfl ?_ | refine W.fld rfl rfl rfl rfl rfl ?_ | refine W.ld rfl rfl rfl rfl rfl ?_))
      refine W.ret1 (.inr rfl) rfl rfl (DiskP p D) ⟨?_, rfl⟩ (Imp.pack (DiskP.mk (nb, wb, ov) hD) Imp.all)
      rw [dmay, if_neg (by simp [hg]), if_pos (.inl h1)]
    refine W.no rfl rfl rfl rfl h1 ?_
    (repeat (first | refine W.ctl rfl ?_ | refine W.op rfl rfl rfl rfl ?_ | refine W.skip rfl rfl ?_ | refine W.fld rfl rfl rfl rfl rfl ?_ | refine W.ld rfl rfl rfl rfl rfl ?_))
    refine W.len rfl rfl rfl rfl rfl ?_
    (repeat (first | refine W.ctl rfl ?_ | refine W.op rfl rfl rfl rfl ?_ | refine W.skip rfl rfl ?_ | refine W.fld rfl rfl rfl rfl rfl ?_ | refine W.ld rfl rfl rfl rfl rfl ?_))
    by_cases h2 : (D.now.length : Int) ≤ n
    · refine W.yes rfl rfl rfl rfl h2 ?_
      (repeat (first | refine W.ctl rfl ?_ | refine W.op rfl rfl rfl rfl ?_ | refine W.skip rfl rfl ?_ | refine W.fld rfl rfl rfl rfl rfl ?_ | refine W.ld rfl rfl rfl rfl rfl ?_))
      refine W.ret1 (.inr rfl) rfl rfl (DiskP p D) ⟨?_, rfl⟩ (Imp.pack (DiskP.mk (nb, wb, ov) hD) Imp.all)
      rw [dmay, if_neg (by simp [hg]), if_pos (.inr h2)]
    · refine W.no rfl rfl rfl rfl h2 ?_
      (repeat (first | refine W.ctl rfl ?_ | refine W.op rfl rfl rfl rfl ?_ | refine W.skip rfl rfl ?_ | refine W.fld rfl rfl rfl rfl rfl ?_ | refine W.ld rfl rfl rfl rfl rfl ?_))
      refine W.ret1 (.inr rfl) rfl rfl (DiskP p D) ⟨?_, rfl⟩ (Imp.pack (DiskP.mk (nb, wb, ov) hD) Imp.all)
      rw [dmay, if_neg (by simp [hg]), if_neg (by omega)]
theorem disk_Size (p : Nat) (D : Disk) : CS 125 [ptr p] (DiskP p D) fun v H' => v = int D.now.length ∧ H' = DiskP p D := by
  refine CS.walk Tryz.func125 rfl Tryz.ntmps125 rfl fun c R => ?_
  refine W.open (DiskP.opn p D) rfl ?_
  rintro ⟨nb, wb, ov⟩ hD
  (repeat (first | refine W.ctl rfl ?_ | refine W.op rfl rfl rfl rfl ?_ | refine W.skip rfl rfl ?_ | refine W.fld rfl rfl rfl rfl rfl ?_ | refine W.ld rfl rfl rfl rfl rfl ?_))
  refine W.len rfl rfl rfl rfl rfl ?_
  (repeat (first | refine W.ctl rfl ?_ | refine W.op rfl rfl rfl rfl ?_ | refine W.skip rfl rfl ?_ | refine W.fld rfl rfl rfl rfl rfl ?_ | refine W.ld rfl rfl rfl rfl rfl ?_))
  exact W.ret1 (.inr rfl) rfl rfl (DiskP p D) ⟨rfl, rfl⟩ (Imp.pack (DiskP.mk (nb, wb, ov) hD) Imp.all)
theorem disk_Read (p : Nat) (D : Disk) (n : Int) : CS 163 [ptr p, int n] (DiskP p D) fun v H' => v = .tuple #[str (D.read n).1, int (D.read n).2] ∧ H' = DiskP p D := by
  refine CS.walk Tryz.func163 rfl Tryz.ntmps163 rfl fun c R => ?_
  (repeat (first | refine W.ctl rfl ?_ | refine W.op rfl rfl rfl rfl ?_ | refine W.skip rfl rfl ?_ | refine W.fld rfl rfl rfl rfl rfl ?_ | refine W.ld rfl rfl rfl rfl rfl ?_))
  refine W.call (disk_may p D n) rfl rfl rfl rfl Tryz.call187 ⟨rfl, rfl, trivial⟩ ?_
  rintro _ _ ⟨rfl, rfl⟩
  (repeat (first | refine W.ctl rfl ?_ | refine W.op rfl rfl rfl rfl ?_ | refine W.skip rfl rfl ?_ | refine W.fld rfl rfl rfl rfl rfl ?_ | refine W.ld rfl rfl rfl rfl rfl ?_))
  by_cases h : dmay D n ≠ 0
  · refine W.yes rfl rfl rfl rfl h ?_
    (repeat (first | refine W.ctl rfl ?_ | refine W.op rfl rfl rfl rfl ?_ | refine W.skip rfl rfl ?_ | refine W.fld rfl rfl rfl rfl rfl ?_ | refine W.ld rfl rfl rfl rfl rfl ?_))
    refine W.ret2 (.inr rfl) rfl rfl rfl (DiskP p D) ⟨?_, rfl⟩ Imp.all
    unfold dmay at h ⊢
    unfold Disk.read
    split <;> rename_i hg
    · rfl
    · rw [if_neg hg] at h
      split <;> rename_i hn
      · rfl
      · simp [hn] at h
  · refine W.no rfl rfl rfl rfl h ?_
    (repeat (first | refine W.ctl rfl ?_ | refine W.op rfl rfl rfl rfl ?_ | refine W.skip rfl rfl ?_ | refine W.fld rfl rfl rfl rfl rfl ?_ | refine W.ld rfl rfl rfl rfl rfl ?_))
    refine W.open (DiskP.opn p D) rfl ?_
    rintro ⟨nb, wb, ov⟩ hD
    have h' : D.gone = false ∧ 0 ≤ n ∧ n < D.now.length := by
      unfold dmay at h
      cases hg : D.gone with
      | true => rw [hg] at h; simp at h
      | false =>
        rw [hg] at h
        simp only [Bool.false_eq_true, if_false] at h
        by_cases hn : n < 0 ∨ n ≥ D.now.length
        · rw [if_pos hn] at h; simp at h
        · exact ⟨rfl, by omega, by omega⟩
    obtain ⟨m, rfl⟩ := Int.eq_ofNat_of_zero_le h'.2.1
    have hm : m < D.now.length := by omega
    (repeat (first | refine W.ctl rfl ?_ | refine W.op rfl rfl rfl rfl ?_ | refine W.skip rfl rfl ?_ | refine W.fld rfl rfl rfl rfl rfl ?_ | refine W.ld rfl rfl rfl rfl rfl ?_))
    refine W.idx rfl rfl rfl rfl rfl rfl (by omega) (by omega) ?_
    refine W.ldi (v := str (D.now[m]'hm)) rfl rfl rfl rfl rfl (by simp [hm]) ?_
    (repeat (first | refine W.ctl rfl ?_ | refine W.op rfl rfl rfl rfl ?_ | refine W.skip rfl rfl ?_ | refine W.fld rfl rfl rfl rfl rfl ?_ | refine W.ld rfl rfl rfl rfl rfl ?_))
    refine W.ret2 (.inr rfl) rfl rfl rfl (DiskP p D) ⟨?_, rfl⟩ (Imp.pack (DiskP.mk (nb, wb, ov) hD) Imp.all)
    rw [Disk.read, if_neg (by simp [h'.1]), if_neg (by omega)]
    simp [List.getD_eq_getElem?_getD, hm]
theorem disk_Sync (p : Nat) (D : Disk) : CS 97 [ptr p] (DiskP p D) fun v H' => v = int D.sync.2 ∧ H' = DiskP p D.sync.1 := by
  refine CS.walk Tryz.func97 rfl Tryz.ntmps97 rfl fun c R => ?_
  refine W.open (DiskP.opn p D) rfl ?_
  rintro ⟨nb, wb, ov⟩ hD
  have hD' := M.sync_ok hD
  (repeat (first | refine W.ctl rfl ?_ | refine W.op rfl rfl rfl rfl ?_ | refine W.skip rfl rfl ?_ | refine W.fld rfl rfl rfl rfl rfl ?_ | refine W.ld rfl rfl rfl rfl rfl ?_))
  refine W.case 6 rfl (fun hg => ?_) (fun hg => ?_)
  · (repeat (first | refine W.ctl rfl ?_ | refine W.op rfl rfl rfl rfl ?_ | refine W.skip rfl rfl ?_ | refine W.fld rfl rfl rfl rfl rfl ?_ | refine W.ld rfl rfl rfl rfl rfl ?_))
    have e : D.sync = (D, 5) := by rw [Disk.sync, if_pos hg]
    rw [e]
    exact W.ret1 (.inr rfl) rfl rfl (DiskP p D) ⟨rfl, rfl⟩ (Imp.pack (DiskP.mk (nb, wb, ov) hD) Imp.all)
  · have e : D.sync = ({ D with was := [], order := [] }, 0) := by rw [Disk.sync, if_neg (by simp [hg])]
    rw [e] at hD' ⊢
    (repeat (first | refine W.ctl rfl ?_ | refine W.op rfl rfl rfl rfl ?_ | refine W.skip rfl rfl ?_ | refine W.fld rfl rfl rfl rfl rfl ?_ | refine W.ld rfl rfl rfl rfl rfl ?_))
    refine W.mmk .i64 rfl rfl rfl rfl fun b => ?_
    (repeat (first | refine W.ctl rfl ?_ | refine W.op rfl rfl rfl rfl ?_ | refine W.skip rfl rfl ?_ | refine W.fld rfl rfl rfl rfl rfl ?_ | refine W.ld rfl rfl rfl rfl rfl ?_))
    refine W.st rfl rfl rfl rfl rfl ?_
    (repeat (first | refine W.ctl rfl ?_ | refine W.op rfl rfl rfl rfl ?_ | refine W.skip rfl rfl ?_ | refine W.fld rfl rfl rfl rfl rfl ?_ | refine W.ld rfl rfl rfl rfl rfl ?_))
    refine W.st rfl rfl rfl rfl rfl ?_
    (repeat (first | refine W.ctl rfl ?_ | refine W.op rfl rfl rfl rfl ?_ | refine W.skip rfl rfl ?_ | refine W.fld rfl rfl rfl rfl rfl ?_ | refine W.ld rfl rfl rfl rfl rfl ?_))
    exact W.ret1 (.inr rfl) rfl rfl (DiskP p { D with was := [], order := [] }) ⟨rfl, rfl⟩ (Imp.pack (DiskP.mk0 nb b hD' rfl) Imp.all)
theorem lookI_some {n : Int} {l : List (Int × Str)} : (lookI n (l.map fun q => (q.1, str q.2))).isSome = (l.lookup n).isSome := by rw [lookI_map]; simp
theorem disk_Write (p : Nat) (D : Disk) (n : Int) (s : Str) : CS 169 [ptr p, int n, str s] (DiskP p D) fun v H' => v = int (D.write n s).2 ∧ H' = DiskP p (D.write n s).1 := by
  refine CS.walk Tryz.func169 rfl Tryz.ntmps169 rfl fun c R => ?_
  (repeat (first | refine W.ctl rfl ?_ | refine W.op rfl rfl rfl rfl ?_ | refine W.skip rfl rfl ?_ | refine W.fld rfl rfl rfl rfl rfl ?_ | refine W.ld rfl rfl rfl rfl rfl ?_))
  refine W.call (disk_may p D n) rfl rfl rfl rfl Tryz.call187 ⟨rfl, rfl, trivial⟩ ?_
  rintro _ _ ⟨rfl, rfl⟩
  (repeat (first | refine W.ctl rfl ?_ | refine W.op rfl rfl rfl rfl ?_ | refine W.skip rfl rfl ?_ | refine W.fld rfl rfl rfl rfl rfl ?_ | refine W.ld rfl rfl rfl rfl rfl ?_))
  by_cases h : dmay D n ≠ 0
  · refine W.yes rfl rfl rfl rfl h ?_
    (repeat (first | refine W.ctl rfl ?_ | refine W.op rfl rfl rfl rfl ?_ | refine W.skip rfl rfl ?_ | refine W.fld rfl rfl rfl rfl rfl ?_ | refine W.ld rfl rfl rfl rfl rfl ?_))
    have e : D.write n s = (D, dmay D n) := by
      unfold dmay at h ⊢
      unfold Disk.write
      split <;> rename_i hg
      · rfl
      · rw [if_neg hg] at h
        split <;> rename_i hn
        · rfl
        · simp [hn] at h
    rw [e]
    exact W.ret1 (.inr rfl) rfl rfl (DiskP p D) ⟨rfl, rfl⟩ Imp.all
  refine W.no rfl rfl rfl rfl h ?_
  (repeat (first | refine W.ctl rfl ?_ | refine W.op rfl rfl rfl rfl ?_ | refine W.skip rfl rfl ?_ | refine W.fld rfl rfl rfl rfl rfl ?_ | refine W.ld rfl rfl rfl rfl rfl ?_))
  have h' : D.gone = false ∧ 0 ≤ n ∧ n < D.now.length := by
    unfold dmay at h
    cases hg : D.gone with
    | true => rw [hg] at h; simp at h
    | false =>
      rw [hg] at h
      simp only [Bool.false_eq_true, if_false] at h
      by_cases hn : n < 0 ∨ n ≥ D.now.length
      · rw [if_pos hn] at h; simp at h
      · exact ⟨rfl, by omega, by omega⟩
  have e0 : D.write n s = if s.length ≠ 256 then (D, 1) else
      if D.fuse = 0 then ({ D with gone := true }, 5) else
      let d := { D with fuse := max (-1) (D.fuse - 1) }
      let d := if (d.was.lookup n).isSome then d else { d with was := d.was ++ [(n, d.now.getD n.toNat [])], order := d.order ++ [n] }
      ({ d with now := d.now.set n.toNat s }, 0) := by rw [Disk.write, if_neg (by simp [h'.1]), if_neg (by omega)]
  obtain ⟨m, rfl⟩ := Int.eq_ofNat_of_zero_le h'.2.1
  have hm : m < D.now.length := by omega
  refine W.slen rfl rfl rfl rfl rfl ?_
  by_cases h2 : (s.length : Int) ≠ 256
  · refine W.yes rfl rfl rfl rfl h2 ?_
    (repeat (first | refine W.ctl rfl ?_ | refine W.op rfl rfl rfl rfl ?_ | refine W.skip rfl rfl ?_ | refine W.fld rfl rfl rfl rfl rfl ?_ | refine W.ld rfl rfl rfl rfl rfl ?_))
    rw [e0, if_pos (by omega)]
    exact W.ret1 (.inr rfl) rfl rfl (DiskP p D) ⟨rfl, rfl⟩ Imp.all
  refine W.no rfl rfl rfl rfl h2 ?_
  rw [if_neg (by omega)] at e0
  refine W.open (DiskP.opn p D) rfl ?_
  rintro ⟨nb, wb, ov⟩ hD
  have hok := M.write_ok hD m s
  (repeat (first | refine W.ctl rfl ?_ | refine W.op rfl rfl rfl rfl ?_ | refine W.skip rfl rfl ?_ | refine W.fld rfl rfl rfl rfl rfl ?_ | refine W.ld rfl rfl rfl rfl rfl ?_))
  by_cases h3 : D.fuse = 0
  · refine W.yes rfl rfl rfl rfl h3 ?_
    (repeat (first | refine W.ctl rfl ?_ | refine W.op rfl rfl rfl rfl ?_ | refine W.skip rfl rfl ?_ | refine W.fld rfl rfl rfl rfl rfl ?_ | refine W.ld rfl rfl rfl rfl rfl ?_))
    refine W.st rfl rfl rfl rfl rfl ?_
    (repeat (first | refine W.ctl rfl ?_ | refine W.op rfl rfl rfl rfl ?_ | refine W.skip rfl rfl ?_ | refine W.fld rfl rfl rfl rfl rfl ?_ | refine W.ld rfl rfl rfl rfl rfl ?_))
    rw [e0, if_pos h3] at hok ⊢
    exact W.ret1 (.inr rfl) rfl rfl (DiskP p { D with gone := true }) ⟨rfl, rfl⟩ (Imp.pack (DiskP.mk (nb, wb, ov) hok) Imp.all)
  refine W.no rfl rfl rfl rfl h3 ?_
  rw [if_neg h3] at e0
  have f0 := hD.fuse0
  have f1 := hD.fuse1
  (repeat (first | refine W.ctl rfl ?_ | refine W.op rfl rfl rfl rfl ?_ | refine W.skip rfl rfl ?_ | refine W.fld rfl rfl rfl rfl rfl ?_ | refine W.ld rfl rfl rfl rfl rfl ?_))
  refine W.ar (r := D.fuse - 1) rfl rfl rfl rfl rfl rfl rfl (wrap_i64 (by omega) (by omega)) ?_
  refine W.mx rfl rfl rfl rfl rfl rfl ?_
  (repeat (first | refine W.ctl rfl ?_ | refine W.op rfl rfl rfl rfl ?_ | refine W.skip rfl rfl ?_ | refine W.fld rfl rfl rfl rfl rfl ?_ | refine W.ld rfl rfl rfl rfl rfl ?_))
  refine W.st rfl rfl rfl rfl rfl ?_
  (repeat (first | refine W.ctl rfl ?_ | refine W.op rfl rfl rfl rfl ?_ | refine W.skip rfl rfl ?_ | refine W.fld rfl rfl rfl rfl rfl ?_ | refine W.ld rfl rfl rfl rfl rfl ?_))
  have hmm : D.now[m]? = some (D.now[m]'hm) := List.getElem?_eq_getElem hm
  refine W.mget rfl rfl rfl rfl rfl rfl ?_
  cases hw : (D.was.lookup (m : Int)).isSome with
  | true =>
    have e1 : D.write m s = ({ D with fuse := max (-1) (D.fuse - 1), now := D.now.set m s }, 0) := by rw [e0]; simp [hw]
    rw [e1] at hok ⊢
    rw [lookI_some, hw]
    (repeat (first | refine W.ctl rfl ?_ | refine W.op rfl rfl rfl rfl ?_ | refine W.skip rfl rfl ?_ | refine W.fld rfl rfl rfl rfl rfl ?_ | refine W.ld rfl rfl rfl rfl rfl ?_))
    refine W.idx rfl rfl rfl rfl rfl rfl (by omega) (by omega) ?_
    refine W.sti rfl rfl rfl rfl rfl (by simp; omega) ?_
    (repeat (first | refine W.ctl rfl ?_ | refine W.op rfl rfl rfl rfl ?_ | refine W.skip rfl rfl ?_ | refine W.fld rfl rfl rfl rfl rfl ?_ | refine W.ld rfl rfl rfl rfl rfl ?_))
    refine W.ret1 (.inr rfl) rfl rfl (DiskP p { D with fuse := max (-1) (D.fuse - 1), now := D.now.set m s }) ⟨rfl, rfl⟩ (Imp.pack (DiskP.mk2 (p := p) (nb := nb) (wb := wb) (ov := ov) (len := D.now.length) (on := D.order.length) (nowv := (D.now.map str).set (0 + (m : Int).toNat * 1) (str s)) (ordv := D.order.map int) (wasv := D.was.map fun q => (q.1, str q.2)) (f := if -1 < D.fuse - 1 then D.fuse - 1 else -1) (g := D.gone) hok ?_ ?_ rfl rfl rfl ?_ rfl) Imp.all)
    · simp
    · simp
    · dsimp only; omega
  | false =>
    have e1 : D.write m s = ({ D with fuse := max (-1) (D.fuse - 1), now := D.now.set m s, was := D.was ++ [((m : Int), D.now[m]'hm)], order := D.order ++ [(m : Int)] }, 0) := by rw [e0]; simp [hw, List.getD_eq_getElem?_getD, hmm]
    rw [e1] at hok ⊢
    rw [lookI_some, hw]
    (repeat (first | refine W.ctl rfl ?_ | refine W.op rfl rfl rfl rfl ?_ | refine W.skip rfl rfl ?_ | refine W.fld rfl rfl rfl rfl rfl ?_ | refine W.ld rfl rfl rfl rfl rfl ?_))
    refine W.anyq (fun j => !Nat.beq j 12) [0, 1, 2, 3, 4, 5, 6, 7, 8, 9, 10, 11] (by kernel_rfl) (by kernel_rfl) (by kernel_rfl) (by kernel_rfl) rfl ?_
    (repeat (first | refine W.ctl rfl ?_ | refine W.op rfl rfl rfl rfl ?_ | refine W.skip rfl rfl ?_ | refine W.fld rfl rfl rfl rfl rfl ?_ | refine W.ld rfl rfl rfl rfl rfl ?_))
    refine W.idx rfl rfl rfl rfl rfl rfl (by omega) (by omega) ?_
    refine W.ldi (v := str (D.now[m]'hm)) rfl rfl rfl rfl rfl (by simp [hm]) ?_
    refine W.tdn ?_
    refine W.ald1 12 (by kernel_rfl) rfl ?_
    refine W.mput rfl rfl rfl rfl rfl rfl ?_
    refine W.afb (W.adn (by kernel_rfl) ?_)
    (repeat (first | refine W.ctl rfl ?_ | refine W.op rfl rfl rfl rfl ?_ | refine W.skip rfl rfl ?_ | refine W.fld rfl rfl rfl rfl rfl ?_ | refine W.ld rfl rfl rfl rfl rfl ?_))
    refine W.bsl (vs := [_]) rfl rfl rfl rfl ⟨rfl, rfl, trivial⟩ rfl rfl rfl fun g => ?_
    (repeat (first | refine W.ctl rfl ?_ | refine W.op rfl rfl rfl rfl ?_ | refine W.skip rfl rfl ?_ | refine W.fld rfl rfl rfl rfl rfl ?_ | refine W.ld rfl rfl rfl rfl rfl ?_))
    have ho := hD.order_le
    refine W.app (kk := 1) (n' := D.order.length) (xs := D.order.map int) (news := [int m]) rfl rfl rfl rfl rfl rfl rfl rfl rfl (by omega) (by omega) fun v' _ => ?_
    (repeat (first | refine W.ctl rfl ?_ | refine W.op rfl rfl rfl rfl ?_ | refine W.skip rfl rfl ?_ | refine W.fld rfl rfl rfl rfl rfl ?_ | refine W.ld rfl rfl rfl rfl rfl ?_))
    refine W.st rfl rfl rfl rfl rfl ?_
    (repeat (first | refine W.ctl rfl ?_ | refine W.op rfl rfl rfl rfl ?_ | refine W.skip rfl rfl ?_ | refine W.fld rfl rfl rfl rfl rfl ?_ | refine W.ld rfl rfl rfl rfl rfl ?_))
    refine W.idx rfl rfl rfl rfl rfl rfl (by omega) (by omega) ?_
    refine W.sti rfl rfl rfl rfl rfl (by simp; omega) ?_
    (repeat (first | refine W.ctl rfl ?_ | refine W.op rfl rfl rfl rfl ?_ | refine W.skip rfl rfl ?_ | refine W.fld rfl rfl rfl rfl rfl ?_ | refine W.ld rfl rfl rfl rfl rfl ?_))
    have hw2 : lookI (m : Int) (D.was.map fun q => (q.1, str q.2)) = none := by
      have := lookI_some (n := (m : Int)) (l := D.was)
      rw [hw] at this
      cases hq : lookI (m : Int) (D.was.map fun q => (q.1, str q.2)) with
      | none => rfl
      | some v => rw [hq] at this; cases this
    refine W.ret1 (.inr rfl) rfl rfl (DiskP p { D with fuse := max (-1) (D.fuse - 1), now := D.now.set m s, was := D.was ++ [((m : Int), D.now[m]'hm)], order := D.order ++ [(m : Int)] }) ⟨rfl, rfl⟩
      (Imp.pack (DiskP.mk2 (p := p) (nb := nb) (wb := wb) (ov := v') (len := D.now.length) (on := D.order.length + 1) (nowv := (D.now.map str).set (0 + (m : Int).toNat * 1) (str s)) (ordv := D.order.map int ++ [int m]) (wasv := putI m (str (D.now[m]'hm)) (D.was.map fun q => (q.1, str q.2))) (f := if -1 < D.fuse - 1 then D.fuse - 1 else -1) (g := D.gone) hok ?_ ?_ ?_ ?_ ?_ ?_ rfl) Imp.all)
    · simp
    · simp
    · rw [putI_new hw2]; simp
    · simp
    · simp
    · dsimp only; omega
end Go.Proofs.YtbdhhedfplkidaaGreat
