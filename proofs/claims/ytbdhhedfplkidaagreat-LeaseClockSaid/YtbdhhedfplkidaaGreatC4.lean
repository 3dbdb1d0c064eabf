/- Pages on a disk; the store's heads. -/
import Derived.Test.YtbdhhedfplkidaaGreatC3
import Derived.Test.YtbdhhedfplkidaaGreatTys
namespace Go.Proofs.YtbdhhedfplkidaaGreat
open Go
open M (Str Disk DiskOk Store)
set_option maxHeartbeats 400000
set_option maxRecDepth 2000
theorem page_Write (p : Nat) (D : Disk) (n kind : Int) (text : Str) (ht : text.length < 9223372036854775808) : CS 137 [ptr p, int n, int kind, str text] (DiskP p D) fun v H' => v = int (M.pageWrite D n kind text).2 ∧ H' = DiskP p (M.pageWrite D n kind text).1 := by
  refine CS.walk Tryz.func137 rfl Tryz.ntmps137 rfl fun c R => ?_
  (repeat (first | refine W.ctl rfl ?_ | refine W.op rfl rfl rfl rfl ?_ | refine W.skip rfl rfl ?_ | refine W.fld rfl rfl rfl rfl rfl ?_ | refine W.ld rfl rfl rfl rfl rfl ?_))
  refine W.call (page_Seal kind text ht) rfl rfl rfl rfl Tryz.call168 ⟨rfl, rfl, trivial⟩ ?_
  rintro _ _ ⟨rfl, rfl⟩
  (repeat (first | refine W.ctl rfl ?_ | refine W.op rfl rfl rfl rfl ?_ | refine W.skip rfl rfl ?_ | refine W.fld rfl rfl rfl rfl rfl ?_ | refine W.ld rfl rfl rfl rfl rfl ?_))
  by_cases h : (M.sealP kind text).2 ≠ 0
  · refine W.yes rfl rfl rfl rfl h ?_
    (repeat (first | refine W.ctl rfl ?_ | refine W.op rfl rfl rfl rfl ?_ | refine W.skip rfl rfl ?_ | refine W.fld rfl rfl rfl rfl rfl ?_ | refine W.ld rfl rfl rfl rfl rfl ?_))
    rw [M.pageWrite, if_pos h]
    exact W.ret1 (.inr rfl) rfl rfl (DiskP p D) ⟨rfl, rfl⟩ Imp.all
  · refine W.no rfl rfl rfl rfl h ?_
    (repeat (first | refine W.ctl rfl ?_ | refine W.op rfl rfl rfl rfl ?_ | refine W.skip rfl rfl ?_ | refine W.fld rfl rfl rfl rfl rfl ?_ | refine W.ld rfl rfl rfl rfl rfl ?_))
    rw [M.pageWrite, if_neg h]
    refine W.call (disk_Write p D n _) rfl rfl rfl rfl Tryz.call169 ⟨rfl, rfl, rfl, trivial⟩ ?_
    rintro _ _ ⟨rfl, rfl⟩
    (repeat (first | refine W.ctl rfl ?_ | refine W.op rfl rfl rfl rfl ?_ | refine W.skip rfl rfl ?_ | refine W.fld rfl rfl rfl rfl rfl ?_ | refine W.ld rfl rfl rfl rfl rfl ?_))
    exact W.ret1 (.inr rfl) rfl rfl _ ⟨rfl, rfl⟩ Imp.all
theorem read_len {D : Disk} (h : DiskOk D) (n : Int) : (D.read n).1.length < 9223372036854775808 := by
  unfold Disk.read
  split
  · simp
  split
  · simp
  · rw [List.getD_eq_getElem?_getD]
    cases hq : D.now[n.toNat]? with
    | none => simp
    | some x => have := h.full x (List.mem_of_getElem? hq); simp; omega
theorem page_Read (p : Nat) (D : Disk) (n : Int) : CS 132 [ptr p, int n] (DiskP p D) fun v H' => v = .tuple #[int (M.pageRead D n).1, str (M.pageRead D n).2.1, int (M.pageRead D n).2.2] ∧ H' = DiskP p D := by
  refine CS.walk Tryz.func132 rfl Tryz.ntmps132 rfl fun c R => ?_
  (repeat (first | refine W.ctl rfl ?_ | refine W.op rfl rfl rfl rfl ?_ | refine W.skip rfl rfl ?_ | refine W.fld rfl rfl rfl rfl rfl ?_ | refine W.ld rfl rfl rfl rfl rfl ?_))
  refine W.open (DiskP.opn p D) rfl ?_
  rintro ⟨nb, wb, ov⟩ hD
  refine W.imp (H' := DiskP p D • R) rfl (Imp.pack (DiskP.mk (nb, wb, ov) hD) Imp.all) ?_
  refine W.call (disk_Read p D n) rfl rfl rfl rfl Tryz.call163 ⟨rfl, rfl, trivial⟩ ?_
  rintro _ _ ⟨rfl, rfl⟩
  (repeat (first | refine W.ctl rfl ?_ | refine W.op rfl rfl rfl rfl ?_ | refine W.skip rfl rfl ?_ | refine W.fld rfl rfl rfl rfl rfl ?_ | refine W.ld rfl rfl rfl rfl rfl ?_))
  by_cases h : (D.read n).2 ≠ 0
  · refine W.yes rfl rfl rfl rfl h ?_
    (repeat (first | refine W.ctl rfl ?_ | refine W.op rfl rfl rfl rfl ?_ | refine W.skip rfl rfl ?_ | refine W.fld rfl rfl rfl rfl rfl ?_ | refine W.ld rfl rfl rfl rfl rfl ?_))
    rw [M.pageRead, if_pos h]
    exact W.ret3 (.inr rfl) rfl rfl rfl rfl (DiskP p D) ⟨rfl, rfl⟩ Imp.all
  · refine W.no rfl rfl rfl rfl h ?_
    (repeat (first | refine W.ctl rfl ?_ | refine W.op rfl rfl rfl rfl ?_ | refine W.skip rfl rfl ?_ | refine W.fld rfl rfl rfl rfl rfl ?_ | refine W.ld rfl rfl rfl rfl rfl ?_))
    rw [M.pageRead, if_neg h]
    refine W.call (page_Open _ (read_len hD n)) rfl rfl rfl rfl Tryz.call164 ⟨rfl, trivial⟩ ?_
    rintro _ _ ⟨rfl, rfl⟩
    (repeat (first | refine W.ctl rfl ?_ | refine W.op rfl rfl rfl rfl ?_ | refine W.skip rfl rfl ?_ | refine W.fld rfl rfl rfl rfl rfl ?_ | refine W.ld rfl rfl rfl rfl rfl ?_))
    exact W.ret3 (.inr rfl) rfl rfl rfl rfl (DiskP p D) ⟨rfl, rfl⟩ Imp.all
abbrev headV (gen root : Int) (used : Str) : Value := .agg #[int gen, int root, str used]
theorem put_be {s n : Nat} (hs : 1 ≤ s) (hs8 : s ≤ 8) (hn : n < 256 ^ s) : M.put n s = (M.be s n, 0) := by
  rw [M.put, if_pos ⟨by omega, by omega, by simpa using hn⟩]; simp
theorem be_len : ∀ s n, (M.be s n).length = s := by
  intro s
  induction s with
  | zero => intro n; rfl
  | succ s ih => intro n; simp [M.be, ih]
theorem head_text (gen root : Int) (used : Str) (hu : used.length < 4611686018427387904) (hg : 0 ≤ gen) (hg2 : gen < 281474976710656) (hr : 0 ≤ root) (hr2 : root < 65536) : CS 138 [headV gen root used] emp fun v H' => v = str (M.headText gen root used) ∧ H' = emp := by
  obtain ⟨g, rfl⟩ := Int.eq_ofNat_of_zero_le hg
  obtain ⟨r, rfl⟩ := Int.eq_ofNat_of_zero_le hr
  refine CS.walk Tryz.func138 rfl Tryz.ntmps138 rfl fun c R => ?_
  (repeat (first | refine W.ctl rfl ?_ | refine W.op rfl rfl rfl rfl ?_ | refine W.skip rfl rfl ?_ | refine W.fld rfl rfl rfl rfl rfl ?_ | refine W.ld rfl rfl rfl rfl rfl ?_))
  refine W.box rfl rfl rfl rfl rfl fun b => ?_
  (repeat (first | refine W.ctl rfl ?_ | refine W.op rfl rfl rfl rfl ?_ | refine W.skip rfl rfl ?_ | refine W.fld rfl rfl rfl rfl rfl ?_ | refine W.ld rfl rfl rfl rfl rfl ?_))
  refine W.cv rfl rfl rfl rfl rfl (wrap_u64 (by omega) (by omega)) ?_
  (repeat (first | refine W.ctl rfl ?_ | refine W.op rfl rfl rfl rfl ?_ | refine W.skip rfl rfl ?_ | refine W.fld rfl rfl rfl rfl rfl ?_ | refine W.ld rfl rfl rfl rfl rfl ?_))
  refine W.call (num_Put g 6 (by omega) (by omega) (by omega)) rfl rfl rfl rfl Tryz.call54 ⟨rfl, rfl, trivial⟩ ?_
  rintro _ _ ⟨rfl, rfl⟩
  (repeat (first | refine W.ctl rfl ?_ | refine W.op rfl rfl rfl rfl ?_ | refine W.skip rfl rfl ?_ | refine W.fld rfl rfl rfl rfl rfl ?_ | refine W.ld rfl rfl rfl rfl rfl ?_))
  refine W.cv rfl rfl rfl rfl rfl (wrap_u64 (by omega) (by omega)) ?_
  (repeat (first | refine W.ctl rfl ?_ | refine W.op rfl rfl rfl rfl ?_ | refine W.skip rfl rfl ?_ | refine W.fld rfl rfl rfl rfl rfl ?_ | refine W.ld rfl rfl rfl rfl rfl ?_))
  refine W.call (num_Put r 2 (by omega) (by omega) (by omega)) rfl rfl rfl rfl Tryz.call54 ⟨rfl, rfl, trivial⟩ ?_
  rintro _ _ ⟨rfl, rfl⟩
  (repeat (first | refine W.ctl rfl ?_ | refine W.op rfl rfl rfl rfl ?_ | refine W.skip rfl rfl ?_ | refine W.fld rfl rfl rfl rfl rfl ?_ | refine W.ld rfl rfl rfl rfl rfl ?_))
  have e1 : (M.put g 6).1 = M.be 6 g := congrArg (·.1) (put_be (s := 6) (n := g) (by omega) (by omega) (by omega))
  have e2 : (M.put r 2).1 = M.be 2 r := congrArg (·.1) (put_be (s := 2) (n := r) (by omega) (by omega) (by omega))
  refine W.scat (s := (M.put g 6).1) (u := (M.put r 2).1) rfl rfl rfl rfl rfl rfl (by rw [e1, e2]; simp [be_len]) ?_
  (repeat (first | refine W.ctl rfl ?_ | refine W.op rfl rfl rfl rfl ?_ | refine W.skip rfl rfl ?_ | refine W.fld rfl rfl rfl rfl rfl ?_ | refine W.ld rfl rfl rfl rfl rfl ?_))
  refine W.scat (u := used) rfl rfl rfl rfl rfl rfl (by rw [e1, e2]; simp [be_len]; omega) ?_
  (repeat (first | refine W.ctl rfl ?_ | refine W.op rfl rfl rfl rfl ?_ | refine W.skip rfl rfl ?_ | refine W.fld rfl rfl rfl rfl rfl ?_ | refine W.ld rfl rfl rfl rfl rfl ?_))
  refine W.ret1 (.inr rfl) rfl rfl emp ⟨?_, rfl⟩ Imp.all
  rw [e1, e2]
  simp [M.headText]
theorem headText_len (gen root : Int) (used : Str) : (M.headText gen root used).length = 8 + used.length := by
  simp [M.headText, be_len]; omega
theorem head_lay (p : Nat) (D : Disk) (gen root : Int) (used : Str) (hg : 0 ≤ gen) (hg2 : gen < 281474976710656) (hr : 0 ≤ root) (hr2 : root < 65536) (hu : used.length < 4611686018427387904) : CS 98 [headV gen root used, ptr p] (DiskP p D) fun v H' => v = int (M.headLay D gen root used).2 ∧ H' = DiskP p (M.headLay D gen root used).1 := by
  refine CS.walk Tryz.func98 rfl Tryz.ntmps98 rfl fun c R => ?_
  (repeat (first | refine W.ctl rfl ?_ | refine W.op rfl rfl rfl rfl ?_ | refine W.skip rfl rfl ?_ | refine W.fld rfl rfl rfl rfl rfl ?_ | refine W.ld rfl rfl rfl rfl rfl ?_))
  refine W.box rfl rfl rfl rfl rfl fun b => ?_
  (repeat (first | refine W.ctl rfl ?_ | refine W.op rfl rfl rfl rfl ?_ | refine W.skip rfl rfl ?_ | refine W.fld rfl rfl rfl rfl rfl ?_ | refine W.ld rfl rfl rfl rfl rfl ?_))
  refine W.anyq (f := 3) (fun j => !Nat.beq j 6 && !Nat.beq j 7) [0, 1, 2, 3, 4] (by kernel_rfl) (by kernel_rfl) (by kernel_rfl) (by kernel_rfl) rfl ?_
  (repeat (first | refine W.ctl rfl ?_ | refine W.op rfl rfl rfl rfl ?_ | refine W.skip rfl rfl ?_ | refine W.fld rfl rfl rfl rfl rfl ?_ | refine W.ld rfl rfl rfl rfl rfl ?_))
  obtain ⟨g, rfl⟩ := Int.eq_ofNat_of_zero_le hg
  refine W.bin rfl rfl rfl rfl rfl rfl (fun w => M.bin_rem .i64 _ g 2 w (by decide)) ?_
  (repeat (first | refine W.ctl rfl ?_ | refine W.op rfl rfl rfl rfl ?_ | refine W.skip rfl rfl ?_ | refine W.fld rfl rfl rfl rfl rfl ?_ | refine W.ld rfl rfl rfl rfl rfl ?_))
  refine W.lds rfl rfl rfl rfl rfl ?_
  refine W.tdn ?_
  refine W.ald1 5 (by kernel_rfl) rfl ?_
  refine W.call (head_text g root used hu hg hg2 hr hr2) rfl rfl rfl rfl Tryz.call138 ⟨rfl, trivial⟩ ?_
  rintro _ _ ⟨rfl, rfl⟩
  refine W.aft Imp.all ?_
  refine W.ald1 6 (by kernel_rfl) rfl ?_
  refine W.call (page_Write p D _ _ _ (by rw [headText_len]; omega)) rfl rfl rfl rfl Tryz.call137 ⟨rfl, rfl, rfl, rfl, trivial⟩ ?_
  rintro _ _ ⟨rfl, rfl⟩
  refine W.afb ?_
  refine W.ald1 7 (by kernel_rfl) rfl ?_
  (repeat (first | refine W.ctl rfl ?_ | refine W.op rfl rfl rfl rfl ?_ | refine W.skip rfl rfl ?_ | refine W.fld rfl rfl rfl rfl rfl ?_ | refine W.ld rfl rfl rfl rfl rfl ?_))
  refine W.afb (W.adn (by kernel_rfl) ?_)
  (repeat (first | refine W.ctl rfl ?_ | refine W.op rfl rfl rfl rfl ?_ | refine W.skip rfl rfl ?_ | refine W.fld rfl rfl rfl rfl rfl ?_ | refine W.ld rfl rfl rfl rfl rfl ?_))
  have e : M.headLay D g root used = if (M.pageWrite D (↑(g % 2)) 1 (M.headText (↑g) root used)).2 ≠ 0 then M.pageWrite D (↑(g % 2)) 1 (M.headText (↑g) root used) else (M.pageWrite D (↑(g % 2)) 1 (M.headText (↑g) root used)).1.sync := rfl
  rw [e]
  by_cases h : (M.pageWrite D (↑(g % 2)) 1 (M.headText (↑g) root used)).2 ≠ 0
  · refine W.yes rfl rfl rfl rfl h ?_
    (repeat (first | refine W.ctl rfl ?_ | refine W.op rfl rfl rfl rfl ?_ | refine W.skip rfl rfl ?_ | refine W.fld rfl rfl rfl rfl rfl ?_ | refine W.ld rfl rfl rfl rfl rfl ?_))
    rw [if_pos h]
    exact W.ret1 (.inr rfl) rfl rfl _ ⟨rfl, rfl⟩ Imp.all
  · refine W.no rfl rfl rfl rfl h ?_
    (repeat (first | refine W.ctl rfl ?_ | refine W.op rfl rfl rfl rfl ?_ | refine W.skip rfl rfl ?_ | refine W.fld rfl rfl rfl rfl rfl ?_ | refine W.ld rfl rfl rfl rfl rfl ?_))
    refine W.call (disk_Sync p (M.pageWrite D (↑(g % 2)) 1 (M.headText (↑g) root used)).1) rfl rfl rfl rfl Tryz.call97 ⟨rfl, trivial⟩ ?_
    rintro _ _ ⟨rfl, rfl⟩
    (repeat (first | refine W.ctl rfl ?_ | refine W.op rfl rfl rfl rfl ?_ | refine W.skip rfl rfl ?_ | refine W.fld rfl rfl rfl rfl rfl ?_ | refine W.ld rfl rfl rfl rfl rfl ?_))
    rw [if_neg h]
    exact W.ret1 (.inr rfl) rfl rfl _ ⟨rfl, rfl⟩ Imp.all
/-! ### the store -/
structure StoreOk (S : Store) : Prop where
  disk : DiskOk S.d
  gen0 : 0 ≤ S.gen
  gen1 : S.gen < 281474976710656
  root0 : 0 ≤ S.root
  root1 : S.root < 640
  used : S.used.length = 80
abbrev mset (l : List Int) : List (Int × Value) := l.map fun n => (n, .bool true)
abbrev StoreB (p dp : Nat) (S : Store) (x : Nat × Nat) (R : HProp) : HProp := row p 153 [ptr dp, int S.gen, int S.root, str S.used, .map (some x.1), .map (some x.2), .bool S.down] •
  DiskP dp S.d • mapI .i64 x.1 (mset S.fresh) • mapI .i64 x.2 (mset S.given) • R
def StoreP (p dp : Nat) (S : Store) : HProp := ex fun x => pr (StoreOk S) • StoreB p dp S x emp
theorem StoreP.opn (p dp : Nat) (S : Store) (R : HProp) : Imp (StoreP p dp S • R) (ex fun x => pr (StoreOk S) • StoreB p dp S x R) :=
  Imp.opn' fun x => by simp only [StoreB, sep_assoc', emp_sep]
theorem StoreP.mk {p dp : Nat} {S : Store} (x : Nat × Nat) (h : StoreOk S) : Imp (StoreB p dp S x emp) (StoreP p dp S) := Imp.mk (B := fun x => StoreB p dp S x emp) (φ := fun _ => StoreOk S) x h
theorem shadow_Root (p dp : Nat) (S : Store) : CS 47 [ptr p] (StoreP p dp S) fun v H' => v = int S.root ∧ H' = StoreP p dp S := by
  refine CS.walk Tryz.func47 rfl Tryz.ntmps47 rfl fun c R => ?_
  refine W.open (StoreP.opn p dp S) rfl ?_
  rintro ⟨fb, gb⟩ hS
  (repeat (first | refine W.ctl rfl ?_ | refine W.op rfl rfl rfl rfl ?_ | refine W.skip rfl rfl ?_ | refine W.fld rfl rfl rfl rfl rfl ?_ | refine W.ld rfl rfl rfl rfl rfl ?_))
  exact W.ret1 (.inr rfl) rfl rfl (StoreP p dp S) ⟨rfl, rfl⟩ (Imp.pack (StoreP.mk (fb, gb) hS) Imp.all)
theorem shadow_Size (p dp : Nat) (S : Store) : CS 77 [ptr p] (StoreP p dp S) fun v H' => v = int S.size ∧ H' = StoreP p dp S := by
  refine CS.walk Tryz.func77 rfl Tryz.ntmps77 rfl fun c R => ?_
  refine W.open (StoreP.opn p dp S) rfl ?_
  rintro ⟨fb, gb⟩ hS
  (repeat (first | refine W.ctl rfl ?_ | refine W.op rfl rfl rfl rfl ?_ | refine W.skip rfl rfl ?_ | refine W.fld rfl rfl rfl rfl rfl ?_ | refine W.ld rfl rfl rfl rfl rfl ?_))
  refine W.call (disk_Size dp S.d) rfl rfl rfl rfl Tryz.call125 ⟨rfl, trivial⟩ ?_
  rintro _ _ ⟨rfl, rfl⟩
  (repeat (first | refine W.ctl rfl ?_ | refine W.op rfl rfl rfl rfl ?_ | refine W.skip rfl rfl ?_ | refine W.fld rfl rfl rfl rfl rfl ?_ | refine W.ld rfl rfl rfl rfl rfl ?_))
  exact W.ret1 (.inr rfl) rfl rfl (StoreP p dp S) ⟨rfl, rfl⟩ (Imp.pack (StoreP.mk (fb, gb) hS) Imp.all)
theorem told_eq (S : Store) (e : Int) : S.told e = { S with down := S.down || decide (e = 5) } := by
  unfold Store.told; congr 2
theorem told_ok {S : Store} (h : StoreOk S) (e : Int) : StoreOk (S.told e) := ⟨h.disk, h.gen0, h.gen1, h.root0, h.root1, h.used⟩
theorem shadow_told (p dp : Nat) (S : Store) (e : Int) : CS 96 [ptr p, int e] (StoreP p dp S) fun v H' => v = int e ∧ H' = StoreP p dp (S.told e) := by
  refine CS.walk Tryz.func96 rfl Tryz.ntmps96 rfl fun c R => ?_
  refine W.open (StoreP.opn p dp S) rfl ?_
  rintro ⟨fb, gb⟩ hS
  have hS' := told_ok hS e
  rw [told_eq] at hS' ⊢
  (repeat (first | refine W.ctl rfl ?_ | refine W.op rfl rfl rfl rfl ?_ | refine W.skip rfl rfl ?_ | refine W.fld rfl rfl rfl rfl rfl ?_ | refine W.ld rfl rfl rfl rfl rfl ?_))
  cases hd : S.down with
  | true =>
    simp only [hd, Bool.true_or] at hS' ⊢
    (repeat (first | refine W.ctl rfl ?_ | refine W.op rfl rfl rfl rfl ?_ | refine W.skip rfl rfl ?_ | refine W.fld rfl rfl rfl rfl rfl ?_ | refine W.ld rfl rfl rfl rfl rfl ?_))
    refine W.st rfl rfl rfl rfl rfl ?_
    (repeat (first | refine W.ctl rfl ?_ | refine W.op rfl rfl rfl rfl ?_ | refine W.skip rfl rfl ?_ | refine W.fld rfl rfl rfl rfl rfl ?_ | refine W.ld rfl rfl rfl rfl rfl ?_))
    exact W.ret1 (.inr rfl) rfl rfl _ ⟨rfl, rfl⟩ (Imp.pack (StoreP.mk (fb, gb) hS') Imp.all)
  | false =>
    simp only [hd, Bool.false_or] at hS' ⊢
    (repeat (first | refine W.ctl rfl ?_ | refine W.op rfl rfl rfl rfl ?_ | refine W.skip rfl rfl ?_ | refine W.fld rfl rfl rfl rfl rfl ?_ | refine W.ld rfl rfl rfl rfl rfl ?_))
    by_cases he : e = 5
    · refine W.yes rfl rfl rfl rfl he ?_
      simp only [he, decide_true] at hS' ⊢
      (repeat (first | refine W.ctl rfl ?_ | refine W.op rfl rfl rfl rfl ?_ | refine W.skip rfl rfl ?_ | refine W.fld rfl rfl rfl rfl rfl ?_ | refine W.ld rfl rfl rfl rfl rfl ?_))
      refine W.st rfl rfl rfl rfl rfl ?_
      (repeat (first | refine W.ctl rfl ?_ | refine W.op rfl rfl rfl rfl ?_ | refine W.skip rfl rfl ?_ | refine W.fld rfl rfl rfl rfl rfl ?_ | refine W.ld rfl rfl rfl rfl rfl ?_))
      exact W.ret1 (.inr rfl) rfl rfl _ ⟨rfl, rfl⟩ (Imp.pack (StoreP.mk (fb, gb) hS') Imp.all)
    · refine W.no rfl rfl rfl rfl he ?_
      simp only [he, decide_false] at hS' ⊢
      (repeat (first | refine W.ctl rfl ?_ | refine W.op rfl rfl rfl rfl ?_ | refine W.skip rfl rfl ?_ | refine W.fld rfl rfl rfl rfl rfl ?_ | refine W.ld rfl rfl rfl rfl rfl ?_))
      refine W.st rfl rfl rfl rfl rfl ?_
      (repeat (first | refine W.ctl rfl ?_ | refine W.op rfl rfl rfl rfl ?_ | refine W.skip rfl rfl ?_ | refine W.fld rfl rfl rfl rfl rfl ?_ | refine W.ld rfl rfl rfl rfl rfl ?_))
      exact W.ret1 (.inr rfl) rfl rfl _ ⟨rfl, rfl⟩ (Imp.pack (StoreP.mk (fb, gb) hS') Imp.all)
end Go.Proofs.YtbdhhedfplkidaaGreat
