/- The store: what its functions do. -/
import Derived.Test.YtbdhhedfplkidaaGreatC4
namespace Go.Proofs.YtbdhhedfplkidaaGreat
open Go
open M (Str Disk DiskOk Store)
set_option maxHeartbeats 400000
set_option maxRecDepth 2000
theorem lookI_mset (n : Int) : ∀ l : List Int, lookI n (mset l) = if n ∈ l then some (.bool true) else none
  | [] => rfl
  | m :: l => by
    simp only [mset, List.map_cons, lookI, List.mem_cons]
    by_cases h : n = m
    · simp [h]
    · have := lookI_mset n l
      simp only [mset] at this
      simp [h, this]
theorem getD_mset (n : Int) (l : List Int) : (lookI n (mset l)).getD (.bool false) = .bool (decide (n ∈ l)) := by
  rw [lookI_mset]; by_cases h : n ∈ l <;> simp [h]
theorem delI_mset (n : Int) : ∀ l : List Int, delI n (mset l) = mset (l.erase n)
  | [] => rfl
  | m :: l => by
    simp only [mset, List.map_cons, delI, List.erase_cons]
    by_cases h : n = m
    · simp [h]
    · have := delI_mset n l
      simp only [mset] at this
      rw [if_neg h, if_neg (by simpa using Ne.symm h)]
      simp [this]
theorem putI_mset {n : Int} {l : List Int} (h : n ∉ l) : putI n (.bool true) (mset l) = mset (l ++ [n]) := by
  rw [putI_new (by rw [lookI_mset, if_neg h])]; simp [mset]
theorem shadow_Fresh (p dp : Nat) (S : Store) (n : Int) : CS 117 [ptr p, int n] (StoreP p dp S) fun v H' => v = .bool (decide (n ∈ S.fresh)) ∧ H' = StoreP p dp S := by
  refine CS.walk Tryz.func117 rfl Tryz.ntmps117 rfl fun c R => ?_
  refine W.open (StoreP.opn p dp S) rfl ?_
  rintro ⟨fb, gb⟩ hS
  (repeat (first | refine W.ctl rfl ?_ | refine W.op rfl rfl rfl rfl ?_ | refine W.skip rfl rfl ?_ | refine W.fld rfl rfl rfl rfl rfl ?_ | refine W.ld rfl rfl rfl rfl rfl ?_))
  refine W.mgt rfl rfl rfl rfl rfl rfl ?_
  rw [getD_mset]
  (repeat (first | refine W.ctl rfl ?_ | refine W.op rfl rfl rfl rfl ?_ | refine W.skip rfl rfl ?_ | refine W.fld rfl rfl rfl rfl rfl ?_ | refine W.ld rfl rfl rfl rfl rfl ?_))
  exact W.ret1 (.inr rfl) rfl rfl (StoreP p dp S) ⟨rfl, rfl⟩ (Imp.pack (StoreP.mk (fb, gb) hS) Imp.all)
theorem read_ok {S : Store} (h : StoreOk S) (n : Int) : StoreOk (S.read n).1 := by
  unfold Store.read
  split
  · exact h
  split
  · exact h
  · exact told_ok h _
theorem shadow_Read (p dp : Nat) (S : Store) (n : Int) : CS 122 [ptr p, int n] (StoreP p dp S) fun v H' => v = .tuple #[int (S.read n).2.1, str (S.read n).2.2.1, int (S.read n).2.2.2] ∧ H' = StoreP p dp (S.read n).1 := by
  refine CS.walk Tryz.func122 rfl Tryz.ntmps122 rfl fun c R => ?_
  refine W.open (StoreP.opn p dp S) rfl ?_
  rintro ⟨fb, gb⟩ hS
  (repeat (first | refine W.ctl rfl ?_ | refine W.op rfl rfl rfl rfl ?_ | refine W.skip rfl rfl ?_ | refine W.fld rfl rfl rfl rfl rfl ?_ | refine W.ld rfl rfl rfl rfl rfl ?_))
  refine W.case 7 rfl (fun hd => ?_) (fun hd => ?_)
  · (repeat (first | refine W.ctl rfl ?_ | refine W.op rfl rfl rfl rfl ?_ | refine W.skip rfl rfl ?_ | refine W.fld rfl rfl rfl rfl rfl ?_ | refine W.ld rfl rfl rfl rfl rfl ?_))
    have e : S.read n = (S, 0, [], 5) := by rw [Store.read, if_pos hd]
    rw [e]
    exact W.ret3 (.inr rfl) rfl rfl rfl rfl (StoreP p dp S) ⟨rfl, rfl⟩ (Imp.pack (StoreP.mk (fb, gb) hS) Imp.all)
  have e0 : S.read n = if n < 2 ∨ n ≥ S.size then (S, 0, [], 1) else (S.told (M.pageRead S.d n).2.2, M.pageRead S.d n) := by rw [Store.read, if_neg (by simp [hd])]
  (repeat (first | refine W.ctl rfl ?_ | refine W.op rfl rfl rfl rfl ?_ | refine W.skip rfl rfl ?_ | refine W.fld rfl rfl rfl rfl rfl ?_ | refine W.ld rfl rfl rfl rfl rfl ?_))
  by_cases h1 : n < 2
  · refine W.yes rfl rfl rfl rfl h1 ?_
    (repeat (first | refine W.ctl rfl ?_ | refine W.op rfl rfl rfl rfl ?_ | refine W.skip rfl rfl ?_ | refine W.fld rfl rfl rfl rfl rfl ?_ | refine W.ld rfl rfl rfl rfl rfl ?_))
    rw [e0, if_pos (.inl h1)]
    exact W.ret3 (.inr rfl) rfl rfl rfl rfl (StoreP p dp S) ⟨rfl, rfl⟩ (Imp.pack (StoreP.mk (fb, gb) hS) Imp.all)
  refine W.no rfl rfl rfl rfl h1 ?_
  (repeat (first | refine W.ctl rfl ?_ | refine W.op rfl rfl rfl rfl ?_ | refine W.skip rfl rfl ?_ | refine W.fld rfl rfl rfl rfl rfl ?_ | refine W.ld rfl rfl rfl rfl rfl ?_))
  refine W.imp (H' := StoreP p dp S • R) rfl (Imp.pack (StoreP.mk (fb, gb) hS) Imp.all) ?_
  refine W.call (shadow_Size p dp S) rfl rfl rfl rfl Tryz.call77 ⟨rfl, trivial⟩ ?_
  rintro _ _ ⟨rfl, rfl⟩
  (repeat (first | refine W.ctl rfl ?_ | refine W.op rfl rfl rfl rfl ?_ | refine W.skip rfl rfl ?_ | refine W.fld rfl rfl rfl rfl rfl ?_ | refine W.ld rfl rfl rfl rfl rfl ?_))
  by_cases h2 : S.size ≤ n
  · refine W.yes rfl rfl rfl rfl h2 ?_
    (repeat (first | refine W.ctl rfl ?_ | refine W.op rfl rfl rfl rfl ?_ | refine W.skip rfl rfl ?_ | refine W.fld rfl rfl rfl rfl rfl ?_ | refine W.ld rfl rfl rfl rfl rfl ?_))
    rw [e0, if_pos (.inr h2)]
    exact W.ret3 (.inr rfl) rfl rfl rfl rfl (StoreP p dp S) ⟨rfl, rfl⟩ Imp.all
  refine W.no rfl rfl rfl rfl h2 ?_
  rw [if_neg (by omega)] at e0
  refine W.open (StoreP.opn p dp S) rfl ?_
  rintro ⟨fb, gb⟩ _
  (repeat (first | refine W.ctl rfl ?_ | refine W.op rfl rfl rfl rfl ?_ | refine W.skip rfl rfl ?_ | refine W.fld rfl rfl rfl rfl rfl ?_ | refine W.ld rfl rfl rfl rfl rfl ?_))
  refine W.call (page_Read dp S.d n) rfl rfl rfl rfl Tryz.call132 ⟨rfl, rfl, trivial⟩ ?_
  rintro _ _ ⟨rfl, rfl⟩
  (repeat (first | refine W.ctl rfl ?_ | refine W.op rfl rfl rfl rfl ?_ | refine W.skip rfl rfl ?_ | refine W.fld rfl rfl rfl rfl rfl ?_ | refine W.ld rfl rfl rfl rfl rfl ?_))
  refine W.imp (H' := StoreP p dp S • R) rfl (Imp.pack (StoreP.mk (fb, gb) hS) Imp.all) ?_
  refine W.call (shadow_told p dp S _) rfl rfl rfl rfl Tryz.call96 ⟨rfl, rfl, trivial⟩ ?_
  rintro _ _ ⟨rfl, rfl⟩
  (repeat (first | refine W.ctl rfl ?_ | refine W.op rfl rfl rfl rfl ?_ | refine W.skip rfl rfl ?_ | refine W.fld rfl rfl rfl rfl rfl ?_ | refine W.ld rfl rfl rfl rfl rfl ?_))
  rw [e0]
  exact W.ret3 (.inr rfl) rfl rfl rfl rfl _ ⟨rfl, rfl⟩ Imp.all
theorem pageWrite_ok {D : Disk} (h : DiskOk D) (n kind : Int) (text : Str) : DiskOk (M.pageWrite D n kind text).1 := by
  unfold M.pageWrite
  dsimp only
  split
  · exact h
  · exact M.write_ok h _ _
theorem swrite_ok {S : Store} (h : StoreOk S) (n kind : Int) (text : Str) : StoreOk (S.write n kind text).1 := by
  unfold Store.write
  split
  · exact h
  split
  · exact h
  · exact told_ok (S := { S with d := _ }) ⟨pageWrite_ok h.disk _ _ _, h.gen0, h.gen1, h.root0, h.root1, h.used⟩ _
theorem shadow_Write (p dp : Nat) (S : Store) (n kind : Int) (text : Str) (ht : text.length < 9223372036854775808) : CS 150 [ptr p, int n, int kind, str text] (StoreP p dp S) fun v H' => v = int (S.write n kind text).2 ∧ H' = StoreP p dp (S.write n kind text).1 := by
  refine CS.walk Tryz.func150 rfl Tryz.ntmps150 rfl fun c R => ?_
  refine W.open (StoreP.opn p dp S) rfl ?_
  rintro ⟨fb, gb⟩ hS
  (repeat (first | refine W.ctl rfl ?_ | refine W.op rfl rfl rfl rfl ?_ | refine W.skip rfl rfl ?_ | refine W.fld rfl rfl rfl rfl rfl ?_ | refine W.ld rfl rfl rfl rfl rfl ?_))
  refine W.case 9 rfl (fun hd => ?_) (fun hd => ?_)
  · (repeat (first | refine W.ctl rfl ?_ | refine W.op rfl rfl rfl rfl ?_ | refine W.skip rfl rfl ?_ | refine W.fld rfl rfl rfl rfl rfl ?_ | refine W.ld rfl rfl rfl rfl rfl ?_))
    have e : S.write n kind text = (S, 5) := by rw [Store.write, if_pos hd]
    rw [e]
    exact W.ret1 (.inr rfl) rfl rfl (StoreP p dp S) ⟨rfl, rfl⟩ (Imp.pack (StoreP.mk (fb, gb) hS) Imp.all)
  have e0 : S.write n kind text = if n ∉ S.fresh then (S, 6) else (Store.told { S with d := (M.pageWrite S.d n kind text).1 } (M.pageWrite S.d n kind text).2, (M.pageWrite S.d n kind text).2) := by rw [Store.write, if_neg (by simp [hd])]
  (repeat (first | refine W.ctl rfl ?_ | refine W.op rfl rfl rfl rfl ?_ | refine W.skip rfl rfl ?_ | refine W.fld rfl rfl rfl rfl rfl ?_ | refine W.ld rfl rfl rfl rfl rfl ?_))
  refine W.mgt rfl rfl rfl rfl rfl rfl ?_
  rw [getD_mset]
  by_cases h1 : n ∈ S.fresh
  · rw [decide_eq_true h1]
    (repeat (first | refine W.ctl rfl ?_ | refine W.op rfl rfl rfl rfl ?_ | refine W.skip rfl rfl ?_ | refine W.fld rfl rfl rfl rfl rfl ?_ | refine W.ld rfl rfl rfl rfl rfl ?_))
    refine W.call (page_Write dp S.d n kind text ht) rfl rfl rfl rfl Tryz.call137 ⟨rfl, rfl, rfl, rfl, trivial⟩ ?_
    rintro _ _ ⟨rfl, rfl⟩
    have hS2 : StoreOk { S with d := (M.pageWrite S.d n kind text).1 } := ⟨pageWrite_ok hS.disk _ _ _, hS.gen0, hS.gen1, hS.root0, hS.root1, hS.used⟩
    refine W.imp (H' := StoreP p dp { S with d := (M.pageWrite S.d n kind text).1 } • R) rfl (Imp.pack (StoreP.mk (fb, gb) hS2) Imp.all) ?_
    refine W.call (shadow_told p dp { S with d := (M.pageWrite S.d n kind text).1 } _) rfl rfl rfl rfl Tryz.call96 ⟨rfl, rfl, trivial⟩ ?_
    rintro _ _ ⟨rfl, rfl⟩
    (repeat (first | refine W.ctl rfl ?_ | refine W.op rfl rfl rfl rfl ?_ | refine W.skip rfl rfl ?_ | refine W.fld rfl rfl rfl rfl rfl ?_ | refine W.ld rfl rfl rfl rfl rfl ?_))
    rw [e0, if_neg (by simp [h1])]
    exact W.ret1 (.inr rfl) rfl rfl _ ⟨rfl, rfl⟩ Imp.all
  · rw [decide_eq_false h1]
    (repeat (first | refine W.ctl rfl ?_ | refine W.op rfl rfl rfl rfl ?_ | refine W.skip rfl rfl ?_ | refine W.fld rfl rfl rfl rfl rfl ?_ | refine W.ld rfl rfl rfl rfl rfl ?_))
    rw [e0, if_pos h1]
    exact W.ret1 (.inr rfl) rfl rfl (StoreP p dp S) ⟨rfl, rfl⟩ (Imp.pack (StoreP.mk (fb, gb) hS) Imp.all)
theorem give_ok {S : Store} (h : StoreOk S) (n : Int) : StoreOk (S.give n).1 := by
  unfold Store.give
  split
  · exact h
  split
  · exact ⟨h.disk, h.gen0, h.gen1, h.root0, h.root1, h.used⟩
  split
  · exact ⟨h.disk, h.gen0, h.gen1, h.root0, h.root1, h.used⟩
  · exact h
theorem shadow_Give (p dp : Nat) (S : Store) (n : Int) (hn0 : -9223372036854775808 ≤ n) (hn1 : n < 9223372036854775808) : CS 71 [ptr p, int n] (StoreP p dp S) fun v H' => v = int (S.give n).2 ∧ H' = StoreP p dp (S.give n).1 := by
  refine CS.walk Tryz.func71 rfl Tryz.ntmps71 rfl fun c R => ?_
  refine W.open (StoreP.opn p dp S) rfl ?_
  rintro ⟨fb, gb⟩ hS
  have hS' := give_ok hS n
  (repeat (first | refine W.ctl rfl ?_ | refine W.op rfl rfl rfl rfl ?_ | refine W.skip rfl rfl ?_ | refine W.fld rfl rfl rfl rfl rfl ?_ | refine W.ld rfl rfl rfl rfl rfl ?_))
  refine W.case 5 rfl (fun hd => ?_) (fun hd => ?_)
  · (repeat (first | refine W.ctl rfl ?_ | refine W.op rfl rfl rfl rfl ?_ | refine W.skip rfl rfl ?_ | refine W.fld rfl rfl rfl rfl rfl ?_ | refine W.ld rfl rfl rfl rfl rfl ?_))
    have e : S.give n = (S, 5) := by rw [Store.give, if_pos hd]
    rw [e]
    exact W.ret1 (.inr rfl) rfl rfl (StoreP p dp S) ⟨rfl, rfl⟩ (Imp.pack (StoreP.mk (fb, gb) hS) Imp.all)
  have e0 : S.give n = if n ∈ S.fresh then ({ S with fresh := S.fresh.erase n }, 0) else if M.has S.used n = true ∧ n ∉ S.given then ({ S with given := S.given ++ [n] }, 0) else (S, 6) := by rw [Store.give, if_neg (by simp [hd])]
  (repeat (first | refine W.ctl rfl ?_ | refine W.op rfl rfl rfl rfl ?_ | refine W.skip rfl rfl ?_ | refine W.fld rfl rfl rfl rfl rfl ?_ | refine W.ld rfl rfl rfl rfl rfl ?_))
  refine W.mgt rfl rfl rfl rfl rfl rfl ?_
  rw [getD_mset]
  by_cases h1 : n ∈ S.fresh
  · rw [decide_eq_true h1]
    rw [if_pos h1] at e0
    rw [e0] at hS' ⊢
    (repeat (first | refine W.ctl rfl ?_ | refine W.op rfl rfl rfl rfl ?_ | refine W.skip rfl rfl ?_ | refine W.fld rfl rfl rfl rfl rfl ?_ | refine W.ld rfl rfl rfl rfl rfl ?_))
    refine W.mdn rfl rfl rfl rfl rfl ?_
    rw [delI_mset]
    (repeat (first | refine W.ctl rfl ?_ | refine W.op rfl rfl rfl rfl ?_ | refine W.skip rfl rfl ?_ | refine W.fld rfl rfl rfl rfl rfl ?_ | refine W.ld rfl rfl rfl rfl rfl ?_))
    exact W.ret1 (.inr rfl) rfl rfl _ ⟨rfl, rfl⟩ (Imp.pack (StoreP.mk (fb, gb) hS') Imp.all)
  · rw [decide_eq_false h1]
    rw [if_neg h1] at e0
    have hu := hS.used
    (repeat (first | refine W.ctl rfl ?_ | refine W.op rfl rfl rfl rfl ?_ | refine W.skip rfl rfl ?_ | refine W.fld rfl rfl rfl rfl rfl ?_ | refine W.ld rfl rfl rfl rfl rfl ?_))
    refine W.call (bits_Has S.used n (by omega) hn0 hn1) rfl rfl rfl rfl Tryz.call95 ⟨rfl, rfl, trivial⟩ ?_
    rintro _ _ ⟨rfl, rfl⟩
    cases h2 : M.has S.used n with
    | false =>
      (repeat (first | refine W.ctl rfl ?_ | refine W.op rfl rfl rfl rfl ?_ | refine W.skip rfl rfl ?_ | refine W.fld rfl rfl rfl rfl rfl ?_ | refine W.ld rfl rfl rfl rfl rfl ?_))
      rw [e0, if_neg (by simp [h2])]
      exact W.ret1 (.inr rfl) rfl rfl (StoreP p dp S) ⟨rfl, rfl⟩ (Imp.pack (StoreP.mk (fb, gb) hS) Imp.all)
    | true =>
      (repeat (first | refine W.ctl rfl ?_ | refine W.op rfl rfl rfl rfl ?_ | refine W.skip rfl rfl ?_ | refine W.fld rfl rfl rfl rfl rfl ?_ | refine W.ld rfl rfl rfl rfl rfl ?_))
      refine W.mgt rfl rfl rfl rfl rfl rfl ?_
      rw [getD_mset]
      by_cases h3 : n ∈ S.given
      · rw [decide_eq_true h3]
        (repeat (first | refine W.ctl rfl ?_ | refine W.op rfl rfl rfl rfl ?_ | refine W.skip rfl rfl ?_ | refine W.fld rfl rfl rfl rfl rfl ?_ | refine W.ld rfl rfl rfl rfl rfl ?_))
        rw [e0, if_neg (by simp [h3])]
        exact W.ret1 (.inr rfl) rfl rfl (StoreP p dp S) ⟨rfl, rfl⟩ (Imp.pack (StoreP.mk (fb, gb) hS) Imp.all)
      · rw [decide_eq_false h3]
        rw [if_pos ⟨h2, h3⟩] at e0
        rw [e0] at hS' ⊢
        (repeat (first | refine W.ctl rfl ?_ | refine W.op rfl rfl rfl rfl ?_ | refine W.skip rfl rfl ?_ | refine W.fld rfl rfl rfl rfl rfl ?_ | refine W.ld rfl rfl rfl rfl rfl ?_))
        refine W.mput rfl rfl rfl rfl rfl rfl ?_
        rw [putI_mset h3]
        (repeat (first | refine W.ctl rfl ?_ | refine W.op rfl rfl rfl rfl ?_ | refine W.skip rfl rfl ?_ | refine W.fld rfl rfl rfl rfl rfl ?_ | refine W.ld rfl rfl rfl rfl rfl ?_))
        exact W.ret1 (.inr rfl) rfl rfl _ ⟨rfl, rfl⟩ (Imp.pack (StoreP.mk (fb, gb) hS') Imp.all)
theorem takeFrom_ok {S : Store} (h : StoreOk S) : ∀ (k : Nat) (n : Int), StoreOk (S.takeFrom k n).1
  | 0, _ => h
  | k + 1, n => by
    unfold Store.takeFrom
    split
    · exact ⟨h.disk, h.gen0, h.gen1, h.root0, h.root1, h.used⟩
    · exact takeFrom_ok h k (n + 1)
theorem shadow_Take (p dp : Nat) (S : Store) : CS 109 [ptr p] (StoreP p dp S) fun v H' => v = .tuple #[int S.take.2.1, int S.take.2.2] ∧ H' = StoreP p dp S.take.1 := by
  refine CS.walk Tryz.func109 rfl Tryz.ntmps109 rfl fun c R => ?_
  refine W.open (StoreP.opn p dp S) rfl ?_
  rintro ⟨fb, gb⟩ hS
  have hu := hS.used
  have hsz : 8 ≤ S.size ∧ S.size ≤ 640 := by have := hS.disk.least; have := hS.disk.most; simp only [Store.size]; omega
  (repeat (first | refine W.ctl rfl ?_ | refine W.op rfl rfl rfl rfl ?_ | refine W.skip rfl rfl ?_ | refine W.fld rfl rfl rfl rfl rfl ?_ | refine W.ld rfl rfl rfl rfl rfl ?_))
  refine W.case 8 rfl (fun hd => ?_) (fun hd => ?_)
  · (repeat (first | refine W.ctl rfl ?_ | refine W.op rfl rfl rfl rfl ?_ | refine W.skip rfl rfl ?_ | refine W.fld rfl rfl rfl rfl rfl ?_ | refine W.ld rfl rfl rfl rfl rfl ?_))
    have e : S.take = (S, 0, 5) := by rw [Store.take, if_pos hd]
    rw [e]
    exact W.ret2 (.inr rfl) rfl rfl rfl (StoreP p dp S) ⟨rfl, rfl⟩ (Imp.pack (StoreP.mk (fb, gb) hS) Imp.all)
  have e0 : S.take = S.takeFrom (S.size - 2).toNat 2 := by rw [Store.take, if_neg (by simp [hd])]
  (repeat (first | refine W.ctl rfl ?_ | refine W.op rfl rfl rfl rfl ?_ | refine W.skip rfl rfl ?_ | refine W.fld rfl rfl rfl rfl rfl ?_ | refine W.ld rfl rfl rfl rfl rfl ?_))
  refine W.loop (σ := Nat) (fun i => i ≤ (S.size - 2).toNat ∧ S.take = S.takeFrom ((S.size - 2).toNat - i) (2 + i)) (fun i => [(0, ptr p), (4, int (2 + i))]) (fun _ => StoreP p dp S • R) (fun i => (S.size - 2).toNat - i) 0 ⟨by omega, by simpa using e0⟩ ⟨rfl, rfl, trivial⟩ (Imp.pack (StoreP.mk (fb, gb) hS) Imp.all) ?_
  rintro i ⟨hi, ei⟩
  (repeat (first | refine W.ctl rfl ?_ | refine W.op rfl rfl rfl rfl ?_ | refine W.skip rfl rfl ?_ | refine W.fld rfl rfl rfl rfl rfl ?_ | refine W.ld rfl rfl rfl rfl rfl ?_))
  refine W.call (shadow_Size p dp S) rfl rfl rfl rfl Tryz.call77 ⟨rfl, trivial⟩ ?_
  rintro _ _ ⟨rfl, rfl⟩
  (repeat (first | refine W.ctl rfl ?_ | refine W.op rfl rfl rfl rfl ?_ | refine W.skip rfl rfl ?_ | refine W.fld rfl rfl rfl rfl rfl ?_ | refine W.ld rfl rfl rfl rfl rfl ?_))
  by_cases h1 : (2 + i : Int) < S.size
  · refine W.yes rfl rfl rfl rfl h1 ?_
    (repeat (first | refine W.ctl rfl ?_ | refine W.op rfl rfl rfl rfl ?_ | refine W.skip rfl rfl ?_ | refine W.fld rfl rfl rfl rfl rfl ?_ | refine W.ld rfl rfl rfl rfl rfl ?_))
    refine W.open (StoreP.opn p dp S) rfl ?_
    rintro ⟨fb, gb⟩ _
    (repeat (first | refine W.ctl rfl ?_ | refine W.op rfl rfl rfl rfl ?_ | refine W.skip rfl rfl ?_ | refine W.fld rfl rfl rfl rfl rfl ?_ | refine W.ld rfl rfl rfl rfl rfl ?_))
    refine W.call (bits_Has S.used (2 + i) (by omega) (by omega) (by omega)) rfl rfl rfl rfl Tryz.call95 ⟨rfl, rfl, trivial⟩ ?_
    rintro _ _ ⟨rfl, rfl⟩
    obtain ⟨k, hk⟩ : ∃ k, (S.size - 2).toNat - i = k + 1 := ⟨(S.size - 2).toNat - i - 1, by omega⟩
    rw [hk] at ei
    have ei' : S.take = if M.has S.used (2 + i) = false ∧ (2 + i : Int) ∉ S.fresh then ({ S with fresh := S.fresh ++ [(2 + i : Int)] }, 2 + (i : Int), 0) else S.takeFrom k (2 + i + 1) := ei
    have e1 : (2 + (i : Int) + 1) = 2 + ((i + 1 : Nat) : Int) := by omega
    have hk' : (S.size - 2).toNat - (i + 1) = k := by omega
    cases h2 : M.has S.used (2 + i) with
    | true =>
      rw [if_neg (by simp [h2])] at ei'
      (repeat (first | refine W.ctl rfl ?_ | refine W.op rfl rfl rfl rfl ?_ | refine W.skip rfl rfl ?_ | refine W.fld rfl rfl rfl rfl rfl ?_ | refine W.ld rfl rfl rfl rfl rfl ?_))
      refine W.ar (r := 2 + i + 1) rfl rfl rfl rfl rfl rfl rfl (wrap_i64 (by omega) (by omega)) ?_
      (repeat (first | refine W.ctl rfl ?_ | refine W.op rfl rfl rfl rfl ?_ | refine W.skip rfl rfl ?_ | refine W.fld rfl rfl rfl rfl rfl ?_ | refine W.ld rfl rfl rfl rfl rfl ?_))
      rw [e1] at ei' ⊢
      exact W.again (i + 1) ⟨by omega, by rw [hk']; exact ei'⟩ (by omega) ⟨rfl, rfl, trivial⟩ (Imp.pack (StoreP.mk (fb, gb) hS) Imp.all)
    | false =>
      (repeat (first | refine W.ctl rfl ?_ | refine W.op rfl rfl rfl rfl ?_ | refine W.skip rfl rfl ?_ | refine W.fld rfl rfl rfl rfl rfl ?_ | refine W.ld rfl rfl rfl rfl rfl ?_))
      refine W.mgt rfl rfl rfl rfl rfl rfl ?_
      rw [getD_mset]
      by_cases h3 : (2 + i : Int) ∈ S.fresh
      · rw [decide_eq_true h3]
        rw [if_neg (by simp [h3])] at ei'
        (repeat (first | refine W.ctl rfl ?_ | refine W.op rfl rfl rfl rfl ?_ | refine W.skip rfl rfl ?_ | refine W.fld rfl rfl rfl rfl rfl ?_ | refine W.ld rfl rfl rfl rfl rfl ?_))
        refine W.ar (r := 2 + i + 1) rfl rfl rfl rfl rfl rfl rfl (wrap_i64 (by omega) (by omega)) ?_
        (repeat (first | refine W.ctl rfl ?_ | refine W.op rfl rfl rfl rfl ?_ | refine W.skip rfl rfl ?_ | refine W.fld rfl rfl rfl rfl rfl ?_ | refine W.ld rfl rfl rfl rfl rfl ?_))
        rw [e1] at ei' ⊢
        exact W.again (i + 1) ⟨by omega, by rw [hk']; exact ei'⟩ (by omega) ⟨rfl, rfl, trivial⟩ (Imp.pack (StoreP.mk (fb, gb) hS) Imp.all)
      · rw [decide_eq_false h3]
        rw [if_pos ⟨h2, h3⟩] at ei'
        have hS' : StoreOk { S with fresh := S.fresh ++ [(2 + i : Int)] } := ⟨hS.disk, hS.gen0, hS.gen1, hS.root0, hS.root1, hS.used⟩
        (repeat (first | refine W.ctl rfl ?_ | refine W.op rfl rfl rfl rfl ?_ | refine W.skip rfl rfl ?_ | refine W.fld rfl rfl rfl rfl rfl ?_ | refine W.ld rfl rfl rfl rfl rfl ?_))
        refine W.mput rfl rfl rfl rfl rfl rfl ?_
        rw [putI_mset h3]
        (repeat (first | refine W.ctl rfl ?_ | refine W.op rfl rfl rfl rfl ?_ | refine W.skip rfl rfl ?_ | refine W.fld rfl rfl rfl rfl rfl ?_ | refine W.ld rfl rfl rfl rfl rfl ?_))
        rw [ei']
        exact W.ret2 (.inr rfl) rfl rfl rfl _ ⟨rfl, rfl⟩ (Imp.pack (StoreP.mk (fb, gb) hS') Imp.all)
  · refine W.no rfl rfl rfl rfl h1 ?_
    (repeat (first | refine W.ctl rfl ?_ | refine W.op rfl rfl rfl rfl ?_ | refine W.skip rfl rfl ?_ | refine W.fld rfl rfl rfl rfl rfl ?_ | refine W.ld rfl rfl rfl rfl rfl ?_))
    have hi' : (S.size - 2).toNat - i = 0 := by omega
    rw [hi'] at ei
    have ei' : S.take = (S, 0, 4) := ei
    rw [ei']
    exact W.ret2 (.inr rfl) rfl rfl rfl (StoreP p dp S) ⟨rfl, rfl⟩ Imp.all
theorem shadow_Rollback (p : Nat) (dv used : Value) (gen root : Int) (f g : Option Nat) (down : Bool) : CS 46 [ptr p] (row p 153 [dv, int gen, int root, used, .map f, .map g, .bool down])
    fun v H' => v = .tuple #[] ∧ ∃ fb gb, H' = (row p 153 [dv, int gen, int root, used, .map (some fb), .map (some gb), .bool down] • mapI .i64 fb [] • mapI .i64 gb []) := by
  refine CS.walk Tryz.func46 rfl Tryz.ntmps46 rfl fun c R => ?_
  (repeat (first | refine W.ctl rfl ?_ | refine W.op rfl rfl rfl rfl ?_ | refine W.skip rfl rfl ?_ | refine W.fld rfl rfl rfl rfl rfl ?_ | refine W.ld rfl rfl rfl rfl rfl ?_))
  refine W.mmk .i64 rfl rfl rfl rfl fun fb => ?_
  refine W.mmk .i64 rfl rfl rfl rfl fun gb => ?_
  (repeat (first | refine W.ctl rfl ?_ | refine W.op rfl rfl rfl rfl ?_ | refine W.skip rfl rfl ?_ | refine W.fld rfl rfl rfl rfl rfl ?_ | refine W.ld rfl rfl rfl rfl rfl ?_))
  refine W.st rfl rfl rfl rfl rfl ?_
  (repeat (first | refine W.ctl rfl ?_ | refine W.op rfl rfl rfl rfl ?_ | refine W.skip rfl rfl ?_ | refine W.fld rfl rfl rfl rfl rfl ?_ | refine W.ld rfl rfl rfl rfl rfl ?_))
  refine W.st rfl rfl rfl rfl rfl ?_
  (repeat (first | refine W.ctl rfl ?_ | refine W.op rfl rfl rfl rfl ?_ | refine W.skip rfl rfl ?_ | refine W.fld rfl rfl rfl rfl rfl ?_ | refine W.ld rfl rfl rfl rfl rfl ?_))
  exact W.ret0 (.inl rfl) rfl _ ⟨rfl, fb, gb, rfl⟩ Imp.all
theorem over_ok {D : Disk} (h : DiskOk D) {gen root : Int} {used : Str} (hg : 0 ≤ gen) (hg2 : gen < 281474976710656) (hr : 0 ≤ root) (hr2 : root < 640) (hu : used.length = 80) : StoreOk (M.over D gen root used) := ⟨h, hg, hg2, hr, hr2, hu⟩
theorem StoreP.mk0 {p dp fb gb : Nat} {S : Store} (h : StoreOk S) (hf : S.fresh = []) (hg : S.given = []) : Imp (row p 153 [ptr dp, int S.gen, int S.root, str S.used, .map (some fb), .map (some gb), .bool S.down] • DiskP dp S.d • mapI .i64 fb [] • mapI .i64 gb [] • emp) (StoreP p dp S) := by
  have := StoreP.mk (p := p) (dp := dp) (fb, gb) h
  simp only [StoreB, hf, hg] at this
  exact this
theorem shadow_over (dp : Nat) (D : Disk) (gen root : Int) (used : Str) (hg : 0 ≤ gen) (hg2 : gen < 281474976710656) (hr : 0 ≤ root) (hr2 : root < 640) (hu : used.length = 80) : CS 91 [ptr dp, headV gen root used] (DiskP dp D) fun v H' => ∃ p, v = ptr p ∧ H' = StoreP p dp (M.over D gen root used) := by
  refine CS.walk Tryz.func91 rfl Tryz.ntmps91 rfl fun c R => ?_
  refine W.open (DiskP.opn dp D) rfl ?_
  rintro ⟨nb, wb, ov⟩ hD
  refine W.imp (H' := DiskP dp D • R) rfl (Imp.pack (DiskP.mk (nb, wb, ov) hD) Imp.all) ?_
  (repeat (first | refine W.ctl rfl ?_ | refine W.op rfl rfl rfl rfl ?_ | refine W.skip rfl rfl ?_ | refine W.fld rfl rfl rfl rfl rfl ?_ | refine W.ld rfl rfl rfl rfl rfl ?_))
  refine W.box rfl rfl rfl rfl rfl fun b => ?_
  (repeat (first | refine W.ctl rfl ?_ | refine W.op rfl rfl rfl rfl ?_ | refine W.skip rfl rfl ?_ | refine W.fld rfl rfl rfl rfl rfl ?_ | refine W.ld rfl rfl rfl rfl rfl ?_))
  refine W.lds rfl rfl rfl rfl rfl ?_
  refine W.bld rfl rfl rfl rfl rfl ?_
  refine W.box rfl rfl rfl rfl rfl fun p => ?_
  (repeat (first | refine W.ctl rfl ?_ | refine W.op rfl rfl rfl rfl ?_ | refine W.skip rfl rfl ?_ | refine W.fld rfl rfl rfl rfl rfl ?_ | refine W.ld rfl rfl rfl rfl rfl ?_))
  refine W.call (shadow_Rollback p (ptr dp) (str used) gen root none none false) rfl rfl rfl rfl Tryz.call46 ⟨rfl, trivial⟩ ?_
  rintro _ _ ⟨rfl, fb, gb, rfl⟩
  simp only [sep_assoc']
  (repeat (first | refine W.ctl rfl ?_ | refine W.op rfl rfl rfl rfl ?_ | refine W.skip rfl rfl ?_ | refine W.fld rfl rfl rfl rfl rfl ?_ | refine W.ld rfl rfl rfl rfl rfl ?_))
  exact W.ret1 (.inr rfl) rfl rfl (StoreP p dp (M.over D gen root used)) ⟨p, rfl, rfl⟩ (Imp.pack (StoreP.mk0 (fb := fb) (gb := gb) (over_ok hD hg hg2 hr hr2 hu) rfl rfl) Imp.all)
end Go.Proofs.YtbdhhedfplkidaaGreat
