/- Plain facts: pages taken, nodes laid; a store that is formatted. -/
import Derived.Test.YtbdhhedfplkidaaGreatP2
import Derived.Test.YtbdhhedfplkidaaGreatC22
namespace Go.Proofs.YtbdhhedfplkidaaGreat
open M (Str Store Disk Work Spot Txn)
theorem takeFrom_cases (S : Store) : ∀ (k : Nat) (n : Int), (∃ m, n ≤ m ∧ m < n + k ∧ M.has S.used m = false ∧ m ∉ S.fresh ∧ S.takeFrom k n = ({ S with fresh := S.fresh ++ [m] }, m, 0)) ∨
    (S.takeFrom k n = (S, 0, 4) ∧ ∀ m, n ≤ m → m < n + k → M.has S.used m = true ∨ m ∈ S.fresh)
  | 0, n => .inr ⟨rfl, fun m h1 h2 => by omega⟩
  | k + 1, n => by
    unfold Store.takeFrom
    by_cases h : M.has S.used n = false ∧ n ∉ S.fresh
    · left
      rw [if_pos h]
      exact ⟨n, by omega, by omega, h.1, h.2, rfl⟩
    · rw [if_neg h]
      rcases takeFrom_cases S k (n + 1) with ⟨m, h1, h2, h3, h4, h5⟩ | ⟨h1, h2⟩
      · exact .inl ⟨m, by omega, by omega, h3, h4, h5⟩
      · refine .inr ⟨h1, fun m h3 h4 => ?_⟩
        by_cases hm : m = n
        · subst hm
          by_cases hf : m ∈ S.fresh
          · exact .inr hf
          · left
            cases hh : M.has S.used m with
            | true => rfl
            | false => exact absurd ⟨hh, hf⟩ h
        · exact h2 m (by omega) (by omega)
theorem take_cases {S : Store} (hl : Hl S) (h8 : 2 ≤ S.size) : (∃ m, 2 ≤ m ∧ m < S.size ∧ M.has S.used m = false ∧ m ∉ S.fresh ∧ S.take = ({ S with fresh := S.fresh ++ [m] }, m, 0)) ∨
    (S.take = (S, 0, 4) ∧ ∀ m, 2 ≤ m → m < S.size → M.has S.used m = true ∨ m ∈ S.fresh) := by
  unfold Store.take
  rw [if_neg (by simp [hl.down])]
  rcases takeFrom_cases S (S.size - 2).toNat 2 with ⟨m, h1, h2, h3, h4, h5⟩ | ⟨h1, h2⟩
  · exact .inl ⟨m, h1, by omega, h3, h4, h5⟩
  · exact .inr ⟨h1, fun m h3 h4 => h2 m h3 (by omega)⟩
theorem fail_zero (X : Work) (h : X.e = 0) : X.fail 0 = X := by
  obtain ⟨S, rd, e⟩ := X
  dsimp only at h
  subst h
  rfl
theorem fresh_ok {X : Work} {n : M.Node} (hl : Hl X.s) (h8 : 2 ≤ X.s.size) (hr : M.right n = true) (hk : KB n) (he : X.e = 0) (hroom : ∃ m, 2 ≤ m ∧ m < X.s.size ∧ M.has X.s.used m = false ∧ m ∉ X.s.fresh) :
    ∃ m, 2 ≤ m ∧ m < X.s.size ∧ M.has X.s.used m = false ∧ m ∉ X.s.fresh ∧ X.fresh n = ({ X with s := putN { X.s with fresh := X.s.fresh ++ [m] } m n }, m) := by
  rcases take_cases hl h8 with ⟨m, h1, h2, h3, h4, h5⟩ | ⟨_, h6⟩
  · refine ⟨m, h1, h2, h3, h4, ?_⟩
    unfold Work.fresh
    rw [h5]
    dsimp only
    rw [fail_zero _ (by exact he)]
    rw [if_neg (by simpa using he)]
    rw [write_node_ok (X := { X with s := { X.s with fresh := X.s.fresh ++ [m] } }) ⟨hl.down, hl.gone, hl.fuse⟩ (by simp) h1 h2 hr hk he]
  · obtain ⟨m, h1, h2, h3, h4⟩ := hroom
    rcases h6 m h1 h2 with h | h
    · rw [h3] at h; cases h
    · exact absurd h h4
theorem lay_fresh_ok {X : Work} {at' : Int} {n : M.Node} (hl : Hl X.s) (hf : at' ∈ X.s.fresh) (h0 : 2 ≤ at') (h1 : at' < X.s.size) (hr : M.right n = true) (hk : KB n) (he : X.e = 0) : X.lay at' n = ({ X with s := putN X.s at' n }, at') := by
  unfold Work.lay
  rw [if_pos hf, write_node_ok hl hf h0 h1 hr hk he]
theorem none_has (n : Int) : M.has M.noneUsed n = false := by
  unfold M.has
  have : (M.noneUsed.getD (n.toNat / 8) 0).toNat = 0 := by
    rw [M.noneUsed, List.getD_eq_getElem?_getD, List.getElem?_replicate]
    split <;> rfl
  rw [this]
  simp
/-- A store that was formatted, and nothing of it is used. -/
structure Fm (n : Nat) (S : Store) : Prop where
  hl : Hl S
  size : S.size = n
  used : S.used = M.noneUsed
  fresh : S.fresh = []
  root : S.root = 0
theorem new_len (n : Nat) : (M.Disk.new n).now.length = n := List.length_replicate
theorem format_fm (n : Nat) (h0 : 8 ≤ n) (h1 : n ≤ 640) : (M.format (M.Disk.new n)).2 = 0 ∧ Fm n (M.over (M.format (M.Disk.new n)).1 1 0 M.noneUsed) ∧ Fm n (M.over (M.format (M.Disk.new n)).1 1 0 M.noneUsed).rollback := by
  have hlen : (M.headText 1 0 M.noneUsed).length = 88 := by rw [headText_len]; simp [M.noneUsed]
  obtain ⟨e1, e2, _⟩ := opens_seal 1 (M.headText 1 0 M.noneUsed) (by omega) (by omega) (by omega)
  obtain ⟨w1, w2, w3, w4⟩ := disk_write_ok (d := M.Disk.new n) (n := 1) (s := (M.sealP 1 (M.headText 1 0 M.noneUsed)).1) rfl rfl (by omega) (by rw [new_len]; omega) e2
  have hp : M.pageWrite (M.Disk.new n) ((1 : Int) % 2) 1 (M.headText 1 0 M.noneUsed) = (((M.Disk.new n).write 1 (M.sealP 1 (M.headText 1 0 M.noneUsed)).1).1, 0) := by
    unfold M.pageWrite
    dsimp only
    rw [show (M.sealP 1 (M.headText 1 0 M.noneUsed)).2 = 0 by rw [show M.sealP 1 (M.headText 1 0 M.noneUsed) = _ from e1], if_neg (by simp)]
    exact Prod.ext rfl w1
  obtain ⟨d, hd⟩ : ∃ d, ((M.Disk.new n).write 1 (M.sealP 1 (M.headText 1 0 M.noneUsed)).1).1 = d := ⟨_, rfl⟩
  rw [hd] at hp w2 w3 w4
  have hf : M.format (M.Disk.new n) = ({ d with was := [], order := [] }, 0) := by
    unfold M.format M.headLay
    rw [hp]
    dsimp only
    rw [if_neg (by simp)]
    unfold Disk.sync
    rw [if_neg (by simp [w3])]
  have hsz : d.now.length = n := by rw [w2, List.length_set, new_len]
  rw [hf]
  exact ⟨rfl, ⟨⟨rfl, w3, w4⟩, by simp [Store.size, hsz], rfl, rfl, rfl⟩, ⟨⟨rfl, w3, w4⟩, by simp [Store.size, Store.rollback, hsz], rfl, rfl, rfl⟩⟩
end Go.Proofs.YtbdhhedfplkidaaGreat
