/- Plain facts: what is written is read again. -/
import Derived.Test.YtbdhhedfplkidaaGreatC21
namespace Go.Proofs.YtbdhhedfplkidaaGreat
open M (Str Store Disk Work)
theorem fromBe_append (a : Str) : ∀ b : Str, M.fromBe (a ++ b) = M.fromBe a * 256 ^ b.length + M.fromBe b := by
  have : ∀ (n : Nat) (b : Str), b.length = n → M.fromBe (a ++ b) = M.fromBe a * 256 ^ b.length + M.fromBe b := by
    intro n
    induction n with
    | zero => intro b h; have := List.eq_nil_of_length_eq_zero h; subst this; simp [M.fromBe]
    | succ n ih =>
      intro b h
      have hne : b ≠ [] := by intro e; subst e; simp at h
      rw [← List.dropLast_concat_getLast hne, ← List.append_assoc, M.fromBe_snoc, M.fromBe_snoc, ih b.dropLast (by simp [h])]
      simp only [List.length_append, List.length_singleton, Nat.pow_succ]
      rw [Nat.add_mul, Nat.mul_assoc, Nat.add_assoc]
  exact fun b => this _ b rfl
theorem fromBe_be : ∀ (s n : Nat), M.fromBe (M.be s n) = n % 256 ^ s
  | 0, n => by simp [M.be, M.fromBe, Nat.mod_one]
  | s + 1, n => by
    have e : 256 ^ (s + 1) = 256 * 256 ^ s := by rw [Nat.pow_succ, Nat.mul_comm]
    rw [M.be, M.fromBe_snoc, fromBe_be s (n / 256), UInt8.toNat_ofNat', e, Nat.mod_mul]
    have : n % 256 % 2 ^ 8 = n % 256 := Nat.mod_mod _ _
    rw [this]
    generalize n / 256 % 256 ^ s = x
    omega
theorem take_be (s n : Nat) (rest : Str) (hs : 1 ≤ s) (hs8 : s ≤ 8) (hn : n < 256 ^ s) : M.take (M.be s n ++ rest) s = (n, rest, 0) := by
  have hl := M.be_length s n
  rw [M.take, if_neg (by omega), if_neg (by simp only [List.length_append, hl]; omega), Int.toNat_natCast, List.take_left' hl, List.drop_left' hl, fromBe_be, Nat.mod_eq_of_lt hn]
theorem take_text (v rest : Str) (h : v.length ≤ 255) : M.takeText (UInt8.ofNat v.length :: (v ++ rest)) = (v, rest, 0) := by
  have hn : (UInt8.ofNat v.length).toNat = v.length := by rw [UInt8.toNat_ofNat']; exact Nat.mod_eq_of_lt (by omega)
  simp only [M.takeText, hn]
  rw [if_neg (by simp; omega)]
  simp
theorem opens_seal (kind : Nat) (text : Str) (h1 : 1 ≤ kind) (h2 : kind ≤ 15) (h3 : text.length ≤ 240) : M.sealP kind text = (M.sealBody kind text ++ M.be 4 (M.sum (M.sealBody kind text)), 0) ∧ (M.sealP kind text).1.length = 256 ∧ M.opens (M.sealP kind text).1 = ((kind : Int), text, 0) := by
  have hl := M.sealBody_length (kind : Int) text h3
  have e : M.sealP kind text = (M.sealBody kind text ++ M.be 4 (M.sum (M.sealBody kind text)), 0) := by rw [M.sealP, if_neg (by omega)]
  have hlen : (M.sealP kind text).1.length = 256 := by rw [e]; simp only [List.length_append, hl, M.be_length]
  refine ⟨e, hlen, ?_⟩
  have h0 : (M.sealP kind text).1.getD 0 0 = UInt8.ofNat kind := by rw [e]; simp [M.sealBody]
  have h1' : (M.sealP kind text).1.getD 1 0 = UInt8.ofNat text.length := by rw [e]; simp [M.sealBody]
  have k0 : (UInt8.ofNat kind).toNat = kind := by rw [UInt8.toNat_ofNat']; exact Nat.mod_eq_of_lt (by omega)
  have k1 : (UInt8.ofNat text.length).toNat = text.length := by rw [UInt8.toNat_ofNat']; exact Nat.mod_eq_of_lt (by omega)
  have htake : (M.sealP kind text).1.take 252 = M.sealBody kind text := by rw [e]; exact List.take_left' hl
  have hdrop : (M.sealP kind text).1.drop 252 = M.be 4 (M.sum (M.sealBody kind text)) := by rw [e]; exact List.drop_left' hl
  have htext : ((M.sealP kind text).1.drop 2).take text.length = text := by
    rw [e]; simp [M.sealBody]
  have hsum : M.fromBe (M.be 4 (M.sum (M.sealBody kind text))) = M.sum (M.sealBody kind text) := by
    rw [fromBe_be]; exact Nat.mod_eq_of_lt (M.sum_u32 _)
  rw [M.opens, if_neg (by omega), htake, hdrop, hsum, if_neg (by simp), h0, h1', k0, k1]
  dsimp only
  rw [Nat.min_eq_left (by omega), htext, if_pos ⟨by rw [e], rfl⟩]
/-! a node's text -/
theorem dloop_nil (leaf : Bool) : ∀ (k : Nat) (s : M.Dec), s.b = [] → M.dloop leaf k s = s
  | 0, _, _ => rfl
  | k + 1, s, h => by rw [M.dloop, if_neg (by simp [h])]
theorem dloop_leaf : ∀ (keys : List Nat) (vals : List Str) (k : Nat) (ks : List Nat) (vs : List Str) (ds : List Int), keys.length = vals.length → keys.length ≤ k → (∀ x ∈ keys, x < 18446744073709551616) → (∀ v ∈ vals, v.length ≤ 255) →
    M.dloop true k ⟨ks, vs, ds, (List.zipWith M.encK keys vals).flatten, false⟩ = ⟨ks ++ keys, vs ++ vals, ds, [], false⟩
  | [], [], k, ks, vs, ds, _, _, _, _ => by rw [dloop_nil _ _ _ rfl]; simp
  | [], _ :: _, _, _, _, _, h, _, _, _ => by simp at h
  | _ :: _, [], _, _, _, _, h, _, _, _ => by simp at h
  | key :: keys, v :: vals, 0, _, _, _, _, h, _, _ => by simp at h
  | key :: keys, v :: vals, k + 1, ks, vs, ds, h, hk, hx, hv => by
    have hkey := hx key (by simp)
    have hvl := hv v (by simp)
    have e : (List.zipWith M.encK (key :: keys) (v :: vals)).flatten = M.be 8 key ++ (UInt8.ofNat v.length :: (v ++ (List.zipWith M.encK keys vals).flatten)) := by
      simp [M.encK, List.zipWith_cons_cons]
    have t1 : M.take (M.be 8 key ++ (UInt8.ofNat v.length :: (v ++ (List.zipWith M.encK keys vals).flatten))) 8 = (key, UInt8.ofNat v.length :: (v ++ (List.zipWith M.encK keys vals).flatten), 0) := take_be 8 key (UInt8.ofNat v.length :: (v ++ (List.zipWith M.encK keys vals).flatten)) (by omega) (by omega) (by omega)
    have t2 := take_text v (List.zipWith M.encK keys vals).flatten hvl
    rw [M.dloop, if_pos ⟨by rw [e]; simp, rfl⟩]
    have hstep : M.dstep true ⟨ks, vs, ds, (List.zipWith M.encK (key :: keys) (v :: vals)).flatten, false⟩ = ⟨ks ++ [key], vs ++ [v], ds, (List.zipWith M.encK keys vals).flatten, false⟩ := by
      rw [e]
      simp [M.dstep, M.Dec.key, M.Dec.val, t1, t2]
    rw [hstep, dloop_leaf keys vals k _ _ _ (by simpa using h) (by simpa using hk) (fun x h => hx x (by simp [h])) (fun x h => hv x (by simp [h]))]
    simp
theorem dloop_branch : ∀ (keys : List Nat) (kids : List Int) (k : Nat) (ks : List Nat) (vs : List Str) (ds : List Int), keys.length = kids.length → keys.length ≤ k → (∀ x ∈ keys, x < 18446744073709551616) → (∀ d ∈ kids, 0 ≤ d ∧ d < 65536) →
    M.dloop false k ⟨ks, vs, ds, (List.zipWith M.encB keys kids).flatten, false⟩ = ⟨ks ++ keys, vs, ds ++ kids, [], false⟩
  | [], [], k, ks, vs, ds, _, _, _, _ => by rw [dloop_nil _ _ _ rfl]; simp
  | [], _ :: _, _, _, _, _, h, _, _, _ => by simp at h
  | _ :: _, [], _, _, _, _, h, _, _, _ => by simp at h
  | key :: keys, d :: kids, 0, _, _, _, _, h, _, _ => by simp at h
  | key :: keys, d :: kids, k + 1, ks, vs, ds, h, hk, hx, hv => by
    have hkey := hx key (by simp)
    obtain ⟨d0, d1⟩ := hv d (by simp)
    obtain ⟨d, rfl⟩ := Int.eq_ofNat_of_zero_le d0
    have e : (List.zipWith M.encB (key :: keys) ((d : Int) :: kids)).flatten = M.be 8 key ++ (M.be 2 d ++ (List.zipWith M.encB keys kids).flatten) := by
      simp [M.encB, List.zipWith_cons_cons]
    have t1 : M.take (M.be 8 key ++ (M.be 2 d ++ (List.zipWith M.encB keys kids).flatten)) 8 = (key, M.be 2 d ++ (List.zipWith M.encB keys kids).flatten, 0) := take_be 8 key (M.be 2 d ++ (List.zipWith M.encB keys kids).flatten) (by omega) (by omega) (by omega)
    have t2 : M.take (M.be 2 d ++ (List.zipWith M.encB keys kids).flatten) 2 = (d, (List.zipWith M.encB keys kids).flatten, 0) := take_be 2 d (List.zipWith M.encB keys kids).flatten (by omega) (by omega) (by omega)
    have hne : M.be 8 key ++ (M.be 2 d ++ (List.zipWith M.encB keys kids).flatten) ≠ [] := fun hh => by
      have := congrArg List.length hh
      simp only [List.length_append, M.be_length, List.length_nil] at this
      omega
    rw [M.dloop, if_pos ⟨by rw [e]; exact hne, rfl⟩]
    have hstep : M.dstep false ⟨ks, vs, ds, (List.zipWith M.encB (key :: keys) ((d : Int) :: kids)).flatten, false⟩ = ⟨ks ++ [key], vs, ds ++ [(d : Int)], (List.zipWith M.encB keys kids).flatten, false⟩ := by
      rw [e]
      simp [M.dstep, M.Dec.key, M.Dec.kid, t1, t2]
    rw [hstep, dloop_branch keys kids k _ _ _ (by simpa using h) (by simpa using hk) (fun x h => hx x (by simp [h])) (fun x h => hv x (by simp [h]))]
    simp
theorem flatten_ge {α β : Type} (f : α → β → Str) (hf : ∀ a b, 1 ≤ (f a b).length) : ∀ (xs : List α) (ys : List β), xs.length ≤ ys.length → xs.length ≤ (List.zipWith f xs ys).flatten.length
  | [], _, _ => by simp
  | _ :: _, [], h => by simp at h
  | x :: xs, y :: ys, h => by
    have := flatten_ge f hf xs ys (by simpa using h)
    have := hf x y
    simp only [List.zipWith_cons_cons, List.flatten_cons, List.length_append, List.length_cons]; omega
theorem decode_eq {s rest : Str} {first : Nat} {D : M.Dec} (leaf : Bool) (ht : M.take s 1 = (first, rest, 0)) (hf : first = if leaf then 1 else 2)
    (hD : M.dloop leaf s.length (if leaf then ⟨[], [], [], rest, false⟩ else (⟨[], [], [], rest, false⟩ : M.Dec).kid) = D) (hb : D.bad = false) (hr : M.right ⟨leaf, D.keys, D.vals, D.kids⟩ = true) : M.decode s = (⟨leaf, D.keys, D.vals, D.kids⟩, 0) := by
  unfold M.decode
  have hl : decide (first = 1) = leaf := by rw [hf]; cases leaf <;> rfl
  simp only [ht, hl, ne_eq, not_true_eq_false, decide_false, Bool.false_eq_true, false_or]
  rw [if_neg (by rw [hf]; cases leaf <;> simp), hD, if_neg (by simp [hb, hr])]
theorem decode_encode {N : M.Node} (h : M.right N = true) (hk : KB N) : M.encode N = (M.encBody N, 0) ∧ M.decode (M.encBody N) = (N, 0) := by
  obtain ⟨q1, q2, q3, q4, q5, q6⟩ := right_bounds h
  refine ⟨by rw [M.encode, if_neg (by simp [h])], ?_⟩
  obtain ⟨leaf, keys, vals, kids⟩ := N
  dsimp only at q1 q2 q3 q4 q5 q6
  cases leaf with
  | true =>
    simp only [if_true] at q2 q3
    have hkids : kids = [] := List.eq_nil_of_length_eq_zero q3
    subst hkids
    have e : M.encBody ⟨true, keys, vals, []⟩ = M.be 1 1 ++ (List.zipWith M.encK keys vals).flatten := by simp [M.encBody, M.be]
    have t := take_be 1 1 (List.zipWith M.encK keys vals).flatten (by omega) (by omega) (by omega)
    have hfl := flatten_ge M.encK (fun a b => by simp [M.encK, M.be_length]; omega) keys vals (by omega)
    have dl := dloop_leaf keys vals (M.be 1 1 ++ (List.zipWith M.encK keys vals).flatten).length [] [] [] (by omega) (by simp only [List.length_append, M.be_length]; omega) hk (fun v hv => by have := q4 v hv; omega)
    rw [e]
    simp only [List.nil_append] at dl
    exact decode_eq true t rfl dl rfl h
  | false =>
    simp only [Bool.false_eq_true, if_false] at q2 q3
    have hvals : vals = [] := List.eq_nil_of_length_eq_zero q2
    subst hvals
    obtain ⟨d, kids, rfl⟩ : ∃ d l, kids = d :: l := by
      cases kids with
      | nil => simp at q3
      | cons d l => exact ⟨d, l, rfl⟩
    have hd := q5 d (by simp)
    obtain ⟨d, rfl⟩ := Int.eq_ofNat_of_zero_le (show 0 ≤ d by omega)
    have e : M.encBody ⟨false, keys, [], (d : Int) :: kids⟩ = M.be 1 2 ++ (M.be 2 d ++ (List.zipWith M.encB keys kids).flatten) := by simp [M.encBody, M.be]
    have t := take_be 1 2 (M.be 2 d ++ (List.zipWith M.encB keys kids).flatten) (by omega) (by omega) (by omega)
    have t2 := take_be 2 d (List.zipWith M.encB keys kids).flatten (by omega) (by omega) (by omega)
    have hfl := flatten_ge M.encB (fun a b => by simp [M.encB, M.be_length]) keys kids (by simp at q3; omega)
    have dl := dloop_branch keys kids (M.be 1 2 ++ (M.be 2 d ++ (List.zipWith M.encB keys kids).flatten)).length [] [] [(d : Int)] (by simp at q3; omega) (by simp only [List.length_append, M.be_length]; omega) hk (fun v hv => by have := q5 v (by simp [hv]); omega)
    rw [e]
    simp only [List.nil_append, List.singleton_append] at dl
    have t2' : M.take (M.be 2 d ++ (List.zipWith M.encB keys kids).flatten) 2 = (d, (List.zipWith M.encB keys kids).flatten, 0) := t2
    have ek : (⟨[], [], [], M.be 2 d ++ (List.zipWith M.encB keys kids).flatten, false⟩ : M.Dec).kid = ⟨[], [], [(d : Int)], (List.zipWith M.encB keys kids).flatten, false⟩ := by simp [M.Dec.kid, t2']
    rw [← ek] at dl
    exact decode_eq false t rfl dl rfl h
theorem encK_sum : ∀ (keys : List Nat) (vals : List Str), keys.length = vals.length → (List.zipWith M.encK keys vals).flatten.length = 9 * keys.length + (vals.map List.length).sum
  | [], [], _ => rfl
  | [], _ :: _, h => by simp at h
  | _ :: _, [], h => by simp at h
  | k :: keys, v :: vals, h => by
    have := encK_sum keys vals (by simpa using h)
    simp only [List.zipWith_cons_cons, List.flatten_cons, List.length_append, this, M.encK, M.be_length, List.length_cons, List.map_cons, List.sum_cons]; omega
theorem encB_sum : ∀ (keys : List Nat) (kids : List Int), keys.length = kids.length → (List.zipWith M.encB keys kids).flatten.length = 10 * keys.length
  | [], [], _ => rfl
  | [], _ :: _, h => by simp at h
  | _ :: _, [], h => by simp at h
  | k :: keys, v :: vals, h => by
    have := encB_sum keys vals (by simpa using h)
    simp only [List.zipWith_cons_cons, List.flatten_cons, List.length_append, this, M.encB, M.be_length, List.length_cons]; omega
theorem right_size {N : M.Node} (h : M.right N = true) : M.nsize N ≤ 240 := by
  simp only [M.right, Bool.and_eq_true] at h
  exact of_decide_eq_true h.2
theorem encBody_len {N : M.Node} (h : M.right N = true) : (M.encBody N).length = M.nsize N := by
  obtain ⟨q1, q2, q3, q4, q5, q6⟩ := right_bounds h
  unfold M.encBody M.nsize
  cases hl : N.leaf with
  | true =>
    rw [hl, if_pos rfl] at q2
    simp only [if_true, List.length_cons, encK_sum _ _ q2.symm]; omega
  | false =>
    rw [hl, if_neg (by simp)] at q3
    have : N.keys.length = N.kids.tail.length := by simp; omega
    simp only [Bool.false_eq_true, if_false, List.length_cons, List.length_append, M.be_length, encB_sum _ _ this]; omega
end Go.Proofs.YtbdhhedfplkidaaGreat
