/- A text that is built; a node's text. -/
import Derived.Test.YtbdhhedfplkidaaGreatC5
import Derived.Test.YtbdhhedfplkidaaGreatC7
import Derived.Test.YtbdhhedfplkidaaGreatE10
import Derived.Test.YtbdhhedfplkidaaGreatMod3
import Derived.Test.YtbdhhedfplkidaaGreatSh
namespace Go.Proofs.YtbdhhedfplkidaaGreat
open Go
open M (Str)
set_option maxHeartbeats 400000
set_option maxRecDepth 2000
/-- A builder that holds these bytes. -/
abbrev BdB (b : Nat) (bs : Str) (x : Bool × Option Nat × Nat) (R : HProp) : HProp := row b 230 [.pointer (if x.1 then some ⟨b, 0, none⟩ else none), sv x.2.1 bs.length x.2.2] • slck 1 5 (sv x.2.1 bs.length x.2.2) bs.length (bs.map u8) • R
def Bd (b : Nat) (bs : Str) : HProp := ex fun x => pr True • BdB b bs x emp
theorem Bd.opn (b : Nat) (bs : Str) (R : HProp) : Imp (Bd b bs • R) (ex fun x => pr True • BdB b bs x R) :=
  Imp.opn' fun x => by simp only [BdB, sep_assoc', emp_sep]
theorem Bd.mk {b : Nat} {bs : Str} (x : Bool × Option Nat × Nat) : Imp (BdB b bs x emp) (Bd b bs) := Imp.mk (B := fun x => BdB b bs x emp) (φ := fun _ => True) x trivial
theorem bd_lays : Lays.n240 Tryz.prog Tryz.lays105_ren := { Tryz.lays105 with }
theorem bd_used (b : Nat) (w : World) (h0 : w.cell? ⟨b, 0, none⟩ = some (.pointer (some ⟨b, 0, none⟩))) :
    Calls Tryz.prog 173 #[.pointer (some ⟨b, 0, none⟩)] w fun e w' => e = .returned (.tuple #[]) ∧ w' = w := Any.Builder_copyCheck_used bd_lays Tryz.Builder_Extra_105.toX72 b w h0
theorem bd_fresh (b : Nat) (w : World) (h0 : w.cell? ⟨b, 0, none⟩ = some (.pointer none)) (hsh : w.shape? b = some (230, 2)) (hfz : w.frozen? ⟨b, 0, none⟩ = false) :
    Calls Tryz.prog 173 #[.pointer (some ⟨b, 0, none⟩)] w fun e w' => e = .returned (.tuple #[]) ∧ w' = w.setCell ⟨b, 0, none⟩ (.pointer (some ⟨b, 0, none⟩)) := Any.Builder_copyCheck_fresh bd_lays Tryz.Builder_Extra_105.toX72 b w h0 hsh hfz
theorem bd_copyCheck (b : Nat) (u : Bool) (v : Value) : CS 173 [ptr b] (row b 230 [.pointer (if u then some ⟨b, 0, none⟩ else none), v])
    fun r H' => r = .tuple #[] ∧ H' = row b 230 [ptr b, v] := by
  intro c R w hs
  cases u with
  | true =>
    refine (bd_used b w (hs.rcell 0)).mono ?_
    rintro e w' ⟨rfl, rfl⟩
    exact ⟨_, _, ⟨rfl, rfl⟩, rfl, hs⟩
  | false =>
    have hsh : w.shape? b = some (230, 2) := by have := hs.get; simp [World.shape?, this]
    refine (bd_fresh b w (hs.rcell 0) hsh (hs.rfrozen 0)).mono ?_
    rintro e w' ⟨rfl, rfl⟩
    exact ⟨_, _, ⟨rfl, rfl⟩, rfl, hs.rset 0 (ptr b)⟩
theorem bd_WriteString (b : Nat) (bs s : Str) (h : bs.length + s.length ≤ 140737488355328) : CS 142 [ptr b, str s] (Bd b bs)
    fun r H' => r = .tuple #[int s.length, .nilIface] ∧ H' = Bd b (bs ++ s) := by
  refine CS.walk Tryz.func142 rfl Tryz.ntmps142 rfl fun c R => ?_
  refine W.open (Bd.opn b bs) rfl ?_
  rintro ⟨u, a, cap⟩ _
  (repeat (first | refine W.ctl rfl ?_ | refine W.op rfl rfl rfl rfl ?_ | refine W.skip rfl rfl ?_ | refine W.fld rfl rfl rfl rfl rfl ?_ | refine W.ld rfl rfl rfl rfl rfl ?_))
  refine W.call (bd_copyCheck b u (sv a bs.length cap)) rfl rfl rfl rfl Tryz.call173 ⟨rfl, trivial⟩ ?_
  rintro _ _ ⟨rfl, rfl⟩
  (repeat (first | refine W.ctl rfl ?_ | refine W.op rfl rfl rfl rfl ?_ | refine W.skip rfl rfl ?_ | refine W.fld rfl rfl rfl rfl rfl ?_ | refine W.ld rfl rfl rfl rfl rfl ?_))
  refine W.apps (u := s) rfl rfl rfl rfl rfl rfl h fun a' cap' => ?_
  (repeat (first | refine W.ctl rfl ?_ | refine W.op rfl rfl rfl rfl ?_ | refine W.skip rfl rfl ?_ | refine W.fld rfl rfl rfl rfl rfl ?_ | refine W.ld rfl rfl rfl rfl rfl ?_))
  refine W.st rfl rfl rfl rfl rfl ?_
  (repeat (first | refine W.ctl rfl ?_ | refine W.op rfl rfl rfl rfl ?_ | refine W.skip rfl rfl ?_ | refine W.fld rfl rfl rfl rfl rfl ?_ | refine W.ld rfl rfl rfl rfl rfl ?_))
  refine W.slen rfl rfl rfl rfl rfl ?_
  (repeat (first | refine W.ctl rfl ?_ | refine W.op rfl rfl rfl rfl ?_ | refine W.skip rfl rfl ?_ | refine W.fld rfl rfl rfl rfl rfl ?_ | refine W.ld rfl rfl rfl rfl rfl ?_))
  have e := Bd.mk (b := b) (bs := bs ++ s) (true, a', cap')
  simp only [BdB, List.length_append, List.map_append, if_true, sep_emp'] at e
  exact W.ret2 (.inr rfl) rfl rfl rfl _ ⟨rfl, rfl⟩ (Imp.pack e Imp.all)
theorem bd_WriteByte (b : Nat) (bs : Str) (x : UInt8) (h : bs.length + 1 ≤ 140737488355328) : CS 178 [ptr b, u8 x] (Bd b bs)
    fun r H' => r = .nilIface ∧ H' = Bd b (bs ++ [x]) := by
  refine CS.walk Tryz.func178 rfl Tryz.ntmps178 rfl fun c R => ?_
  refine W.open (Bd.opn b bs) rfl ?_
  rintro ⟨u, a, cap⟩ _
  (repeat (first | refine W.ctl rfl ?_ | refine W.op rfl rfl rfl rfl ?_ | refine W.skip rfl rfl ?_ | refine W.fld rfl rfl rfl rfl rfl ?_ | refine W.ld rfl rfl rfl rfl rfl ?_))
  refine W.call (bd_copyCheck b u (sv a bs.length cap)) rfl rfl rfl rfl Tryz.call173 ⟨rfl, trivial⟩ ?_
  rintro _ _ ⟨rfl, rfl⟩
  (repeat (first | refine W.ctl rfl ?_ | refine W.op rfl rfl rfl rfl ?_ | refine W.skip rfl rfl ?_ | refine W.fld rfl rfl rfl rfl rfl ?_ | refine W.ld rfl rfl rfl rfl rfl ?_))
  refine W.bsl (vs := [_]) rfl rfl rfl rfl ⟨rfl, rfl, trivial⟩ rfl rfl rfl fun g => ?_
  refine W.appk (kk := 1) (news := [u8 x]) rfl rfl rfl rfl rfl rfl rfl rfl rfl (by omega) (by omega) fun a' cap' => ?_
  (repeat (first | refine W.ctl rfl ?_ | refine W.op rfl rfl rfl rfl ?_ | refine W.skip rfl rfl ?_ | refine W.fld rfl rfl rfl rfl rfl ?_ | refine W.ld rfl rfl rfl rfl rfl ?_))
  refine W.st rfl rfl rfl rfl rfl ?_
  (repeat (first | refine W.ctl rfl ?_ | refine W.op rfl rfl rfl rfl ?_ | refine W.skip rfl rfl ?_ | refine W.fld rfl rfl rfl rfl rfl ?_ | refine W.ld rfl rfl rfl rfl rfl ?_))
  have e := Bd.mk (b := b) (bs := bs ++ [x]) (true, a', cap')
  simp only [BdB, List.length_append, List.map_append, List.length_singleton, List.map_cons, List.map_nil, if_true, sep_emp'] at e
  exact W.ret1 (.inr rfl) rfl rfl _ ⟨rfl, rfl⟩ (Imp.pack e Imp.all)
theorem bd_String (b : Nat) (bs : Str) (h : bs.length < 140737488355328) (h0 : bs ≠ []) : CS 144 [ptr b] (Bd b bs)
    fun r H' => r = str bs ∧ H' = emp := by
  refine CS.walk Tryz.func144 rfl Tryz.ntmps144 rfl fun c R => ?_
  refine W.open (Bd.opn b bs) rfl ?_
  rintro ⟨u, a, cap⟩ _
  have hl := List.length_pos_iff.2 h0
  refine W.skE (m := bs.length) a 5 rfl hl ?_
  rintro g sp rfl h1 h2 h3 h4
  (repeat (first | refine W.ctl rfl ?_ | refine W.op rfl rfl rfl rfl ?_ | refine W.skip rfl rfl ?_ | refine W.fld rfl rfl rfl rfl rfl ?_ | refine W.ld rfl rfl rfl rfl rfl ?_))
  refine W.anyq (f := 2) (fun j => !Nat.beq j 10 && !Nat.beq j 11) [0, 1, 2, 3, 4, 5, 6, 7, 8, 9] (by kernel_rfl) (by kernel_rfl) (by kernel_rfl) (by kernel_rfl) rfl ?_
  (repeat (first | refine W.ctl rfl ?_ | refine W.op rfl rfl rfl rfl ?_ | refine W.skip rfl rfl ?_ | refine W.fld rfl rfl rfl rfl rfl ?_ | refine W.ld rfl rfl rfl rfl rfl ?_))
  refine W.uss rfl rfl rfl rfl rfl (by omega) ?_
  (repeat (first | refine W.ctl rfl ?_ | refine W.op rfl rfl rfl rfl ?_ | refine W.skip rfl rfl ?_ | refine W.fld rfl rfl rfl rfl rfl ?_ | refine W.ld rfl rfl rfl rfl rfl ?_))
  refine W.len rfl rfl rfl rfl rfl ?_
  refine W.tdn ?_
  refine W.ald1 10 (by kernel_rfl) rfl ?_
  refine W.ust (u := bs) rfl rfl rfl rfl (by kernel_rfl) rfl rfl h0 (by omega) ?_
  refine W.afb ?_
  refine W.ald1 11 (by kernel_rfl) rfl ?_
  (repeat (first | refine W.ctl rfl ?_ | refine W.op rfl rfl rfl rfl ?_ | refine W.skip rfl rfl ?_ | refine W.fld rfl rfl rfl rfl rfl ?_ | refine W.ld rfl rfl rfl rfl rfl ?_))
  refine W.afb (W.adn (by kernel_rfl) ?_)
  (repeat (first | refine W.ctl rfl ?_ | refine W.op rfl rfl rfl rfl ?_ | refine W.skip rfl rfl ?_ | refine W.fld rfl rfl rfl rfl rfl ?_ | refine W.ld rfl rfl rfl rfl rfl ?_))
  exact W.ret1 (.inr rfl) rfl rfl _ ⟨rfl, rfl⟩ Imp.all
theorem enc_number (b : Nat) (bs : Str) (k : Nat) (size : Int) (h : bs.length < 1000000) (hk : k < 18446744073709551616) (hs0 : 0 ≤ size) (hs1 : size ≤ 8) : CS 177 [u64 k, int size, ptr b] (Bd b bs)
    fun r H' => r = .tuple #[] ∧ H' = Bd b (bs ++ (M.put k size).1) := by
  refine CS.walk Tryz.func177 rfl Tryz.ntmps177 rfl fun c R => ?_
  (repeat (first | refine W.ctl rfl ?_ | refine W.op rfl rfl rfl rfl ?_ | refine W.skip rfl rfl ?_ | refine W.fld rfl rfl rfl rfl rfl ?_ | refine W.ld rfl rfl rfl rfl rfl ?_))
  refine W.call (num_Put k size hk (by omega) (by omega)) rfl rfl rfl rfl Tryz.call54 ⟨rfl, rfl, trivial⟩ ?_
  rintro _ _ ⟨rfl, rfl⟩
  (repeat (first | refine W.ctl rfl ?_ | refine W.op rfl rfl rfl rfl ?_ | refine W.skip rfl rfl ?_ | refine W.fld rfl rfl rfl rfl rfl ?_ | refine W.ld rfl rfl rfl rfl rfl ?_))
  have hl : (M.put k size).1.length ≤ 8 := by
    unfold M.put
    split
    · rename_i h; simp [M.be_length]; omega
    · simp
  refine W.call (bd_WriteString b bs (M.put k size).1 (by omega)) rfl rfl rfl rfl Tryz.call142 ⟨rfl, rfl, trivial⟩ ?_
  rintro _ _ ⟨rfl, rfl⟩
  (repeat (first | refine W.ctl rfl ?_ | refine W.op rfl rfl rfl rfl ?_ | refine W.skip rfl rfl ?_ | refine W.fld rfl rfl rfl rfl rfl ?_ | refine W.ld rfl rfl rfl rfl rfl ?_))
  exact W.ret0 (.inl rfl) rfl _ ⟨rfl, rfl⟩ Imp.all
/-- The keys are numbers of 64 bits. -/
def KB (N : M.Node) : Prop := ∀ k ∈ N.keys, k < 18446744073709551616
theorem put_lit {s k : Nat} (hs : 1 ≤ s) (hs8 : s ≤ 8) (hk : k < 256 ^ s) : (M.put k (s : Int)).1 = M.be s k := congrArg (·.1) (put_be hs hs8 hk)
theorem enc_take {α β γ : Type} (f : α → β → List γ) (xs : List α) (ys : List β) (i : Nat) (a : α) (b : β) (ha : xs[i]? = some a) (hb : ys[i]? = some b) :
    ((List.zipWith f xs ys).take (i + 1)).flatten = ((List.zipWith f xs ys).take i).flatten ++ f a b := by
  rw [List.take_add_one]
  simp [List.getElem?_zipWith, ha, hb]
theorem enc_len {α β γ : Type} (f : α → β → List γ) (m : Nat) (ys : List β) (h : ∀ a b, b ∈ ys → (f a b).length ≤ m) (xs : List α) : ∀ i, ((List.zipWith f xs ys).take i).flatten.length ≤ i * m
  | 0 => by simp
  | i + 1 => by
    have ih := enc_len f m ys h xs i
    rw [List.take_add_one, List.flatten_append, List.length_append]
    cases hz : (List.zipWith f xs ys)[i]? with
    | none => simp only [Option.toList_none, List.flatten_nil, List.length_nil]; rw [Nat.add_mul]; omega
    | some z =>
      rw [List.getElem?_zipWith] at hz
      split at hz
      · rename_i a b ha hb
        cases hz
        have := h a b (List.mem_of_getElem? hb)
        simp only [Option.toList_some, List.flatten_cons, List.flatten_nil, List.append_nil]; rw [Nat.add_mul]; omega
      · cases hz
theorem right_bounds {N : M.Node} (h : M.right N = true) : N.keys.length ≤ 29 ∧ N.vals.length = (if N.leaf then N.keys.length else 0) ∧ N.kids.length = (if N.leaf then 0 else N.keys.length + 1) ∧ (∀ v ∈ N.vals, v.length ≤ 40) ∧ (∀ k ∈ N.kids, 2 ≤ k ∧ k < 640) ∧ (N.leaf = true → 0 < N.keys.length) := by
  simp only [M.right, M.plain, M.nsize, Bool.and_eq_true, beq_iff_eq, List.all_eq_true, decide_eq_true_eq, Bool.or_eq_true, Bool.not_eq_true'] at h
  obtain ⟨⟨⟨⟨⟨⟨h1, h2⟩, h3⟩, h4⟩, h5⟩, h6⟩, h7⟩ := h
  have h7 := of_decide_eq_true h7
  refine ⟨by split at h7 <;> omega, h1, h2, h4, h5, fun hl => ?_⟩
  rcases h6 with h6 | h6
  · rw [hl] at h6; cases h6
  · exact h6
theorem node_Encode (N : M.Node) (x : NP) (hN : NB N) (hK : KB N) : CS 149 [nodeV N x] (NodeH N x)
    fun v H' => v = .tuple #[str (M.encode N).1, int (M.encode N).2] ∧ H' = NodeH N x := by
  refine CS.walk Tryz.func149 rfl Tryz.ntmps149 rfl fun c R => ?_
  (repeat (first | refine W.ctl rfl ?_ | refine W.op rfl rfl rfl rfl ?_ | refine W.skip rfl rfl ?_ | refine W.fld rfl rfl rfl rfl rfl ?_ | refine W.ld rfl rfl rfl rfl rfl ?_))
  refine W.box rfl rfl rfl rfl rfl fun nb => ?_
  (repeat (first | refine W.ctl rfl ?_ | refine W.op rfl rfl rfl rfl ?_ | refine W.skip rfl rfl ?_ | refine W.fld rfl rfl rfl rfl rfl ?_ | refine W.ld rfl rfl rfl rfl rfl ?_))
  refine W.lds rfl rfl rfl rfl rfl ?_
  (repeat (first | refine W.ctl rfl ?_ | refine W.op rfl rfl rfl rfl ?_ | refine W.skip rfl rfl ?_))
  refine W.call (node_Right N x hN) rfl rfl rfl rfl Tryz.call156 ⟨rfl, trivial⟩ ?_
  rintro _ _ ⟨rfl, rfl⟩
  simp only [NodeH, NodeB, sep_assoc', emp_sep]
  cases hr : M.right N with
  | false =>
    (repeat (first | refine W.ctl rfl ?_ | refine W.op rfl rfl rfl rfl ?_ | refine W.skip rfl rfl ?_ | refine W.fld rfl rfl rfl rfl rfl ?_ | refine W.ld rfl rfl rfl rfl rfl ?_))
    have e : M.encode N = ([], 1) := by rw [M.encode, if_pos hr]
    rw [e]
    exact W.ret2 (.inr rfl) rfl rfl rfl _ ⟨rfl, rfl⟩ Imp.all
  | true =>
  (repeat (first | refine W.ctl rfl ?_ | refine W.op rfl rfl rfl rfl ?_ | refine W.skip rfl rfl ?_ | refine W.fld rfl rfl rfl rfl rfl ?_ | refine W.ld rfl rfl rfl rfl rfl ?_))
  have e : M.encode N = (M.encBody N, 0) := by rw [M.encode, if_neg (by simp [hr])]
  rw [e]
  obtain ⟨q1, q2, q3, q4, q5, q6⟩ := right_bounds hr
  refine W.alc rfl rfl rfl rfl fun b => ?_
  refine W.imp (H' := Bd b [] • row nb 114 [Value.bool N.leaf, sv x.ka N.keys.length x.kc, sv x.va N.vals.length x.vc, sv x.da N.kids.length x.dc] • NodeB N x R) rfl ?_ ?_
  · have e := Bd.mk (b := b) (bs := []) (false, none, 0)
    simp only [BdB, List.length_nil, List.map_nil, Bool.false_eq_true, if_false, skv_nil, sep_emp'] at e
    simp only [sv, Option.map_none] at e
    exact Imp.pack e Imp.all
  (repeat (first | refine W.ctl rfl ?_ | refine W.op rfl rfl rfl rfl ?_ | refine W.skip rfl rfl ?_ | refine W.fld rfl rfl rfl rfl rfl ?_ | refine W.ld rfl rfl rfl rfl rfl ?_))
  refine W.mkf (vs := [ptr b]) rfl rfl rfl rfl ⟨rfl, trivial⟩ ?_
  (repeat (first | refine W.ctl rfl ?_ | refine W.op rfl rfl rfl rfl ?_ | refine W.skip rfl rfl ?_ | refine W.fld rfl rfl rfl rfl rfl ?_ | refine W.ld rfl rfl rfl rfl rfl ?_))
  have hkl : ∀ i (h : i < N.keys.length), N.keys[i] < 18446744073709551616 := fun i h => hK _ (List.getElem_mem h)
  cases hl : N.leaf with
  | true =>
    rw [hl, if_pos rfl] at q2 q3
    (repeat (first | refine W.ctl rfl ?_ | refine W.op rfl rfl rfl rfl ?_ | refine W.skip rfl rfl ?_ | refine W.fld rfl rfl rfl rfl rfl ?_ | refine W.ld rfl rfl rfl rfl rfl ?_))
    refine W.call (bd_WriteByte b [] 1 (by simp)) rfl rfl rfl rfl Tryz.call178 ⟨rfl, rfl, trivial⟩ ?_
    rintro _ _ ⟨rfl, rfl⟩
    (repeat (first | refine W.ctl rfl ?_ | refine W.op rfl rfl rfl rfl ?_ | refine W.skip rfl rfl ?_ | refine W.fld rfl rfl rfl rfl rfl ?_ | refine W.ld rfl rfl rfl rfl rfl ?_))
    refine W.len rfl rfl rfl rfl rfl ?_
    (repeat (first | refine W.ctl rfl ?_ | refine W.op rfl rfl rfl rfl ?_ | refine W.skip rfl rfl ?_ | refine W.fld rfl rfl rfl rfl rfl ?_ | refine W.ld rfl rfl rfl rfl rfl ?_))
    have hL := enc_len M.encK 49 N.vals (fun a v hv => by have := q4 v hv; simp [M.encK, M.be_length]; omega) N.keys
    refine W.loop (σ := Nat) (fun i => i ≤ N.keys.length) (fun i => [(1, ptr nb), (4, ptr b), (5, .func (.func 177) #[] #[ptr b]), (26, sv x.ka N.keys.length x.kc), (27, int N.keys.length), (28, int i)])
      (fun i => Bd b (1 :: ((List.zipWith M.encK N.keys N.vals).take i).flatten) • row nb 114 [Value.bool true, sv x.ka N.keys.length x.kc, sv x.va N.vals.length x.vc, sv x.da N.kids.length x.dc] • NodeB N x R) (fun i => N.keys.length - i) 0 (by omega) ⟨rfl, rfl, rfl, rfl, rfl, rfl, trivial⟩ (by simp only [List.nil_append, List.take_zero, List.flatten_nil]; exact Imp.all) ?_
    intro i hi
    have hLi := hL i
    (repeat (first | refine W.ctl rfl ?_ | refine W.op rfl rfl rfl rfl ?_ | refine W.skip rfl rfl ?_ | refine W.fld rfl rfl rfl rfl rfl ?_ | refine W.ld rfl rfl rfl rfl rfl ?_))
    by_cases h1 : (i : Int) < N.keys.length
    · refine W.yes rfl rfl rfl rfl h1 ?_
      have h1' : i < N.keys.length := by omega
      have h1v : i < N.vals.length := by omega
      have hki := hkl i h1'
      (repeat (first | refine W.ctl rfl ?_ | refine W.op rfl rfl rfl rfl ?_ | refine W.skip rfl rfl ?_ | refine W.fld rfl rfl rfl rfl rfl ?_ | refine W.ld rfl rfl rfl rfl rfl ?_))
      refine W.idxk rfl rfl rfl rfl rfl rfl (by omega) (by omega) ?_
      refine W.ldk (v := u64 (N.keys[i])) rfl rfl rfl rfl rfl (by simp [h1']) ?_
      (repeat (first | refine W.ctl rfl ?_ | refine W.op rfl rfl rfl rfl ?_ | refine W.skip rfl rfl ?_ | refine W.fld rfl rfl rfl rfl rfl ?_ | refine W.ld rfl rfl rfl rfl rfl ?_))
      refine W.callv (vs := [u64 N.keys[i], int 8]) (caps := [ptr b]) (enc_number b (1 :: ((List.zipWith M.encK N.keys N.vals).take i).flatten) N.keys[i] 8 (by simp only [List.length_cons]; omega) hki (by omega) (by omega)) rfl rfl rfl rfl rfl Tryz.call177 ⟨rfl, rfl, trivial⟩ ?_
      rintro _ _ ⟨rfl, rfl⟩
      rw [show (M.put N.keys[i] 8).1 = M.be 8 N.keys[i] from put_lit (s := 8) (by omega) (by omega) (by omega)]
      (repeat (first | refine W.ctl rfl ?_ | refine W.op rfl rfl rfl rfl ?_ | refine W.skip rfl rfl ?_ | refine W.fld rfl rfl rfl rfl rfl ?_ | refine W.ld rfl rfl rfl rfl rfl ?_))
      refine W.idxk rfl rfl rfl rfl rfl rfl (by omega) (by omega) ?_
      refine W.ldk (v := str (N.vals[i])) rfl rfl rfl rfl rfl (by simp [h1v]) ?_
      have hvi := q4 _ (List.getElem_mem h1v)
      refine W.call (num_Text N.vals[i] (by omega)) rfl rfl rfl rfl Tryz.call179 ⟨rfl, trivial⟩ ?_
      rintro _ _ ⟨rfl, rfl⟩
      (repeat (first | refine W.ctl rfl ?_ | refine W.op rfl rfl rfl rfl ?_ | refine W.skip rfl rfl ?_ | refine W.fld rfl rfl rfl rfl rfl ?_ | refine W.ld rfl rfl rfl rfl rfl ?_))
      have et : M.text N.vals[i] = (UInt8.ofNat N.vals[i].length :: N.vals[i], 0) := by rw [M.text, if_neg (by omega)]
      rw [et]
      refine W.call (bd_WriteString b ((1 :: ((List.zipWith M.encK N.keys N.vals).take i).flatten) ++ M.be 8 N.keys[i]) (UInt8.ofNat N.vals[i].length :: N.vals[i]) (by simp only [List.length_append, List.length_cons, M.be_length]; omega)) rfl rfl rfl rfl Tryz.call142 ⟨rfl, rfl, trivial⟩ ?_
      rintro _ _ ⟨rfl, rfl⟩
      (repeat (first | refine W.ctl rfl ?_ | refine W.op rfl rfl rfl rfl ?_ | refine W.skip rfl rfl ?_ | refine W.fld rfl rfl rfl rfl rfl ?_ | refine W.ld rfl rfl rfl rfl rfl ?_))
      refine W.ar (r := ((i + 1 : Nat) : Int)) rfl rfl rfl rfl rfl rfl rfl (wrap_i64 (by omega) (by omega)) ?_
      (repeat (first | refine W.ctl rfl ?_ | refine W.op rfl rfl rfl rfl ?_ | refine W.skip rfl rfl ?_ | refine W.fld rfl rfl rfl rfl rfl ?_ | refine W.ld rfl rfl rfl rfl rfl ?_))
      refine W.again (i + 1) (by omega) (by omega) ⟨rfl, rfl, rfl, rfl, rfl, rfl, trivial⟩ ?_
      rw [enc_take M.encK N.keys N.vals i N.keys[i] N.vals[i] (by simp [h1']) (by simp [h1v])]
      simp only [M.encK, List.cons_append, List.append_assoc]
      exact Imp.all
    · refine W.no rfl rfl rfl rfl h1 ?_
      (repeat (first | refine W.ctl rfl ?_ | refine W.op rfl rfl rfl rfl ?_ | refine W.skip rfl rfl ?_ | refine W.fld rfl rfl rfl rfl rfl ?_ | refine W.ld rfl rfl rfl rfl rfl ?_))
      have ez : (List.zipWith M.encK N.keys N.vals).take i = List.zipWith M.encK N.keys N.vals := List.take_of_length_le (by rw [List.length_zipWith]; omega)
      refine W.call (bd_String b (1 :: ((List.zipWith M.encK N.keys N.vals).take i).flatten) (by simp only [List.length_cons]; omega) (by simp)) rfl rfl rfl rfl Tryz.call144 ⟨rfl, trivial⟩ ?_
      rintro _ _ ⟨rfl, rfl⟩
      (repeat (first | refine W.ctl rfl ?_ | refine W.op rfl rfl rfl rfl ?_ | refine W.skip rfl rfl ?_ | refine W.fld rfl rfl rfl rfl rfl ?_ | refine W.ld rfl rfl rfl rfl rfl ?_))
      refine W.ret2 (.inr rfl) rfl rfl rfl _ ⟨?_, rfl⟩ Imp.all
      rw [ez, M.encBody, if_pos hl]
  | false =>
    rw [hl, if_neg (by simp)] at q2 q3
    (repeat (first | refine W.ctl rfl ?_ | refine W.op rfl rfl rfl rfl ?_ | refine W.skip rfl rfl ?_ | refine W.fld rfl rfl rfl rfl rfl ?_ | refine W.ld rfl rfl rfl rfl rfl ?_))
    refine W.call (bd_WriteByte b [] 2 (by simp)) rfl rfl rfl rfl Tryz.call178 ⟨rfl, rfl, trivial⟩ ?_
    rintro _ _ ⟨rfl, rfl⟩
    have h0 : 0 < N.kids.length := by omega
    (repeat (first | refine W.ctl rfl ?_ | refine W.op rfl rfl rfl rfl ?_ | refine W.skip rfl rfl ?_ | refine W.fld rfl rfl rfl rfl rfl ?_ | refine W.ld rfl rfl rfl rfl rfl ?_))
    refine W.idxk rfl rfl rfl rfl rfl rfl (by omega) (by omega) ?_
    refine W.ldk (v := int (N.kids[0])) rfl rfl rfl rfl rfl (by simp [h0]) ?_
    have hd0 := q5 _ (List.getElem_mem h0)
    obtain ⟨d0, hd⟩ := Int.eq_ofNat_of_zero_le (show 0 ≤ N.kids[0] by omega)
    rw [hd] at hd0 ⊢
    refine W.cv rfl rfl rfl rfl rfl (wrap_u64 (by omega) (by omega)) ?_
    rw [List.nil_append]
    refine W.callv (vs := [u64 d0, int 2]) (caps := [ptr b]) (enc_number b [2] d0 2 (by simp) (by omega) (by omega) (by omega)) rfl rfl rfl rfl rfl Tryz.call177 ⟨rfl, rfl, trivial⟩ ?_
    rintro _ _ ⟨rfl, rfl⟩
    rw [show (M.put d0 2).1 = M.be 2 d0 from put_lit (s := 2) (by omega) (by omega) (by omega)]
    (repeat (first | refine W.ctl rfl ?_ | refine W.op rfl rfl rfl rfl ?_ | refine W.skip rfl rfl ?_ | refine W.fld rfl rfl rfl rfl rfl ?_ | refine W.ld rfl rfl rfl rfl rfl ?_))
    refine W.len rfl rfl rfl rfl rfl ?_
    (repeat (first | refine W.ctl rfl ?_ | refine W.op rfl rfl rfl rfl ?_ | refine W.skip rfl rfl ?_ | refine W.fld rfl rfl rfl rfl rfl ?_ | refine W.ld rfl rfl rfl rfl rfl ?_))
    have hL := enc_len M.encB 10 N.kids.tail (fun a v hv => by simp [M.encB, M.be_length]) N.keys
    refine W.loop (σ := Nat) (fun i => i ≤ N.keys.length) (fun i => [(1, ptr nb), (4, ptr b), (5, .func (.func 177) #[] #[ptr b]), (26, sv x.ka N.keys.length x.kc), (27, int N.keys.length), (28, int i)])
      (fun i => Bd b (([2] ++ M.be 2 d0) ++ ((List.zipWith M.encB N.keys N.kids.tail).take i).flatten) • row nb 114 [Value.bool false, sv x.ka N.keys.length x.kc, sv x.va N.vals.length x.vc, sv x.da N.kids.length x.dc] • NodeB N x R) (fun i => N.keys.length - i) 0 (by omega) ⟨rfl, rfl, rfl, rfl, rfl, rfl, trivial⟩ (by simp only [List.nil_append, List.take_zero, List.flatten_nil, List.append_nil]; exact Imp.all) ?_
    intro i hi
    have hLi := hL i
    (repeat (first | refine W.ctl rfl ?_ | refine W.op rfl rfl rfl rfl ?_ | refine W.skip rfl rfl ?_ | refine W.fld rfl rfl rfl rfl rfl ?_ | refine W.ld rfl rfl rfl rfl rfl ?_))
    by_cases h1 : (i : Int) < N.keys.length
    · refine W.yes rfl rfl rfl rfl h1 ?_
      have h1' : i < N.keys.length := by omega
      have h1v : i + 1 < N.kids.length := by omega
      have hki := hkl i h1'
      (repeat (first | refine W.ctl rfl ?_ | refine W.op rfl rfl rfl rfl ?_ | refine W.skip rfl rfl ?_ | refine W.fld rfl rfl rfl rfl rfl ?_ | refine W.ld rfl rfl rfl rfl rfl ?_))
      refine W.idxk rfl rfl rfl rfl rfl rfl (by omega) (by omega) ?_
      refine W.ldk (v := u64 (N.keys[i])) rfl rfl rfl rfl rfl (by simp [h1']) ?_
      (repeat (first | refine W.ctl rfl ?_ | refine W.op rfl rfl rfl rfl ?_ | refine W.skip rfl rfl ?_ | refine W.fld rfl rfl rfl rfl rfl ?_ | refine W.ld rfl rfl rfl rfl rfl ?_))
      refine W.callv (vs := [u64 N.keys[i], int 8]) (caps := [ptr b]) (enc_number b (([2] ++ M.be 2 d0) ++ ((List.zipWith M.encB N.keys N.kids.tail).take i).flatten) N.keys[i] 8 (by simp only [List.length_append, M.be_length, List.length_singleton]; omega) hki (by omega) (by omega)) rfl rfl rfl rfl rfl Tryz.call177 ⟨rfl, rfl, trivial⟩ ?_
      rintro _ _ ⟨rfl, rfl⟩
      rw [show (M.put N.keys[i] 8).1 = M.be 8 N.keys[i] from put_lit (s := 8) (by omega) (by omega) (by omega)]
      (repeat (first | refine W.ctl rfl ?_ | refine W.op rfl rfl rfl rfl ?_ | refine W.skip rfl rfl ?_ | refine W.fld rfl rfl rfl rfl rfl ?_ | refine W.ld rfl rfl rfl rfl rfl ?_))
      refine W.ar (r := ((i + 1 : Nat) : Int)) rfl rfl rfl rfl rfl rfl rfl (wrap_i64 (by omega) (by omega)) ?_
      refine W.idxk rfl rfl rfl rfl rfl rfl (by omega) (by omega) ?_
      refine W.ldk (v := int (N.kids[i + 1])) rfl rfl rfl rfl rfl (by simp [h1v]) ?_
      have hdi := q5 _ (List.getElem_mem h1v)
      obtain ⟨di, hd⟩ := Int.eq_ofNat_of_zero_le (show 0 ≤ N.kids[i + 1] by omega)
      have hdn : N.kids[i + 1].toNat = di := by omega
      rw [hd] at hdi ⊢
      refine W.cv rfl rfl rfl rfl rfl (wrap_u64 (by omega) (by omega)) ?_
      refine W.callv (vs := [u64 di, int 2]) (caps := [ptr b]) (enc_number b ((([2] ++ M.be 2 d0) ++ ((List.zipWith M.encB N.keys N.kids.tail).take i).flatten) ++ M.be 8 N.keys[i]) di 2 (by simp only [List.length_append, M.be_length, List.length_singleton]; omega) (by omega) (by omega) (by omega)) rfl rfl rfl rfl rfl Tryz.call177 ⟨rfl, rfl, trivial⟩ ?_
      rintro _ _ ⟨rfl, rfl⟩
      rw [show (M.put di 2).1 = M.be 2 di from put_lit (s := 2) (by omega) (by omega) (by omega)]
      (repeat (first | refine W.ctl rfl ?_ | refine W.op rfl rfl rfl rfl ?_ | refine W.skip rfl rfl ?_ | refine W.fld rfl rfl rfl rfl rfl ?_ | refine W.ld rfl rfl rfl rfl rfl ?_))
      refine W.ar (r := ((i + 1 : Nat) : Int)) rfl rfl rfl rfl rfl rfl rfl (wrap_i64 (by omega) (by omega)) ?_
      (repeat (first | refine W.ctl rfl ?_ | refine W.op rfl rfl rfl rfl ?_ | refine W.skip rfl rfl ?_ | refine W.fld rfl rfl rfl rfl rfl ?_ | refine W.ld rfl rfl rfl rfl rfl ?_))
      refine W.again (i + 1) (by omega) (by omega) ⟨rfl, rfl, rfl, rfl, rfl, rfl, trivial⟩ ?_
      rw [enc_take M.encB N.keys N.kids.tail i N.keys[i] N.kids[i + 1] (by simp [h1']) (by simp [h1v])]
      simp only [M.encB, List.append_assoc, hdn]
      exact Imp.all
    · refine W.no rfl rfl rfl rfl h1 ?_
      (repeat (first | refine W.ctl rfl ?_ | refine W.op rfl rfl rfl rfl ?_ | refine W.skip rfl rfl ?_ | refine W.fld rfl rfl rfl rfl rfl ?_ | refine W.ld rfl rfl rfl rfl rfl ?_))
      have ez : (List.zipWith M.encB N.keys N.kids.tail).take i = List.zipWith M.encB N.keys N.kids.tail := List.take_of_length_le (by rw [List.length_zipWith]; omega)
      refine W.call (bd_String b (([2] ++ M.be 2 d0) ++ ((List.zipWith M.encB N.keys N.kids.tail).take i).flatten) (by simp only [List.length_append, M.be_length, List.length_singleton]; omega) (by simp)) rfl rfl rfl rfl Tryz.call144 ⟨rfl, trivial⟩ ?_
      rintro _ _ ⟨rfl, rfl⟩
      (repeat (first | refine W.ctl rfl ?_ | refine W.op rfl rfl rfl rfl ?_ | refine W.skip rfl rfl ?_ | refine W.fld rfl rfl rfl rfl rfl ?_ | refine W.ld rfl rfl rfl rfl rfl ?_))
      refine W.ret2 (.inr rfl) rfl rfl rfl _ ⟨?_, rfl⟩ Imp.all
      have hh : (N.kids.headD 0).toNat = d0 := by
        rw [List.headD_eq_head?_getD, List.head?_eq_getElem?, List.getElem?_eq_getElem h0]
        simp; omega
      rw [ez, M.encBody, if_neg (by simp [hl]), hh]
      simp
end Go.Proofs.YtbdhhedfplkidaaGreat
