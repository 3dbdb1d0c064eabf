/- A value that is too long is refused by false alone; the transaction goes on, and has what it had: whatever the input, the law TxnLong answers true, and what was handed in reads as it did. No condition. -/
import Derived.Test.YtbdhhedfplkidaaGreatRows
import Derived.Test.YtbdhhedfplkidaaGreatM6
import Derived.WalkKit
import Derived.ProofKit
import Derived.OpenShut
import Derived.ShutString
import Derived.ChangeOld
import Derived.Below
import Derived.SizedLaws
namespace Go.Proofs.YtbdhhedfplkidaaGreat.txnLong
open Go.ChangeShapes Go.WideShapes Go.ChangeAt Go.RowKit
set_option linter.unusedVariables false
theorem own : ownKnob Tryz.prog.godebug = none := by kernel_rfl
theorem laidOut : laidOutB Tryz.prog = true := by kernel_rfl
theorem walk (W : World) (a0 : Option Addr) (len0 cap0 : Nat) (zs0 : List Int) (n1 : Int) (h0 : ArgK W .u16 0 65536 a0 len0 cap0 zs0) (h1 : 0 ≤ n1 ∧ n1 < 256) :
    Calls Tryz.prog 9 #[.slice a0 len0 cap0, .int .u8 n1] W fun e w' => e = .returned (.bool true) ∧ Below W.heap.size W w' := by
  refine (law_TxnLong W a0 len0 cap0 zs0 n1 h0 h1 W emp W (SL.old W)).mono ?_
  rintro e w' ⟨v, H', ⟨rfl, rfl⟩, rfl, hs⟩
  exact ⟨rfl, hs.old_below⟩
set_option maxRecDepth 100000 in
theorem lifted (os : Os) (started : os.Started) (H : Type) (enc : TypeId × Value → H) :
    ReturnsInHanded {} Tryz.checked os 9 .any (Rows.txnLongSpec.pre6 enc Tryz.prog Tryz.f9 Rows.txnLongRow.domain false) (Rows.txnLongSpec.post enc Tryz.prog Tryz.f9 false true false false) := by
  refine returnsInHanded_of_change_sized (C := Tryz.checked) own started (by kernel_rfl) Tryz.func9
    (ChangeSpec.witness6 (enc := enc) (C := Tryz.checked) false ⟨#[], #[.slice none 0 0, .int .u8 0], []⟩ 8 (by kernel_rfl) (by kernel_rfl) (by kernel_rfl) (by kernel_rfl)) ?_
  intro W base args ds gs before hval0 hW hcnd hsz0 _
  have hval : ∀ (j : Nat) t v, Tryz.f9.params[j]? = some t → args[j]? = some v → Value.okWide Tryz.prog W .any base t v := hval0
  have hW' := hW
  obtain ⟨p, q, hA0, hV, rfl, hfz, hnd⟩ := hW
  have hA : DataW.TrodAll enc Tryz.prog W 0 (fun _ => true) true Tryz.f9.params.toList args.toList ds p := hA0
  rw [Tryz.params9] at hA hval
  obtain ⟨v0, vs0, d0, ds0, p0, q0, hargs, rfl, rfl, h0, r0⟩ := trodAll_cons hA
  obtain ⟨v1, vs1, d1, ds1, p1, q1, rfl, rfl, rfl, h1, r1⟩ := trodAll_cons r0
  obtain ⟨rfl, rfl, rfl⟩ := trodAll_nil r1
  obtain rfl : args = #[v0, v1] := by cases args; simp_all
  obtain ⟨rfl, rfl⟩ := trodVars_none hV
  obtain ⟨a0, len0, cap0, rfl⟩ := okWide_slice Tryz.underlying74 (hval 0 74 v0 rfl rfl)
  have k0 := h0
  have lt0 : ∀ x ∈ p0, x.block < W.heap.size := by obtain ⟨m, hm⟩ := k0; exact DataW.trod_lt m _ _ _ hm
  obtain ⟨zs0, g0⟩ := argK_of (kd := .u16) Tryz.underlying74 Tryz.underlying79 (by kernel_rfl) (lo := 0) (hi := 65536) (fun z hz => by simp only [Lit.wf, IntKind.min, IntKind.max, IntKind.signed, IntKind.bits] at hz; simp at hz; omega) h0
  obtain ⟨n1, rfl, rfl, rfl, w1⟩ := open_int Tryz.underlying5 (hval 1 5 v1 rfl rfl) h1
  have g1 : 0 ≤ n1 ∧ n1 < 256 := by have hz := w1; simp only [Lit.wf, IntKind.min, IntKind.max, IntKind.signed, IntKind.bits] at hz; simp at hz; omega
  clear hA0 hval0 hsz0
  refine (walk W a0 len0 cap0 zs0 n1 g0 g1).mono fun e W' ⟨he, bel⟩ => ?_
  subst he
  exact ⟨_, rfl, _, _, _, [], _, [], hW', trodAll_mk1 (shut_bool Tryz.underlying4 _), (trodAll_cons_mk (Below.trod laidOut (by kernel_rfl) (of_decide_eq_true (by kernel_rfl)) k0 bel lt0) (trodAll_cons_mk (shut_int Tryz.underlying5 w1) trodAll_mk0)), rfl, bel.frame _, fun h => by cases h⟩
theorem over : Rows.txnLongRow.holds Tryz.pinned (OpenSpec.ofChange Rows.txnLongSpec) :=
  OpenClaim.holds_of_wide 9 Tryz.f9 rfl rfl rfl rfl rfl rfl rfl ⟨rfl, rfl, rfl, rfl, rfl⟩ rfl rfl rfl rfl rfl (by kernel_rfl) Tryz.func9 (by kernel_rfl)
    (of_decide_eq_true (by kernel_rfl)) (by unfold Func.isWrapper; first | (rw [if_pos (by decide +kernel)]; kernel_rfl) | (rw [if_neg (by decide +kernel)]; exact ⟨rfl, rfl⟩))
    (fun os started H enc _ => lifted os started H enc)
end Go.Proofs.YtbdhhedfplkidaaGreat.txnLong
namespace Go.Proofs.YtbdhhedfplkidaaGreat
theorem txnLong_holds : Rows.TxnLongSaid := txnLong.over
#print axioms txnLong_holds
end Go.Proofs.YtbdhhedfplkidaaGreat
