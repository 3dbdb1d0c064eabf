/-
  No cell of these rows narrows 'for every input' (looked for: loops, veiled, ifaces, maps, wideKeys, modest, calm, conditions, laid).
  DERIVED. THE GIVEN ROWS OF THIS SEAT. 11 by the template 'for every input the law returns true; each argument reads behind the call as it read before'; 0 by the template 'total and deterministic' (their statements: YtbdhhedfplkidaaGreatTotals.lean).
  GIVEN WITH THE SEED: the statements are not yours to turn. If you find one false, say at which input.
  Laid BY PROGRAM, IN A SANDBOX (cutbox-rows.mjs): the forced cells as the released guide's own fill.sh prints them over the translation cd15671a6cfa21f4… (all of the seat's roots in one cut). By AI agents, Wed Nov 11 2026. No macro, syntax, notation, axiom, sorry.
-/
import Derived.Test.YtbdhhedfplkidaaGreatChecked
import GoSem.Claim
import GoSem.ClaimJoined
import GoSem.ClaimMapViews
import Derived.JoinedTies
import Derived.KernelRfl
namespace Go.Proofs.YtbdhhedfplkidaaGreat
/- THE CELL 'sum', in the pinned program and in every row, IS THE sha256 OF THE DUMP (.gsa) THAT YtbdhhedfplkidaaGreatProg.lean LOADS. Nothing in Lean hashes anything: it is a label: what it is worth is what the hold of that sum in a sandbox is worth. -/
noncomputable def Tryz.pinned : Pinned := { name := "ytbdhhedfplkidaagreat", sum := "cd15671a6cfa21f4f6d0a94bcd775c8470d931edd3065c4b9168c1f362f88e94", checked := Tryz.checked }
namespace Rows
def none {H : Type} : Left H := { results := [], args := [] }

/-- 'bailiwicklaw16.LeaseClock': WHATEVER THE INPUT: true; the input reads as it did. -/
def leaseClockSpec : ChangeSpec := { name := "leaseClock", fn := fun _ => fun
  | [d] => { results := [.lit (.bool true)], args := [d] }
  | _ => none }
def leaseClockRow : OpenClaim := { program := "ytbdhhedfplkidaagreat", sum := "cd15671a6cfa21f4f6d0a94bcd775c8470d931edd3065c4b9168c1f362f88e94", func := "bailiwick/bailiwicklaw16.LeaseClock", spec := "leaseClock", inPlace := ["internal/abi.NoEscape", "internal/bytealg.MakeNoZero"], unfollowed := true, recurses := true, apart := false }
def LeaseClockSaid : Prop := leaseClockRow.holds Tryz.pinned (OpenSpec.ofChange leaseClockSpec)

/-- ITS FALSE NEIGHBOUR: 'it returns false'. Refute it at one input. -/
def leaseClockWrong : ChangeSpec := { name := "leaseClock", fn := fun _ => fun
  | [d] => { results := [.lit (.bool false)], args := [d] }
  | _ => none }
def LeaseClockWrongFalsely : Prop := leaseClockRow.holds Tryz.pinned (OpenSpec.ofChange leaseClockWrong)

/-- 'bailiwicklaw11.TreeMap': WHATEVER THE INPUT: true; the input reads as it did. -/
def treeMapSpec : ChangeSpec := { name := "treeMap", fn := fun _ => fun
  | [d1, d2] => { results := [.lit (.bool true)], args := [d1, d2] }
  | _ => none }
def treeMapRow : OpenClaim := { program := "ytbdhhedfplkidaagreat", sum := "cd15671a6cfa21f4f6d0a94bcd775c8470d931edd3065c4b9168c1f362f88e94", func := "bailiwick/bailiwicklaw11.TreeMap", spec := "treeMap", inPlace := ["internal/abi.NoEscape", "internal/bytealg.MakeNoZero"], unfollowed := true, recurses := true, apart := false }
def TreeMapSaid : Prop := treeMapRow.holds Tryz.pinned (OpenSpec.ofChange treeMapSpec)

/-- ITS FALSE NEIGHBOUR: 'it returns false'. Refute it at one input. -/
def treeMapWrong : ChangeSpec := { name := "treeMap", fn := fun _ => fun
  | [d1, d2] => { results := [.lit (.bool false)], args := [d1, d2] }
  | _ => none }
def TreeMapWrongFalsely : Prop := treeMapRow.holds Tryz.pinned (OpenSpec.ofChange treeMapWrong)

/-- 'bailiwicklaw17.SlotFull': WHATEVER THE INPUT: true; the input reads as it did. -/
def slotFullSpec : ChangeSpec := { name := "slotFull", fn := fun _ => fun
  | [d1, d2] => { results := [.lit (.bool true)], args := [d1, d2] }
  | _ => none }
def slotFullRow : OpenClaim := { program := "ytbdhhedfplkidaagreat", sum := "cd15671a6cfa21f4f6d0a94bcd775c8470d931edd3065c4b9168c1f362f88e94", func := "bailiwick/bailiwicklaw17.SlotFull", spec := "slotFull", inPlace := ["internal/abi.NoEscape", "internal/bytealg.MakeNoZero"], unfollowed := true, recurses := true, apart := false }
def SlotFullSaid : Prop := slotFullRow.holds Tryz.pinned (OpenSpec.ofChange slotFullSpec)

/-- ITS FALSE NEIGHBOUR: 'it returns false'. Refute it at one input. -/
def slotFullWrong : ChangeSpec := { name := "slotFull", fn := fun _ => fun
  | [d1, d2] => { results := [.lit (.bool false)], args := [d1, d2] }
  | _ => none }
def SlotFullWrongFalsely : Prop := slotFullRow.holds Tryz.pinned (OpenSpec.ofChange slotFullWrong)

/-- 'bailiwicklaw17.SlotEpochs': WHATEVER THE INPUT: true; the input reads as it did. -/
def slotEpochsSpec : ChangeSpec := { name := "slotEpochs", fn := fun _ => fun
  | [d] => { results := [.lit (.bool true)], args := [d] }
  | _ => none }
def slotEpochsRow : OpenClaim := { program := "ytbdhhedfplkidaagreat", sum := "cd15671a6cfa21f4f6d0a94bcd775c8470d931edd3065c4b9168c1f362f88e94", func := "bailiwick/bailiwicklaw17.SlotEpochs", spec := "slotEpochs", inPlace := ["internal/abi.NoEscape", "internal/bytealg.MakeNoZero"], unfollowed := true, recurses := true, apart := false }
def SlotEpochsSaid : Prop := slotEpochsRow.holds Tryz.pinned (OpenSpec.ofChange slotEpochsSpec)

/-- ITS FALSE NEIGHBOUR: 'it returns false'. Refute it at one input. -/
def slotEpochsWrong : ChangeSpec := { name := "slotEpochs", fn := fun _ => fun
  | [d] => { results := [.lit (.bool false)], args := [d] }
  | _ => none }
def SlotEpochsWrongFalsely : Prop := slotEpochsRow.holds Tryz.pinned (OpenSpec.ofChange slotEpochsWrong)

/-- 'bailiwicklaw17.SlotLeast': WHATEVER THE INPUT: true; the input reads as it did. -/
def slotLeastSpec : ChangeSpec := { name := "slotLeast", fn := fun _ => fun
  | [d] => { results := [.lit (.bool true)], args := [d] }
  | _ => none }
def slotLeastRow : OpenClaim := { program := "ytbdhhedfplkidaagreat", sum := "cd15671a6cfa21f4f6d0a94bcd775c8470d931edd3065c4b9168c1f362f88e94", func := "bailiwick/bailiwicklaw17.SlotLeast", spec := "slotLeast", inPlace := ["internal/abi.NoEscape", "internal/bytealg.MakeNoZero"], unfollowed := true, recurses := true, apart := false }
def SlotLeastSaid : Prop := slotLeastRow.holds Tryz.pinned (OpenSpec.ofChange slotLeastSpec)

/-- ITS FALSE NEIGHBOUR: 'it returns false'. Refute it at one input. -/
def slotLeastWrong : ChangeSpec := { name := "slotLeast", fn := fun _ => fun
  | [d] => { results := [.lit (.bool false)], args := [d] }
  | _ => none }
def SlotLeastWrongFalsely : Prop := slotLeastRow.holds Tryz.pinned (OpenSpec.ofChange slotLeastWrong)

/-- 'bailiwicklaw17.SlotApart': WHATEVER THE INPUT: true; the input reads as it did. -/
def slotApartSpec : ChangeSpec := { name := "slotApart", fn := fun _ => fun
  | [d1, d2] => { results := [.lit (.bool true)], args := [d1, d2] }
  | _ => none }
def slotApartRow : OpenClaim := { program := "ytbdhhedfplkidaagreat", sum := "cd15671a6cfa21f4f6d0a94bcd775c8470d931edd3065c4b9168c1f362f88e94", func := "bailiwick/bailiwicklaw17.SlotApart", spec := "slotApart", inPlace := ["internal/abi.NoEscape", "internal/bytealg.MakeNoZero"], unfollowed := true, recurses := true, apart := false }
def SlotApartSaid : Prop := slotApartRow.holds Tryz.pinned (OpenSpec.ofChange slotApartSpec)

/-- ITS FALSE NEIGHBOUR: 'it returns false'. Refute it at one input. -/
def slotApartWrong : ChangeSpec := { name := "slotApart", fn := fun _ => fun
  | [d1, d2] => { results := [.lit (.bool false)], args := [d1, d2] }
  | _ => none }
def SlotApartWrongFalsely : Prop := slotApartRow.holds Tryz.pinned (OpenSpec.ofChange slotApartWrong)

/-- 'bailiwicklaw12.TxnLong': WHATEVER THE INPUT: true; the input reads as it did. -/
def txnLongSpec : ChangeSpec := { name := "txnLong", fn := fun _ => fun
  | [d1, d2] => { results := [.lit (.bool true)], args := [d1, d2] }
  | _ => none }
def txnLongRow : OpenClaim := { program := "ytbdhhedfplkidaagreat", sum := "cd15671a6cfa21f4f6d0a94bcd775c8470d931edd3065c4b9168c1f362f88e94", func := "bailiwick/bailiwicklaw12.TxnLong", spec := "txnLong", inPlace := ["internal/abi.NoEscape", "internal/bytealg.MakeNoZero"], unfollowed := true, recurses := true, apart := false }
def TxnLongSaid : Prop := txnLongRow.holds Tryz.pinned (OpenSpec.ofChange txnLongSpec)

/-- ITS FALSE NEIGHBOUR: 'it returns false'. Refute it at one input. -/
def txnLongWrong : ChangeSpec := { name := "txnLong", fn := fun _ => fun
  | [d1, d2] => { results := [.lit (.bool false)], args := [d1, d2] }
  | _ => none }
def TxnLongWrongFalsely : Prop := txnLongRow.holds Tryz.pinned (OpenSpec.ofChange txnLongWrong)

/-- 'bailiwicklaw12.TxnFull': WHATEVER THE INPUT: true; the input reads as it did. -/
def txnFullSpec : ChangeSpec := { name := "txnFull", fn := fun _ => fun
  | [d1, d2] => { results := [.lit (.bool true)], args := [d1, d2] }
  | _ => none }
def txnFullRow : OpenClaim := { program := "ytbdhhedfplkidaagreat", sum := "cd15671a6cfa21f4f6d0a94bcd775c8470d931edd3065c4b9168c1f362f88e94", func := "bailiwick/bailiwicklaw12.TxnFull", spec := "txnFull", inPlace := ["internal/abi.NoEscape", "internal/bytealg.MakeNoZero"], unfollowed := true, recurses := true, apart := false }
def TxnFullSaid : Prop := txnFullRow.holds Tryz.pinned (OpenSpec.ofChange txnFullSpec)

/-- ITS FALSE NEIGHBOUR: 'it returns false'. Refute it at one input. -/
def txnFullWrong : ChangeSpec := { name := "txnFull", fn := fun _ => fun
  | [d1, d2] => { results := [.lit (.bool false)], args := [d1, d2] }
  | _ => none }
def TxnFullWrongFalsely : Prop := txnFullRow.holds Tryz.pinned (OpenSpec.ofChange txnFullWrong)

/-- 'bailiwicklaw12.TxnDrops': WHATEVER THE INPUT: true; the input reads as it did. -/
def txnDropsSpec : ChangeSpec := { name := "txnDrops", fn := fun _ => fun
  | [d1, d2, d3] => { results := [.lit (.bool true)], args := [d1, d2, d3] }
  | _ => none }
def txnDropsRow : OpenClaim := { program := "ytbdhhedfplkidaagreat", sum := "cd15671a6cfa21f4f6d0a94bcd775c8470d931edd3065c4b9168c1f362f88e94", func := "bailiwick/bailiwicklaw12.TxnDrops", spec := "txnDrops", inPlace := ["internal/abi.NoEscape", "internal/bytealg.MakeNoZero"], unfollowed := true, recurses := true, apart := false }
def TxnDropsSaid : Prop := txnDropsRow.holds Tryz.pinned (OpenSpec.ofChange txnDropsSpec)

/-- ITS FALSE NEIGHBOUR: 'it returns false'. Refute it at one input. -/
def txnDropsWrong : ChangeSpec := { name := "txnDrops", fn := fun _ => fun
  | [d1, d2, d3] => { results := [.lit (.bool false)], args := [d1, d2, d3] }
  | _ => none }
def TxnDropsWrongFalsely : Prop := txnDropsRow.holds Tryz.pinned (OpenSpec.ofChange txnDropsWrong)

/-- 'bailiwicklaw11.TreeShadows': WHATEVER THE INPUT: true; the input reads as it did. -/
def treeShadowsSpec : ChangeSpec := { name := "treeShadows", fn := fun _ => fun
  | [d1, d2] => { results := [.lit (.bool true)], args := [d1, d2] }
  | _ => none }
def treeShadowsRow : OpenClaim := { program := "ytbdhhedfplkidaagreat", sum := "cd15671a6cfa21f4f6d0a94bcd775c8470d931edd3065c4b9168c1f362f88e94", func := "bailiwick/bailiwicklaw11.TreeShadows", spec := "treeShadows", inPlace := ["internal/abi.NoEscape", "internal/bytealg.MakeNoZero"], unfollowed := true, recurses := true, apart := false }
def TreeShadowsSaid : Prop := treeShadowsRow.holds Tryz.pinned (OpenSpec.ofChange treeShadowsSpec)

/-- ITS FALSE NEIGHBOUR: 'it returns false'. Refute it at one input. -/
def treeShadowsWrong : ChangeSpec := { name := "treeShadows", fn := fun _ => fun
  | [d1, d2] => { results := [.lit (.bool false)], args := [d1, d2] }
  | _ => none }
def TreeShadowsWrongFalsely : Prop := treeShadowsRow.holds Tryz.pinned (OpenSpec.ofChange treeShadowsWrong)

/-- 'bailiwicklaw12.TxnReads': WHATEVER THE INPUT: true; the input reads as it did. -/
def txnReadsSpec : ChangeSpec := { name := "txnReads", fn := fun _ => fun
  | [d1, d2] => { results := [.lit (.bool true)], args := [d1, d2] }
  | _ => none }
def txnReadsRow : OpenClaim := { program := "ytbdhhedfplkidaagreat", sum := "cd15671a6cfa21f4f6d0a94bcd775c8470d931edd3065c4b9168c1f362f88e94", func := "bailiwick/bailiwicklaw12.TxnReads", spec := "txnReads", inPlace := ["internal/abi.NoEscape", "internal/bytealg.MakeNoZero"], unfollowed := true, recurses := true, apart := false }
def TxnReadsSaid : Prop := txnReadsRow.holds Tryz.pinned (OpenSpec.ofChange txnReadsSpec)

/-- ITS FALSE NEIGHBOUR: 'it returns false'. Refute it at one input. -/
def txnReadsWrong : ChangeSpec := { name := "txnReads", fn := fun _ => fun
  | [d1, d2] => { results := [.lit (.bool false)], args := [d1, d2] }
  | _ => none }
def TxnReadsWrongFalsely : Prop := txnReadsRow.holds Tryz.pinned (OpenSpec.ofChange txnReadsWrong)

/- THE SECOND FORM. 'bulk': how many values and letters a reading holds, each counted each time it is reached (what is shared counts as often as it is met; a slice's spare places count too). A statement '..UptoSaid' is the law's where the arguments, and the package variables that the reading takes, are together of bulk at most 1048576: NARROWER than '..Said'. Prove '..Said' where nothing that the law and all that it calls make is longer than what came in: it says more and counts as full. Else prove '..UptoSaid'. A law counts once. -/
mutual
def uptoBulk {H : Type} : DataW H → Nat
  | .lit (.string bytes) => bytes.length + 1
  | .lit _ => 1
  | .nil => 1
  | .ptr d => uptoBulk d + 1
  | .slice elems spare => uptoBulkAll elems + uptoBulkAll spare + 1
  | .agg parts => uptoBulkAll parts + 1
  | .iface _ d => uptoBulk d + 1
  | .map entries => uptoBulkEntries entries + 1
  | .held _ => 1
def uptoBulkAll {H : Type} : List (DataW H) → Nat
  | [] => 0
  | d :: r => uptoBulk d + uptoBulkAll r
def uptoBulkEntries {H : Type} : List (Lit × DataW H) → Nat
  | [] => 0
  | x :: r => uptoBulkEntry x + uptoBulkEntries r
def uptoBulkEntry {H : Type} : Lit × DataW H → Nat
  | (.string bytes, d) => bytes.length + uptoBulk d + 1
  | (_, d) => uptoBulk d + 1
 end
def uptoSmall : (H : Type) → List (DataW H) → Bool := fun _ ds => decide (uptoBulkAll ds ≤ 1048576)
def OpenSpec.upto (s : _root_.Go.ChangeSpec) : _root_.Go.OpenSpec := { _root_.Go.OpenSpec.ofChange s with cond := some uptoSmall }

/-- 'bailiwicklaw16.LeaseClock', WHERE WHAT IT READS IS OF BULK AT MOST 1048576: true; the input reads as it did. -/
def leaseClockUptoRow : OpenClaim := { program := "ytbdhhedfplkidaagreat", sum := "cd15671a6cfa21f4f6d0a94bcd775c8470d931edd3065c4b9168c1f362f88e94", func := "bailiwick/bailiwicklaw16.LeaseClock", spec := "leaseClock", inPlace := ["internal/abi.NoEscape", "internal/bytealg.MakeNoZero"], unfollowed := true, recurses := true, apart := false, narrowed := true }
def LeaseClockUptoSaid : Prop := leaseClockUptoRow.holds Tryz.pinned (OpenSpec.upto leaseClockSpec)

/-- 'bailiwicklaw11.TreeMap', WHERE WHAT IT READS IS OF BULK AT MOST 1048576: true; the input reads as it did. -/
def treeMapUptoRow : OpenClaim := { program := "ytbdhhedfplkidaagreat", sum := "cd15671a6cfa21f4f6d0a94bcd775c8470d931edd3065c4b9168c1f362f88e94", func := "bailiwick/bailiwicklaw11.TreeMap", spec := "treeMap", inPlace := ["internal/abi.NoEscape", "internal/bytealg.MakeNoZero"], unfollowed := true, recurses := true, apart := false, narrowed := true }
def TreeMapUptoSaid : Prop := treeMapUptoRow.holds Tryz.pinned (OpenSpec.upto treeMapSpec)

/-- 'bailiwicklaw17.SlotFull', WHERE WHAT IT READS IS OF BULK AT MOST 1048576: true; the input reads as it did. -/
def slotFullUptoRow : OpenClaim := { program := "ytbdhhedfplkidaagreat", sum := "cd15671a6cfa21f4f6d0a94bcd775c8470d931edd3065c4b9168c1f362f88e94", func := "bailiwick/bailiwicklaw17.SlotFull", spec := "slotFull", inPlace := ["internal/abi.NoEscape", "internal/bytealg.MakeNoZero"], unfollowed := true, recurses := true, apart := false, narrowed := true }
def SlotFullUptoSaid : Prop := slotFullUptoRow.holds Tryz.pinned (OpenSpec.upto slotFullSpec)

/-- 'bailiwicklaw17.SlotEpochs', WHERE WHAT IT READS IS OF BULK AT MOST 1048576: true; the input reads as it did. -/
def slotEpochsUptoRow : OpenClaim := { program := "ytbdhhedfplkidaagreat", sum := "cd15671a6cfa21f4f6d0a94bcd775c8470d931edd3065c4b9168c1f362f88e94", func := "bailiwick/bailiwicklaw17.SlotEpochs", spec := "slotEpochs", inPlace := ["internal/abi.NoEscape", "internal/bytealg.MakeNoZero"], unfollowed := true, recurses := true, apart := false, narrowed := true }
def SlotEpochsUptoSaid : Prop := slotEpochsUptoRow.holds Tryz.pinned (OpenSpec.upto slotEpochsSpec)

/-- 'bailiwicklaw17.SlotLeast', WHERE WHAT IT READS IS OF BULK AT MOST 1048576: true; the input reads as it did. -/
def slotLeastUptoRow : OpenClaim := { program := "ytbdhhedfplkidaagreat", sum := "cd15671a6cfa21f4f6d0a94bcd775c8470d931edd3065c4b9168c1f362f88e94", func := "bailiwick/bailiwicklaw17.SlotLeast", spec := "slotLeast", inPlace := ["internal/abi.NoEscape", "internal/bytealg.MakeNoZero"], unfollowed := true, recurses := true, apart := false, narrowed := true }
def SlotLeastUptoSaid : Prop := slotLeastUptoRow.holds Tryz.pinned (OpenSpec.upto slotLeastSpec)

/-- 'bailiwicklaw17.SlotApart', WHERE WHAT IT READS IS OF BULK AT MOST 1048576: true; the input reads as it did. -/
def slotApartUptoRow : OpenClaim := { program := "ytbdhhedfplkidaagreat", sum := "cd15671a6cfa21f4f6d0a94bcd775c8470d931edd3065c4b9168c1f362f88e94", func := "bailiwick/bailiwicklaw17.SlotApart", spec := "slotApart", inPlace := ["internal/abi.NoEscape", "internal/bytealg.MakeNoZero"], unfollowed := true, recurses := true, apart := false, narrowed := true }
def SlotApartUptoSaid : Prop := slotApartUptoRow.holds Tryz.pinned (OpenSpec.upto slotApartSpec)

/-- 'bailiwicklaw12.TxnLong', WHERE WHAT IT READS IS OF BULK AT MOST 1048576: true; the input reads as it did. -/
def txnLongUptoRow : OpenClaim := { program := "ytbdhhedfplkidaagreat", sum := "cd15671a6cfa21f4f6d0a94bcd775c8470d931edd3065c4b9168c1f362f88e94", func := "bailiwick/bailiwicklaw12.TxnLong", spec := "txnLong", inPlace := ["internal/abi.NoEscape", "internal/bytealg.MakeNoZero"], unfollowed := true, recurses := true, apart := false, narrowed := true }
def TxnLongUptoSaid : Prop := txnLongUptoRow.holds Tryz.pinned (OpenSpec.upto txnLongSpec)

/-- 'bailiwicklaw12.TxnFull', WHERE WHAT IT READS IS OF BULK AT MOST 1048576: true; the input reads as it did. -/
def txnFullUptoRow : OpenClaim := { program := "ytbdhhedfplkidaagreat", sum := "cd15671a6cfa21f4f6d0a94bcd775c8470d931edd3065c4b9168c1f362f88e94", func := "bailiwick/bailiwicklaw12.TxnFull", spec := "txnFull", inPlace := ["internal/abi.NoEscape", "internal/bytealg.MakeNoZero"], unfollowed := true, recurses := true, apart := false, narrowed := true }
def TxnFullUptoSaid : Prop := txnFullUptoRow.holds Tryz.pinned (OpenSpec.upto txnFullSpec)

/-- 'bailiwicklaw12.TxnDrops', WHERE WHAT IT READS IS OF BULK AT MOST 1048576: true; the input reads as it did. -/
def txnDropsUptoRow : OpenClaim := { program := "ytbdhhedfplkidaagreat", sum := "cd15671a6cfa21f4f6d0a94bcd775c8470d931edd3065c4b9168c1f362f88e94", func := "bailiwick/bailiwicklaw12.TxnDrops", spec := "txnDrops", inPlace := ["internal/abi.NoEscape", "internal/bytealg.MakeNoZero"], unfollowed := true, recurses := true, apart := false, narrowed := true }
def TxnDropsUptoSaid : Prop := txnDropsUptoRow.holds Tryz.pinned (OpenSpec.upto txnDropsSpec)

/-- 'bailiwicklaw11.TreeShadows', WHERE WHAT IT READS IS OF BULK AT MOST 1048576: true; the input reads as it did. -/
def treeShadowsUptoRow : OpenClaim := { program := "ytbdhhedfplkidaagreat", sum := "cd15671a6cfa21f4f6d0a94bcd775c8470d931edd3065c4b9168c1f362f88e94", func := "bailiwick/bailiwicklaw11.TreeShadows", spec := "treeShadows", inPlace := ["internal/abi.NoEscape", "internal/bytealg.MakeNoZero"], unfollowed := true, recurses := true, apart := false, narrowed := true }
def TreeShadowsUptoSaid : Prop := treeShadowsUptoRow.holds Tryz.pinned (OpenSpec.upto treeShadowsSpec)

/-- 'bailiwicklaw12.TxnReads', WHERE WHAT IT READS IS OF BULK AT MOST 1048576: true; the input reads as it did. -/
def txnReadsUptoRow : OpenClaim := { program := "ytbdhhedfplkidaagreat", sum := "cd15671a6cfa21f4f6d0a94bcd775c8470d931edd3065c4b9168c1f362f88e94", func := "bailiwick/bailiwicklaw12.TxnReads", spec := "txnReads", inPlace := ["internal/abi.NoEscape", "internal/bytealg.MakeNoZero"], unfollowed := true, recurses := true, apart := false, narrowed := true }
def TxnReadsUptoSaid : Prop := txnReadsUptoRow.holds Tryz.pinned (OpenSpec.upto txnReadsSpec)

end Rows
end Go.Proofs.YtbdhhedfplkidaaGreat
