/- The plain model, fifth part: transactions; the clock. -/
import Derived.Test.YtbdhhedfplkidaaGreatMod4
namespace Go.Proofs.YtbdhhedfplkidaaGreat.M
structure Txn where
  s : Store
  root : Int
  e : Int
  over : Bool
def Txn.get (t : Txn) (key : Nat) : Txn × Str × Bool :=
  if t.over = true ∨ t.e ≠ 0 then (t, [], false) else
  let r := treeGet t.s t.root key
  ({ t with s := r.1, e := r.2.2.2 }, r.2.1, r.2.2.1 && decide (r.2.2.2 = 0))
def Txn.put (t : Txn) (key : Nat) (value : Str) : Txn × Bool :=
  if value.length > 40 then (t, false) else
  if t.over = true ∨ t.e ≠ 0 then (t, false) else
  let r := treePut t.s t.root key value
  ({ t with s := r.1, root := if r.2.2 = 0 then r.2.1 else t.root, e := r.2.2 }, decide (r.2.2 = 0))
def Txn.begin (s : Store) : Txn := ⟨s.rollback, s.root, 0, false⟩
/-! lease: the clock -/
def clockKey : Nat := (spaceKey 9 0 4).1
def clock (t : Txn) : Txn × Int × Int :=
  let r := t.get clockKey
  if r.2.2 = false then (r.1, 0, r.1.e) else
  let q := take r.2.1 4
  if q.2.2 ≠ 0 ∨ q.2.1 ≠ [] ∨ (q.1 : Int) > 268435455 then (r.1, 0, 2) else (r.1, q.1, 0)
def tick (t : Txn) (n : Int) : Txn × Int × Int :=
  if t.e ≠ 0 then (t, 0, t.e) else
  if n < 0 then (t, 0, 1) else
  let r := clock t
  if r.2.2 ≠ 0 then (r.1, 0, r.2.2) else
  if n > 268435455 - r.2.1 then (r.1, 0, 12) else
  let p := r.1.put clockKey (put (r.2.1 + n).toNat 4).1
  if p.2 = false then (p.1, 0, p.1.e) else (p.1, r.2.1 + n, 0)
/-! beginnings -/
def Disk.new (n : Nat) : Disk := ⟨List.replicate n (List.replicate 256 0), [], [], -1, false⟩
def noneUsed : Str := List.replicate 80 0
def format (d : Disk) : Disk × Int := headLay d 1 0 noneUsed
end Go.Proofs.YtbdhhedfplkidaaGreat.M
