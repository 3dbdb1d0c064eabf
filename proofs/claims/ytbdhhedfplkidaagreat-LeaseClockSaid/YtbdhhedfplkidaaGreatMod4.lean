/- The plain model, fourth part: layer tree, getting and putting. -/
import Derived.Test.YtbdhhedfplkidaaGreatMod3
namespace Go.Proofs.YtbdhhedfplkidaaGreat.M
structure Work where
  s : Store
  read : Int
  e : Int
def Work.fail (w : Work) (e : Int) : Work := if w.e = 0 then { w with e := e } else w
def Work.node (w : Work) (at' deep : Int) : Work × Node :=
  if w.read + 1 > 640 then (({ w with read := w.read + 1 } : Work).fail 2, Node.zero) else
  let r := w.s.read at'
  let w1 := ({ w with read := w.read + 1, s := r.1 } : Work).fail r.2.2.2
  if w1.e ≠ 0 then (w1, Node.zero) else
  let d := decode r.2.2.1
  if r.2.1 ≠ 2 ∨ d.2 ≠ 0 ∨ deep > 10 then (w1.fail 2, Node.zero) else (w1, d.1)
def Work.write (w : Work) (at' : Int) (n : Node) : Work :=
  if (encode n).2 ≠ 0 then w.fail 2 else ({ w with s := (w.s.write at' 2 (encode n).1).1 } : Work).fail (w.s.write at' 2 (encode n).1).2
def Work.fresh (w : Work) (n : Node) : Work × Int :=
  let w1 := ({ w with s := w.s.take.1 } : Work).fail w.s.take.2.2
  if w1.e ≠ 0 then (w1, 0) else (w1.write w.s.take.2.1 n, w.s.take.2.1)
def Work.lay (w : Work) (at' : Int) (n : Node) : Work × Int :=
  if at' ∈ w.s.fresh then (w.write at' n, at') else
  let w1 := ({ w with s := (w.s.give at').1 } : Work).fail (w.s.give at').2
  if w1.e ≠ 0 then (w1, 0) else w1.fresh n
structure Spot where
  at' : Int
  n : Node
  i : Nat
def way : Nat → Work → Int → Int → Nat → List Spot → Work × List Spot
  | 0, w, _, _, _, p => (w, p)
  | f + 1, w, at', deep, key, p =>
    let r := w.node at' deep
    if r.1.e ≠ 0 then (r.1, p) else
    let i := (find r.2 key).1
    let p' := p ++ [⟨at', r.2, i⟩]
    if r.2.leaf then (r.1, p') else way f r.1 (r.2.kids.getD i 0) (deep + 1) key p'
def treeGet (s : Store) (root : Int) (key : Nat) : Store × Str × Bool × Int :=
  if root = 0 then (s, [], false, 0) else
  let r := way 11 ⟨s, 0, 0⟩ root 1 key []
  if r.1.e ≠ 0 then (r.1.s, [], false, r.1.e) else
  match r.2.getLast? with
  | none => (r.1.s, [], false, 0)
  | some sp => if (find sp.n key).2 then (r.1.s, sp.n.vals.getD (find sp.n key).1 [], true, 0) else (r.1.s, [], false, 0)
/-- A node, in two if it is too great. -/
def splitQ (n : Node) : Node × Nat × Node × Bool := if nsize n > 240 then nsplit n else (n, 0, Node.zero, false)
/-- From the leaf up: the node n is laid at the spot; what is left of the way stands above. (p: from the root down.) -/
def putUp : List Spot → Work → Int → Node → Work × Int
  | above, w, at', n =>
    let sp := splitQ n
    if nsize n > 240 ∧ sp.2.2.2 = false then ({ w with e := 2 }, 0) else
    let r := w.lay at' sp.1
    let o := if sp.2.2.2 = true ∧ r.1.e = 0 then r.1.fresh sp.2.2.1 else (r.1, 0)
    if o.1.e ≠ 0 then (o.1, 0) else
    match above with
    | [] => if sp.2.2.2 then o.1.fresh ⟨false, [sp.2.1], [], [r.2, o.2]⟩ else (o.1, r.2)
    | x :: above =>
      let n' : Node := { x.n with kids := x.n.kids.set x.i r.2 }
      putUp above o.1 x.at' (if sp.2.2.2 then nhang n' x.i sp.2.1 o.2 else n')
def doneE (w : Work) (root : Int) : Int × Int := if w.e ≠ 0 then (0, w.e) else (root, 0)
def treePut (s : Store) (root : Int) (key : Nat) (value : Str) : Store × Int × Int :=
  if value.length > 40 then (s, 0, 1) else
  if root = 0 then
    let r := (⟨s, 0, 0⟩ : Work).fresh ⟨true, [key], [value], []⟩
    (r.1.s, doneE r.1 r.2)
  else
  let r := way 11 ⟨s, 0, 0⟩ root 1 key []
  if r.1.e ≠ 0 then (r.1.s, 0, r.1.e) else
  match r.2.reverse with
  | [] => (r.1.s, 0, 2)
  | x :: above =>
    let q := putUp above r.1 x.at' (nput x.n key value)
    (q.1.s, doneE q.1 q.2)
end Go.Proofs.YtbdhhedfplkidaaGreat.M
