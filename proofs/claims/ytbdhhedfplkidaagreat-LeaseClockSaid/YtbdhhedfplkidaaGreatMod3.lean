/- The plain model, third part: a node written; nodes changed. -/
import Derived.Test.YtbdhhedfplkidaaGreatMod2
namespace Go.Proofs.YtbdhhedfplkidaaGreat.M
/-! node: its text -/
def encK (k : Nat) (v : Str) : Str := be 8 k ++ (UInt8.ofNat v.length :: v)
def encB (k : Nat) (d : Int) : Str := be 8 k ++ be 2 d.toNat
def encBody (n : Node) : Str :=
  if n.leaf then 1 :: (List.zipWith encK n.keys n.vals).flatten else 2 :: (be 2 (n.kids.headD 0).toNat ++ (List.zipWith encB n.keys n.kids.tail).flatten)
def encode (n : Node) : Str × Int := if right n = false then ([], 1) else (encBody n, 0)
/-! node: changed -/
def laid {α : Type} (l : List α) (at' gone : Int) (more : List α) : List α := l.take (min at' l.length).toNat ++ more ++ l.drop (min (min at' l.length + gone) l.length).toNat
def nput (n : Node) (key : Nat) (value : Str) : Node :=
  if n.leaf = false then n else
  let p := place n.keys key
  let gone := if p.2 then 1 else 0
  ⟨true, laid n.keys p.1 gone [key], laid n.vals p.1 gone [value], []⟩
def nwithout (n : Node) (i : Int) : Node :=
  if n.leaf = false ∨ i < 0 ∨ i ≥ n.keys.length then n else ⟨true, laid n.keys i 1 [], laid n.vals i 1 [], []⟩
def nhang (n : Node) (i : Int) (key : Nat) (kid : Int) : Node :=
  if n.leaf = true ∨ i < 0 ∨ i > n.keys.length then n else ⟨false, laid n.keys i 0 [key], [], laid n.kids (i + 1) 0 [kid]⟩
def nunhang (n : Node) (i : Int) : Node :=
  if n.leaf = true ∨ i < 0 ∨ i ≥ n.keys.length then n else ⟨false, laid n.keys i 1 [], [], laid n.kids (i + 1) 1 []⟩
def nfront (n : Node) (k : Nat) : Node :=
  if n.leaf then ⟨true, n.keys.take k, n.vals.take k, []⟩ else ⟨false, n.keys.take k, [], n.kids.take (k + 1)⟩
def nback (n : Node) (k : Nat) : Node :=
  if n.leaf then ⟨true, n.keys.drop k, n.vals.drop k, []⟩ else ⟨false, n.keys.drop (k + 1), [], n.kids.drop (k + 1)⟩
/-- Where a node is split: the first place from k on, and below k + f, at which the front is half of it. -/
def splitAt (n : Node) : Nat → Nat → Nat
  | 0, k => k
  | f + 1, k => if nsize (nfront n k) < nsize n / 2 then splitAt n f (k + 1) else k
def nsplit (n : Node) : Node × Nat × Node × Bool :=
  let most : Int := n.keys.length - 1 - (if n.leaf then 0 else 1)
  if most < 1 then (Node.zero, 0, Node.zero, false) else
  let k := splitAt n (most - 1).toNat 1
  (nfront n k, n.keys.getD k 0, nback n k, true)
def nboth (a : Node) (mid : Nat) (b : Node) : Node :=
  ⟨a.leaf, if a.leaf then a.keys ++ b.keys else a.keys ++ [mid] ++ b.keys, a.vals ++ b.vals, a.kids ++ b.kids⟩
end Go.Proofs.YtbdhhedfplkidaaGreat.M
