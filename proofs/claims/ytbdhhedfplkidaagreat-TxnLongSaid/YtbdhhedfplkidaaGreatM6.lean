/- Parts of a proof, one behind the other: P10, P11, Mod6, Sh2, P12, L12p, C24, C25, C26, C27, C28, Arg, C29. -/
import Derived.Test.YtbdhhedfplkidaaGreatM5
import Derived.Shelf.SlIterI.Nil
import Derived.WalkKit
import Derived.ProofKit
import Derived.OpenShut
import Derived.ChangeOld
/- Plain facts: a key with a value is put into a tree: the way up, and the whole. -/
namespace Go.Proofs.YtbdhhedfplkidaaGreat
open M (Str Store Disk Work Spot)
theorem Step.tree {S S2 : Store} {A B : List Int} {k : Int} (s : Step S S2 A B k) {h : Nat} {c : Int} {l : KV} {p : List Int} (t : Tree S h c l p) (ho : ∀ x ∈ p, x ∈ S.fresh ∨ M.has S.used x = true) (ha : ∀ x ∈ p, x ∉ A) : Tree S2 h c l p :=
  tree_keep t (fun b hb _ hn => s.pn hn (ho b hb) (ha b hb))
/-- A branch is laid, its kids as they are. -/
theorem lay_branch {X : Work} {h : Nat} {at' : Int} {ks : List Nat} {cs : List Int} {kvs : KV} {pgs : List Int} {n : M.Node} (above : List Spot) (g : Good X.s) (he : X.e = 0) (ho : Own X.s (at' :: pgs)) (h0 : 2 ≤ at') (h1 : at' < X.s.size)
    (hn : n = ⟨false, ks, [], cs⟩) (hne : ks ≠ []) (hm : ks.length ≤ 24) (hk : KidsT (Tree X.s h) ks cs kvs pgs) : PutOut X (h + 1) kvs (at' :: pgs) above (M.putUp above X at' n) 2 := by
  subst hn
  have F := tree_fact X.s g.most h
  have o1 : Own X.s [at'] := Own.left (R := pgs) ho
  have o2 : Own X.s pgs := Own.right (A := [at']) ho
  have hd : ∀ p ∈ pgs, p ∉ [at'] := Own.apart (A := [at']) ho
  by_cases hs : ks.length ≤ 23
  · obtain ⟨hr, hkb⟩ := branch_right F hk hs
    rcases level_one above g he o1 h0 h1 hr hkb with ⟨S2, m, e1, s1, p1⟩ | hf
    · have st := s1.frame g o2.nd o2.have hd
      exact .one S2 m (m :: pgs) e1 (st.weak (by omega)) ⟨_, pgs, p1, rfl, hne, kids_mono hk (fun c l p t hs => s1.tree t (fun x hx => o2.have x (hs x hx)) (fun x hx => hd x (hs x hx))), rfl⟩
    · exact .full (hf.more (by omega))
  · have hkl := kids_len hk
    have hnb := nsize_branch (n := ⟨false, ks, [], cs⟩) rfl hkl
    obtain ⟨r, r1, r2, hsp, sa, sb⟩ := split_branch (n := ⟨false, ks, [], cs⟩) rfl hkl (by rw [hnb]; dsimp only; omega) (by rw [hnb]; dsimp only; omega)
    dsimp only at r1 r2 hsp sa sb
    obtain ⟨l1, p1, l2, p2, k1, k2, e1, e2, b1, b2⟩ := kids_halve F hk (show r < ks.length by omega)
    have hmid : ks.getD r 0 = ks[r] := by rw [List.getD_eq_getElem?_getD, List.getElem?_eq_getElem (show r < ks.length by omega)]; rfl
    rw [hmid] at hsp
    have c1 : (ks.take r).length = r := by rw [List.length_take]; omega
    have c2 : (ks.drop (r + 1)).length = ks.length - (r + 1) := by rw [List.length_drop]
    obtain ⟨ra, ka⟩ := branch_right F k1 (by omega)
    obtain ⟨rb, kb⟩ := branch_right F k2 (by omega)
    rcases level_two above g he o1 h0 h1 (by rw [hnb]; dsimp only; omega) hsp ra ka rb kb with ⟨S2, m, m2, e3, s1, q1, q2⟩ | hf
    · have st := s1.frame g o2.nd o2.have hd
      have hto : ∀ {ks : List Nat} {cs : List Int} {l : KV} {p : List Int}, (∀ x ∈ p, x ∈ pgs) → KidsT (Tree X.s h) ks cs l p → KidsT (Tree S2 h) ks cs l p := fun hp hk => kids_mono hk (fun c l p t hs => s1.tree t (fun x hx => o2.have x (hp x (hs x hx))) (fun x hx => hd x (hp x (hs x hx))))
      refine .two S2 m m2 ks[r] l1 l2 (m :: p1) (m2 :: p2) e3 (st.perm (by simp) ?_) ⟨_, p1, q1, rfl, ?_, hto (fun x hx => by rw [e2]; simp [hx]) k1, rfl⟩ ⟨_, p2, q2, rfl, ?_, hto (fun x hx => by rw [e2]; simp [hx]) k2, rfl⟩ e1 b1 b2
      · rw [e2]
        show (m :: m2 :: (p1 ++ p2)).Perm (m :: (p1 ++ m2 :: p2))
        exact List.Perm.cons _ (List.perm_middle.symm)
      · intro e; have := congrArg List.length e; rw [c1] at this; simp at this; omega
      · intro e; have := congrArg List.length e; rw [c2] at this; simp at this; omega
    · exact .full hf
theorem mid_perm (a : Int) (p1 p p2 : List Int) : (p ++ (a :: (p1 ++ p2))).Perm (a :: (p1 ++ p ++ p2)) := by
  refine List.perm_middle.trans (List.Perm.cons _ ?_)
  rw [List.append_assoc]
  exact (List.append_assoc p p1 p2 ▸ List.Perm.append_right p2 (List.perm_append_comm (l₁ := p) (l₂ := p1))).trans (by rw [List.append_assoc])
/-- A step behind a step, of the same pages. -/
theorem Step.then {S S2 S3 : Store} {A pgs pgs2 B : List Int} {j k : Int} (s : Step S S2 A pgs2 j) (hA : ∀ p, p ∈ A ↔ p ∈ pgs) (t : Step S2 S3 pgs2 B k) : Step S S3 pgs B (j + k) := by
  have hu := s.base.used
  have hu2 := t.base.used
  refine ⟨s.base.trans t.base, fun p => ?_, fun p => ?_, t.nd, fun p hp => ?_, fun b n h3 h4 h5 => ?_, by have := s.left; have := t.left; omega⟩
  · rw [t.fresh p, s.fresh p, hu, hA p]
    constructor
    · rintro (⟨⟨h3, h4⟩ | ⟨h3, h4⟩, h5⟩ | ⟨h3, h4⟩)
      · exact .inl ⟨h3, h4⟩
      · exact absurd h3 h5
      · exact .inr ⟨h3, h4⟩
    · rintro (⟨h3, h4⟩ | ⟨h3, h4⟩)
      · refine .inl ⟨.inl ⟨h3, h4⟩, fun h5 => ?_⟩
        rcases s.new p h5 with h6 | ⟨h6, _⟩
        · exact h4 ((hA p).1 h6)
        · exact h6 h3
      · exact .inr ⟨h3, h4⟩
  · rw [t.given p, s.given p, hu, hA p]
    constructor
    · rintro ((h3 | ⟨h3, h4, h5⟩) | ⟨h3, h4, h5⟩)
      · exact .inl h3
      · refine .inr ⟨h3, h4, fun h6 => ?_⟩
        rcases t.new p h6 with h7 | ⟨_, h7⟩
        · exact h5 h7
        · rw [hu, h4] at h7; cases h7
      · rcases s.new p h3 with h6 | ⟨_, h6⟩
        · exact .inr ⟨(hA p).1 h6, h4, h5⟩
        · rw [h4] at h6; cases h6
    · rintro (h3 | ⟨h3, h4, h5⟩)
      · exact .inl (.inl h3)
      · by_cases h6 : p ∈ pgs2
        · exact .inr ⟨h6, h4, h5⟩
        · exact .inl (.inr ⟨h3, h4, h6⟩)
  · rcases t.new p hp with h3 | ⟨h3, h4⟩
    · exact (s.new p h3).imp (hA p).1 id
    · by_cases hp2 : p ∈ pgs
      · exact .inl hp2
      · exact .inr ⟨fun h5 => h3 ((s.fresh p).2 (.inl ⟨h5, fun h6 => hp2 ((hA p).1 h6)⟩)), by rw [hu] at h4; exact h4⟩
  · have h6 : b ∉ A := fun h6 => h5 ((hA b).1 h6)
    have h7 := s.keep b n h3 h4 h6
    have h8 : b ∈ S2.fresh := (s.fresh b).2 (.inl ⟨h4, h6⟩)
    refine t.keep b n h7 h8 (fun h9 => ?_)
    rcases s.new b h9 with h10 | ⟨h10, _⟩
    · exact h6 h10
    · exact h10 h4
/-- An outcome of a later step is one of both. -/
theorem putOut_later {X : Work} {S2 : Store} {h : Nat} {kvs : KV} {A pgs2 : List Int} {pgs : List Int} {above : List Spot} {R : Work × Int} {j k : Int} (s : Step X.s S2 A pgs2 j) (hA : ∀ p, p ∈ A ↔ p ∈ pgs) (o : PutOut { X with s := S2 } h kvs pgs2 above R k) : PutOut X h kvs pgs above R (j + k) := by
  cases o with
  | one S3 m p2 h1 h2 h3 => exact .one S3 m p2 h1 (s.then hA h2) h3
  | two S3 m m2 mid l1 l2 p1 p2 h1 h2 h3 h4 h5 h6 h7 => exact .two S3 m m2 mid l1 l2 p1 p2 h1 (s.then hA h2) h3 h4 h5 h6 h7
  | full h => exact .full ((Full.later s h).more (by omega))
theorem ins_mid (key : Nat) (value : Str) {l1 l l2 : KV} (h1 : ∀ x ∈ l1, x.1 < key) (h2 : ∀ x ∈ l2, key < x.1) : ins key value (l1 ++ l ++ l2) = l1 ++ ins key value l ++ l2 := by
  rw [ins_back _ _ _ _ h2, ins_front _ _ _ _ h1]
theorem put_path (key : Nat) (value : Str) (hkey : key < 18446744073709551616) (hv : value.length ≤ 40) : ∀ (h : Nat) (X : Work) (at' : Int) (kvs : KV) (pgs : List Int) (q : List Spot), Path X.s key h at' kvs pgs q → Good X.s → X.e = 0 → Own X.s pgs →
    ∃ x above, q.reverse = x :: above ∧ ∀ A, PutOut X h (ins key value kvs) pgs A (M.putUp (above ++ A) X x.at' (M.nput x.n key value)) (2 * h + 2)
  | 0, X, at', kvs, pgs, q, ⟨n, h1, h2, h3, h4, h5⟩, g, he, ho => by
    refine ⟨⟨at', n, (M.find n key).1⟩, [], by rw [h5]; rfl, fun A => ?_⟩
    have hL := right_leaf h1.right h2
    obtain ⟨e1, e2, e3, e4⟩ := put_leaf (key := key) (value := value) h2 hL h1.kb hkey hv
    subst h3 h4
    rw [List.nil_append]
    dsimp only
    rcases e4 with hr | ⟨a, mid, b, hbig, hsp, ra, ka, rb, kb, la, lb, el, b1, b2⟩
    · rcases level_one A g he ho h1.lo h1.hi hr e2 with ⟨S2, m, f1, f2, f3⟩ | hf
      · exact .one S2 m [m] f1 (f2.weak (by omega)) ⟨_, f3, e3, e1.symm, rfl⟩
      · exact .full (hf.more (by omega))
    · rcases level_two A g he ho h1.lo h1.hi hbig hsp ra ka rb kb with ⟨S2, m, m2, f1, f2, f3, f4⟩ | hf
      · exact .two S2 m m2 mid (lkv a) (lkv b) [m] [m2] f1 f2 ⟨a, f3, la, rfl, rfl⟩ ⟨b, f4, lb, rfl, rfl⟩ (by rw [← e1, el]) b1 b2
      · exact .full hf
  | h + 1, X, at', kvs, pgs, q, ⟨n, c, l1, l, l2, p1, p, p2, q', h1, h2, h3, h4, h5, h6, F, h7, h8⟩, g, he, ho => by
    subst h5 h6
    have ho1 : Own X.s (p ++ (at' :: (p1 ++ p2))) := ho.perm (mid_perm at' p1 p p2).symm
    obtain ⟨x, above, e1, e2⟩ := put_path key value hkey hv h X c l p q' h8 g he ho1.left
    refine ⟨x, above ++ [⟨at', n, (M.find n key).1⟩], by rw [h7, List.reverse_cons, e1]; rfl, fun A => ?_⟩
    have hB := right_branch h1.right h2
    have hi : (M.find n key).1 ≤ n.keys.length := h4
    rw [List.append_assoc above, List.singleton_append, ins_mid key value F.below F.above]
    have hmem : ∀ x ∈ ins key value l, x ∈ l ∨ x.1 = key := fun x hx => (mem_ins hx).elim (fun h => .inr (by rw [h])) .inl
    have o2 := ho1.right
    have hd := ho1.apart
    have other : ∀ {S2 : Store} {B : List Int} {k : Int}, Step X.s S2 p B k → ∀ c l q, Tree X.s h c l q → (∀ x ∈ q, x ∈ p1 ++ p2) → Tree S2 h c l q := fun s c l q t hq =>
      s.tree t (fun x hx => o2.have x (by have := hq x hx; simp at this ⊢; exact .inr this)) (fun x hx => hd x (by have := hq x hx; simp at this ⊢; exact .inr this))
    have hat : ∀ {S2 : Store} {B : List Int} {k : Int}, Step X.s S2 p B k → 2 ≤ at' ∧ at' < S2.size := fun s => ⟨h1.lo, by rw [s.base.size]; exact h1.hi⟩
    cases e2 (⟨at', n, (M.find n key).1⟩ :: A) with
    | one S2 m pgs2 r1 s1 t1 =>
      rw [r1]
      show PutOut X (h + 1) _ _ A (M.putUp A { X with s := S2 } at' { n with kids := n.kids.set (M.find n key).1 m }) _
      have st := s1.frame g o2.nd o2.have hd
      have oo : Own S2 (at' :: (p1 ++ pgs2 ++ p2)) := (Own.step ho1 g st).perm (mid_perm at' p1 pgs2 p2)
      have hk := F.one (Tree S2 h) m (ins key value l) pgs2 (other s1) t1 hmem
      have := lay_branch (X := { X with s := S2 }) (n := { n with kids := n.kids.set (M.find n key).1 m }) A st.base.good he oo (hat s1).1 (hat s1).2 (by rw [← h2, ← hB.vals]) h3 (by have := hB.most; omega) hk
      refine putOut_more (putOut_later (st.perm (fun p => Iff.rfl) (mid_perm at' p1 pgs2 p2)) (fun q => (mid_perm at' p1 p p2).mem_iff) this) (by push_cast; omega)
    | two S2 m m2 mid m1 n1 q1 q2 r1 s1 t1 t2 el b1 b2 =>
      rw [r1]
      show PutOut X (h + 1) _ _ A (M.putUp A { X with s := S2 } at' (M.nhang { n with kids := n.kids.set (M.find n key).1 m } (M.find n key).1 mid m2)) _
      have st := s1.frame g o2.nd o2.have hd
      have oo : Own S2 (at' :: (p1 ++ (q1 ++ q2) ++ p2)) := (Own.step ho1 g st).perm (mid_perm at' p1 (q1 ++ q2) p2)
      have F2 := tree_fact S2 st.base.good.most h
      have hk := F.two (Tree S2 h) m m1 q1 m2 n1 q2 mid (other s1) t1 t2 (by rw [← el]; exact hmem) b1 b2 (F2.ne t2) (F2.ne t1)
      rw [nhang_eq h2 hi hB.kids, el]
      have := lay_branch (X := { X with s := S2 }) A st.base.good he oo (hat s1).1 (hat s1).2 rfl (by simp) (by have := hB.most; simp; omega) hk
      refine putOut_more (putOut_later (st.perm (fun p => Iff.rfl) (mid_perm at' p1 (q1 ++ q2) p2)) (fun q => (mid_perm at' p1 p p2).mem_iff) this) (by push_cast; omega)
    | full hf => exact .full (hf.more (by push_cast; omega))
/-! the whole -/
def TreeR (S : Store) (root : Int) (kvs : KV) (pgs : List Int) : Prop := (root = 0 ∧ kvs = [] ∧ pgs = []) ∨ ∃ h, Tree S h root kvs pgs
theorem Good.pos {S : Store} (g : Good S) {h : Nat} {c : Int} {l : KV} {p : List Int} (t : Tree S h c l p) : 2 ≤ c ∧ c < 640 := (tree_fact S g.most h).rng t c ((tree_fact S g.most h).at' t)
theorem treePut_spec {S : Store} {root : Int} {kvs : KV} {pgs : List Int} {key : Nat} {value : Str} (g : Good S) (ht : TreeR S root kvs pgs) (ho : Own S pgs) (hn : kvs.length < 1024) (hkey : key < 18446744073709551616) (hv : value.length ≤ 40) :
    (∃ S2 r pgs2, M.treePut S root key value = (S2, r, 0) ∧ TreeR S2 r (ins key value kvs) pgs2 ∧ Step S S2 pgs pgs2 21) ∨ (∃ S2, M.treePut S root key value = (S2, 0, 4) ∧ Base S S2 ∧ S.left < 21 ∧ (kvs = [] → S.left < 1)) := by
  unfold M.treePut
  rw [if_neg (by omega)]
  rcases ht with ⟨rfl, rfl, rfl⟩ | ⟨h, t⟩
  · rw [if_pos rfl]
    have hr : M.right ⟨true, [key], [value], []⟩ = true := leaf_right rfl ⟨rfl, rfl, by simp, List.pairwise_singleton _ _, by simpa using hv, by rw [nsize_leaf rfl]; simp; omega⟩
    have hk : KB ⟨true, [key], [value], []⟩ := fun k hk => by simp at hk; omega
    rcases fresh_step (X := ⟨S, 0, 0⟩) g rfl hr hk with ⟨S2, m, e1, s1, p1⟩ | ⟨e1, e2, e3⟩
    · left
      refine ⟨S2, m, [m], ?_, .inr ⟨0, _, p1, rfl, rfl, rfl⟩, s1.weak (by omega)⟩
      rw [e1]; rfl
    · right
      refine ⟨_, ?_, e2, by dsimp only at e3; omega, fun _ => e3⟩
      dsimp only
      rw [M.doneE, if_pos (by rw [e1]; decide), e1]
  · have hp := g.pos t
    have hlow := tree_low g.most t hn
    rw [if_neg (by omega)]
    obtain ⟨q, hq, hpath⟩ := way_path key h ⟨S, 0, 0⟩ root kvs pgs 1 11 [] t g.hl rfl (by omega) (by dsimp only; omega) (by omega)
    rw [hq]
    dsimp only
    rw [if_neg (by simp), List.nil_append]
    obtain ⟨x, above, e1, e2⟩ := put_path key value hkey hv h ⟨S, 0 + h + 1, 0⟩ root kvs pgs q hpath g rfl ho
    rw [e1]
    dsimp only
    have o := e2 []
    rw [List.append_nil] at o
    cases o with
    | one S2 m pgs2 r1 s1 t1 =>
      left
      rw [r1]
      exact ⟨S2, m, pgs2, rfl, .inr ⟨h, t1⟩, s1.weak (by omega)⟩
    | two S2 m m2 mid l1 l2 p1 p2 r1 s1 t1 t2 el b1 b2 =>
      rw [r1]
      dsimp only [contP]
      have F2 := tree_fact S2 s1.base.good.most h
      have hkids : KidsT (Tree S2 h) [mid] [m, m2] (ins key value kvs) (p1 ++ p2) := ⟨l1, p1, l2, p2, t1, t2, b1, b2, el, rfl⟩
      obtain ⟨hr, hk⟩ := branch_right F2 hkids (by simp)
      have oo := Own.step ho g s1
      rcases fresh_step (X := ⟨S2, 0 + h + 1, 0⟩) s1.base.good rfl hr hk with ⟨S3, m3, e3, s3, p3⟩ | ⟨e3, e4, e5⟩
      · left
        rw [e3]
        have st := (s3.frame s1.base.good oo.nd oo.have (by simp))
        refine ⟨S3, m3, m3 :: (p1 ++ p2), rfl, .inr ⟨h + 1, _, p1 ++ p2, p3, rfl, by simp, kids_mono hkids (fun c l p t hs => s3.tree t (fun x hx => oo.have x (hs x hx)) (by simp)), rfl⟩, ?_⟩
        have st2 : Step S2 S3 (p1 ++ p2) (m3 :: (p1 ++ p2)) 1 := by simpa using st
        exact (s1.then (fun p => Iff.rfl) st2).weak (by omega)
      · right
        refine ⟨_, ?_, s1.base.trans e4, by have := s1.left; dsimp only at e5 this; omega, fun hk => absurd hk ((tree_fact S g.most h).ne t)⟩
        rw [M.doneE, if_pos (by rw [e3]; decide), e3]
    | full hf =>
      right
      refine ⟨_, ?_, hf.2.1, by have := hf.2.2; dsimp only at this; omega, fun hk => absurd hk ((tree_fact S g.most h).ne t)⟩
      rw [M.doneE, if_pos (by rw [hf.1]; decide), hf.1]
end Go.Proofs.YtbdhhedfplkidaaGreat
/- Plain facts: a key's value is got; a transaction as a map. -/
namespace Go.Proofs.YtbdhhedfplkidaaGreat
open M (Str Store Disk Work Spot Txn)
theorem look_zip (key : Nat) : ∀ (ks : List Nat) (vs : List Str) (i : Nat), vs.length = ks.length → ks.Pairwise (· < ·) → (∀ x ∈ ks.take i, x < key) → (∀ x ∈ ks.drop i, key ≤ x) → look key (ks.zip vs) = if ks[i]? = some key then vs[i]? else none
  | [], [], i, _, _, _, _ => by simp [look]
  | k :: ks, v :: vs, 0, hl, hs, _, h2 => by
    have hk := h2 k (by simp)
    simp only [List.zip_cons_cons, look, List.getElem?_cons_zero, Option.some.injEq]
    by_cases e : key = k
    · rw [if_pos e, if_pos e.symm]
    · rw [if_neg e, if_neg (fun h => e h.symm), look_none]
      intro x hx
      have := List.rel_of_pairwise_cons hs (List.of_mem_zip hx).1
      omega
  | k :: ks, v :: vs, i + 1, hl, hs, h1, h2 => by
    have hk := h1 k (by simp)
    simp only [List.zip_cons_cons, look, List.getElem?_cons_succ]
    rw [if_neg (by omega)]
    exact look_zip key ks vs i (by simpa using hl) (List.Pairwise.of_cons hs) (fun x hx => h1 x (by simp [hx])) (by simpa using h2)
  | [], _ :: _, _, h, _, _, _ => by simp at h
  | _ :: _, [], _, h, _, _, _ => by simp at h
theorem look_leaf {n : M.Node} (h : LeafOk n) (hl : n.leaf = true) (key : Nat) : look key (lkv n) = if (M.find n key).2 then some (n.vals.getD (M.find n key).1 []) else none := by
  obtain ⟨p1, p2, p3, p4⟩ := place_spec h.rise key
  have e : M.find n key = M.place n.keys key := by unfold M.find; rw [if_pos hl]
  rw [e, show lkv n = n.keys.zip n.vals from rfl, look_zip key n.keys n.vals _ h.vals h.rise p2 p3]
  by_cases ht : n.keys[(M.place n.keys key).1]? = some key
  · rw [if_pos ht, if_pos (p4.2 ht)]
    have hlt := (List.getElem?_eq_some_iff.1 ht).1
    rw [List.getD_eq_getElem?_getD, List.getElem?_eq_getElem (by rw [h.vals]; exact hlt)]; rfl
  · rw [if_neg ht, if_neg (fun h => ht (p4.1 h))]
theorem treeGet_spec {S : Store} {root : Int} {kvs : KV} {pgs : List Int} {key : Nat} (g : Good S) (ht : TreeR S root kvs pgs) (hn : kvs.length < 1024) : M.treeGet S root key = (S, (look key kvs).getD [], (look key kvs).isSome, 0) := by
  unfold M.treeGet
  rcases ht with ⟨rfl, rfl, rfl⟩ | ⟨h, t⟩
  · rw [if_pos rfl]; rfl
  · have hp := g.pos t
    have hlow := tree_low g.most t hn
    rw [if_neg (by omega)]
    obtain ⟨q, hq, hpath⟩ := way_path key h ⟨S, 0, 0⟩ root kvs pgs 1 11 [] t g.hl rfl (by omega) (by dsimp only; omega) (by omega)
    obtain ⟨x, above, e1, e2, e3, e4, e5⟩ := path_end S key h root kvs pgs q hpath
    have hl : q.getLast? = some x := by rw [← List.head?_reverse, e1]; rfl
    rw [hq]
    dsimp only
    rw [if_neg (by simp), List.nil_append, hl]
    dsimp only
    rw [e5, look_leaf e4 e2]
    cases (M.find x.n key).2 <;> rfl
/-! a transaction -/
structure TxnOk (T : Txn) (kvs : KV) : Prop where
  over : T.over = false
  e : T.e = 0
  good : Good T.s
  tree : ∃ pgs, TreeR T.s T.root kvs pgs ∧ Own T.s pgs ∧ ∀ p ∈ T.s.fresh, p ∈ pgs
theorem TreeR.facts {S : Store} {root : Int} {kvs : KV} {pgs : List Int} (g : Good S) (h : TreeR S root kvs pgs) : Srt kvs ∧ (∀ x ∈ kvs, x.1 < 18446744073709551616) ∧ (∀ x ∈ kvs, x.2.length ≤ 40) ∧ pgs.length ≤ 2 * kvs.length ∧ 0 ≤ root ∧ root < 640 ∧ (∀ x ∈ pgs, 2 ≤ x ∧ x < 640) ∧ (root ≠ 0 → root ∈ pgs) := by
  rcases h with ⟨rfl, rfl, rfl⟩ | ⟨h, t⟩
  · exact ⟨List.Pairwise.nil, by simp, by simp, by simp, by omega, by omega, by simp, by simp⟩
  · have F := tree_fact S g.most h
    have := g.pos t
    have := F.pages t
    exact ⟨F.srt t, F.kb t, F.vb t, by omega, by omega, by omega, F.rng t, fun _ => F.at' t⟩
theorem TxnOk.srt {T : Txn} {kvs : KV} (h : TxnOk T kvs) : Srt kvs := by obtain ⟨p, t, _⟩ := h.tree; exact (t.facts h.good).1
theorem TxnOk.root {T : Txn} {kvs : KV} (h : TxnOk T kvs) : 0 ≤ T.root ∧ T.root < 640 := by
  obtain ⟨p, t, _⟩ := h.tree
  exact ⟨(t.facts h.good).2.2.2.2.1, (t.facts h.good).2.2.2.2.2.1⟩
theorem TxnOk.left {T : Txn} {kvs : KV} (h : TxnOk T kvs) : T.s.size - 2 - M.count T.s.used - 2 * kvs.length ≤ T.s.left := by
  obtain ⟨p, t, o, f⟩ := h.tree
  have h1 := nodup_subset h.good.nd f
  have h2 := (t.facts h.good).2.2.2.1
  unfold Store.left
  omega
theorem txnGet_spec {T : Txn} {kvs : KV} (h : TxnOk T kvs) (key : Nat) (hn : kvs.length < 1024) : T.get key = (T, (look key kvs).getD [], (look key kvs).isSome) := by
  obtain ⟨p, t, o, f⟩ := h.tree
  unfold Txn.get
  rw [if_neg (by rw [h.over, h.e]; simp), treeGet_spec h.good t hn]
  dsimp only
  obtain ⟨S, r, e, ov⟩ := T
  have he := h.e
  dsimp only at he
  subst he
  simp
theorem txnPut_spec {T : Txn} {kvs : KV} {key : Nat} {value : Str} (h : TxnOk T kvs) (hn : kvs.length < 1024) (hkey : key < 18446744073709551616) (hv : value.length ≤ 40) (hroom : 23 + M.count T.s.used + 2 * kvs.length ≤ T.s.size ∨ (kvs = [] ∧ 3 + M.count T.s.used ≤ T.s.size)) :
    ∃ T2, T.put key value = (T2, true) ∧ TxnOk T2 (ins key value kvs) ∧ Base T.s T2.s := by
  obtain ⟨p, t, o, f⟩ := h.tree
  have hleft := h.left
  unfold Txn.put
  rw [if_neg (by omega), if_neg (by rw [h.over, h.e]; simp)]
  rcases treePut_spec h.good t o hn hkey hv with ⟨S2, r, p2, e1, e2, e3⟩ | ⟨S2, e1, e2, e3, e4⟩
  · rw [e1]
    refine ⟨{ T with s := S2, root := r, e := 0 }, by simp, ⟨h.over, rfl, e3.base.good, p2, e2, o.step h.good e3, fun q hq => ?_⟩, e3.base⟩
    rcases (e3.fresh q).1 hq with ⟨h1, h2⟩ | ⟨h1, _⟩
    · exact absurd (f q h1) h2
    · exact h1
  · rcases hroom with hr | ⟨hk, hr⟩
    · omega
    · have := e4 hk
      subst hk
      simp at hleft
      omega
theorem rollback_good {S : Store} (g : Good S) : Good S.rollback := ⟨⟨g.hl.down, g.hl.gone, g.hl.fuse⟩, g.size, g.most, by simp [Store.rollback], by simp [Store.rollback], by simp [Store.rollback], by simp [Store.rollback], g.len, by simp [Store.rollback]⟩
theorem fm_good {n : Nat} {S : Store} (h : Fm n S) (h8 : 8 ≤ n) (h640 : n ≤ 640) : Good S :=
  ⟨h.hl, by rw [h.size]; omega, by rw [h.size]; omega, by rw [h.fresh]; simp, by rw [h.fresh]; simp, by rw [h.fresh]; simp, by rw [h.given]; simp, by rw [h.used]; simp [M.noneUsed], by rw [h.given]; simp⟩
/-- A transaction begun over a store just formatted. -/
theorem begin_ok {n : Nat} {S : Store} (h : Fm n S) (h8 : 8 ≤ n) (h640 : n ≤ 640) : TxnOk (Txn.begin S) [] :=
  ⟨rfl, rfl, rollback_good (fm_good h h8 h640), [], .inl ⟨h.root, rfl, rfl⟩, ⟨by simp, by simp⟩, by simp [Txn.begin, Store.rollback]⟩
theorem count_none : M.count M.noneUsed = 0 := by
  rw [count_filter, List.filter_eq_nil_iff.2 (fun i _ => by rw [none_has]; simp)]; rfl
end Go.Proofs.YtbdhhedfplkidaaGreat
/- The plain model, sixth part: what counts is turned; transactions end. -/
namespace Go.Proofs.YtbdhhedfplkidaaGreat.M
def sorted (l : List Int) : List Int := l.mergeSort fun x y => decide (x ≤ y)
def withs (on : Bool) (l : List Int) (u : Str) : Str := l.foldl (fun u n => with' u n on) u
def Store.next (s : Store) : Str := withs false (sorted s.given) (withs true (sorted s.fresh) s.used)
def Store.laid (s : Store) (root : Int) : Store × Int :=
  let y := s.d.sync
  let s1 := ({ s with d := y.1 } : Store).told y.2
  if y.2 ≠ 0 then (s1, y.2) else
  let h := headLay s1.d (s.gen + 1) root s.next
  let s2 := ({ s1 with d := h.1 } : Store).told h.2
  if h.2 ≠ 0 then (s2, h.2) else (({ s2 with gen := s.gen + 1, root := root, used := s.next } : Store).rollback, 0)
def Store.commit (s : Store) (root : Int) : Store × Int :=
  if s.down then (s, 5) else if root ≠ 0 ∧ has s.next root = false then (s, 1) else if s.gen + 1 > 281474976710655 then (s, 6) else s.laid root
def Txn.drop (t : Txn) : Txn := if t.over then t else { t with over := true, s := t.s.rollback }
def Txn.commit (t : Txn) : Txn × Int :=
  if t.over then (t, 6) else if t.e ≠ 0 then (t.drop, t.e) else
  let r := t.s.commit t.root
  ({ t with over := true, s := if r.2 ≠ 0 then r.1.rollback else r.1 }, r.2)
end Go.Proofs.YtbdhhedfplkidaaGreat.M
/- slices.Sorted(maps.Keys(m)) at a map[int]bool: the shelf's contracts at this program, in plain words. -/
namespace Go.Proofs
open Go.RowKit Go.Maps Go.Sort Go.Shelf
def Tryz.iterRen : Go.Shelf.Ren := ⟨fun | 6 => 92 | 7 => 93 | 8 => 134 | 9 => 135 | 10 => 136 | 11 => 165 | n => n, fun | 0 => 0 | 3 => 4 | 4 => 4 | 23 => 151 | 24 => 22 | 26 => 3 | 27 => 172 | 28 => 173 | 33 => 66 | n => n, fun n => n⟩
theorem Tryz.iter7 : SlLaysZI.n7 Tryz.prog Tryz.iterRen := {
  mixed := by kernel_rfl
  f7 := ⟨Tryz.f93.name, by kernel_rfl, Tryz.func93.trans (congrArg some (by kernel_rfl))⟩
  f10 := ⟨Tryz.f136.name, by kernel_rfl, Tryz.func136.trans (congrArg some (by kernel_rfl))⟩
  t0 := Tryz.underlying0
  a0 := Tryz.isAgg0
  z0 := Tryz.sizeOf0
  v0 := Tryz.zeroValue0
  t4 := Tryz.underlying4
  a4 := Tryz.isAgg4
  z4 := Tryz.sizeOf4
  v4 := Tryz.zeroValue4
  t23 := Tryz.underlying151
  a23 := Tryz.isAgg151
  z23 := Tryz.sizeOf151
  v23 := Tryz.zeroValue151
  t26 := Tryz.underlying3
  a26 := Tryz.isAgg3
  z26 := Tryz.sizeOf3
  v26 := Tryz.zeroValue3
  t27 := Tryz.underlying172
  a27 := Tryz.isAgg172
  z27 := Tryz.sizeOf172
  v27 := Tryz.zeroValue172
  t28 := Tryz.underlying173
  a28 := Tryz.isAgg173
  z28 := Tryz.sizeOf173
  v28 := Tryz.zeroValue173
  t33 := Tryz.underlying66
  a33 := Tryz.isAgg66
  z33 := Tryz.sizeOf66
  v33 := Tryz.zeroValue66 }
theorem Tryz.iter6 : SlLaysZI.n6 Tryz.prog Tryz.iterRen := {
  mixed := by kernel_rfl
  f6 := ⟨Tryz.f92.name, by kernel_rfl, Tryz.func92.trans (congrArg some (by kernel_rfl))⟩
  f8 := ⟨Tryz.f134.name, by kernel_rfl, Tryz.func134.trans (congrArg some (by kernel_rfl))⟩
  f11 := ⟨Tryz.f165.name, by kernel_rfl, Tryz.func165.trans (congrArg some (by kernel_rfl))⟩
  t0 := Tryz.underlying0
  a0 := Tryz.isAgg0
  z0 := Tryz.sizeOf0
  v0 := Tryz.zeroValue0
  t24 := Tryz.underlying22
  a24 := Tryz.isAgg22
  z24 := Tryz.sizeOf22
  v24 := Tryz.zeroValue22
  t26 := Tryz.underlying3
  a26 := Tryz.isAgg3
  z26 := Tryz.sizeOf3
  v26 := Tryz.zeroValue3
  t28 := Tryz.underlying173
  a28 := Tryz.isAgg173
  z28 := Tryz.sizeOf173
  v28 := Tryz.zeroValue173
  i26 := by kernel_rfl }
theorem Tryz.iterSorts (m : Nat) : AnyZI.SortsIn Tryz.prog Tryz.iterRen Fence.wide m :=
  ⟨fun blk off cap ss W hH hblk hsz => callsIn_wide.2 (Tryz.slices_Sort_int blk off cap ss W hH hblk hsz), fun p cap W => callsIn_wide.2 (Tryz.slices_Sort_int_none p cap W)⟩
/-- maps.Keys at whatever map. -/
theorem Tryz.maps_Keys (mb : Option Nat) (W : World) : Calls Tryz.prog 93 #[.map mb] W fun e w' => e = .returned (.func (.func 136) #[] #[.pointer (some ⟨W.heap.size, 0, none⟩)]) ∧ w' = W.alloc (.cells #[.map mb] 151) :=
  (callsIn_wide (n := 5)).1 (AnyZI.keys_in Tryz.iter7 Fence.wide 5 trivial rfl mb W)
set_option maxHeartbeats 1000000 in
/-- slices.Sorted at an iterator over a map that is not nil (Bm: the block that holds the map). -/
theorem Tryz.slices_Sorted_keys {H : Type} (Bm b nn : Nat) (D0 : DataW H) (R : Value → Option (DataW H × List MemPlace)) (w : World) (hBm : Bm < w.heap.size) (hm : w.cell? ⟨Bm, 0, none⟩ = some (.map (some b))) (hown : w.ownsMap Tryz.prog 3 R b nn D0) (hmax : Maps.size D0 ≤ maxLen) (hbytes : Maps.size D0 * 8 ≤ 140737488355328) :
    Calls Tryz.prog 92 #[.func (.func 136) #[] #[.pointer (some ⟨Bm, 0, none⟩)]] w fun e w' => ∃ (v : Value) (ss : List Int), e = .returned v ∧ ss.Perm (intKeys D0) ∧
      w'.ownsRow w.heap.size 3 1 v ss.length ((ss.mergeSort (fun x y => decide (x ≤ y))).map encZ) ∧ (v = .slice none 0 0 ↔ ss = []) ∧ Below w.heap.size w w' := by
  refine (callsIn_wide (n := 5)).1 ?_
  have hseq : SeqGives Fence.wide 2 Tryz.prog 136 #[.pointer (some ⟨Bm, 0, none⟩)] encZ (fun ss => ss.Perm (intKeys D0)) (Maps.size D0) w :=
    AnyZI.keys_gives (ρ := Tryz.iterRen) { Tryz.iter7 with } Fence.wide _ trivial rfl (by omega) Bm b nn D0 _ hBm hm hown
  have cS := AnyZI.sorted_in Tryz.iter6 Fence.wide 5 trivial trivial trivial trivial rfl (by omega) (Tryz.iterSorts _) (enters_of Tryz.func135 (by kernel_rfl) rfl) 136 #[.pointer (some ⟨Bm, 0, none⟩)] trivial (enters_of Tryz.func136 (by kernel_rfl) rfl) _ _ hmax hbytes _ hseq
  change CallsIn _ _ Tryz.prog 92 _ _ _ at cS
  exact cS
end Go.Proofs
/- Plain facts: what counts is turned (Commit). -/
namespace Go.Proofs.YtbdhhedfplkidaaGreat
open M (Str Store Disk Work Spot Txn)
theorem has_flip {b : Str} {i : Nat} (hi : i / 8 < b.length) (m : Nat) : M.has (M.flip b i) (m : Int) = if m = i then !M.has b (i : Int) else M.has b (m : Int) := by
  have hx : ∀ (x : UInt8), (UInt8.ofNat (x.toNat ^^^ 2 ^ (i % 8))).toNat = x.toNat ^^^ 2 ^ (i % 8) := fun x => by
    have h1 := x.toNat_lt
    have h2 : 2 ^ (i % 8) < 2 ^ 8 := Nat.pow_lt_pow_right (by omega) (by omega)
    have h3 : x.toNat ^^^ 2 ^ (i % 8) < 2 ^ 8 := Nat.xor_lt_two_pow (by omega) h2
    rw [UInt8.toNat_ofNat_of_lt' (by simpa using h3)]
  unfold M.has M.flip
  simp only [Int.toNat_natCast, List.length_set]
  by_cases hm : m / 8 = i / 8
  · have hg : (b.set (i / 8) (UInt8.ofNat ((b.getD (i / 8) 0).toNat ^^^ 2 ^ (i % 8)))).getD (m / 8) 0 = UInt8.ofNat ((b.getD (i / 8) 0).toNat ^^^ 2 ^ (i % 8)) := by
      rw [List.getD_eq_getElem?_getD, hm, List.getElem?_set_self hi]; rfl
    rw [hg, hx, Nat.testBit_xor, Nat.testBit_two_pow]
    by_cases e : m = i
    · subst e
      rw [if_pos rfl]
      simp [hi]
    · have : i % 8 ≠ m % 8 := by omega
      rw [if_neg e, decide_eq_false this, Bool.xor_false, show b.getD (m / 8) 0 = b.getD (i / 8) 0 by rw [hm]]
  · have e : m ≠ i := fun e => hm (by rw [e])
    rw [if_neg e, List.getD_eq_getElem?_getD, List.getElem?_set_ne (fun e => hm e.symm), ← List.getD_eq_getElem?_getD]
theorem has_neg {b : Str} {m : Int} (h : m < 0) : M.has b m = false := by
  unfold M.has
  rw [decide_eq_false (by omega)]; rfl
theorem has_with {b : Str} {i : Int} (h0 : 0 ≤ i) (hi : i.toNat / 8 < b.length) (on : Bool) (m : Int) : M.has (M.with' b i on) m = if m = i then on else M.has b m := by
  obtain ⟨i, rfl⟩ := Int.eq_ofNat_of_zero_le h0
  simp only [Int.toNat_natCast] at hi
  unfold M.with'
  by_cases hm : m < 0
  · rw [has_neg hm, if_neg (by omega), has_neg hm]
  obtain ⟨m, rfl⟩ := Int.eq_ofNat_of_zero_le (a := m) (by omega)
  by_cases h : M.has b (i : Int) = on
  · rw [if_pos (.inr (.inr h))]
    by_cases e : m = i
    · subst e; rw [if_pos rfl, h]
    · rw [if_neg (by omega)]
  · rw [if_neg (by simp only [Int.toNat_natCast, ge_iff_le, not_or]; exact ⟨by omega, by omega, h⟩)]
    simp only [Int.toNat_natCast]
    rw [has_flip hi]
    by_cases e : m = i
    · subst e
      rw [if_pos rfl, if_pos rfl]
      cases on <;> cases hb : M.has b (m : Int) <;> simp_all
    · rw [if_neg e, if_neg (by omega)]
theorem with_length (b : Str) (i : Int) (on : Bool) : (M.with' b i on).length = b.length := by
  unfold M.with'
  split
  · rfl
  · simp [M.flip]
theorem has_withs (on : Bool) : ∀ (l : List Int) (b : Str), (∀ i ∈ l, 0 ≤ i ∧ i.toNat / 8 < b.length) → ∀ m, M.has (M.withs on l b) m = if m ∈ l then on else M.has b m
  | [], b, _, m => by simp [M.withs]
  | i :: l, b, h, m => by
    have hi := h i (by simp)
    show M.has (M.withs on l (M.with' b i on)) m = _
    rw [has_withs on l _ (fun j hj => by rw [with_length]; exact h j (by simp [hj])), has_with hi.1 hi.2]
    by_cases h1 : m ∈ l
    · rw [if_pos h1, if_pos (by simp [h1])]
    · rw [if_neg h1]
      by_cases h2 : m = i
      · rw [if_pos h2, if_pos (by simp [h2])]
      · rw [if_neg h2, if_neg (by simp [h1, h2])]
theorem withs_length (on : Bool) : ∀ (l : List Int) (u : Str), (M.withs on l u).length = u.length
  | [], _ => rfl
  | n :: l, u => by
    show (M.withs on l (M.with' u n on)).length = _
    rw [withs_length on l, with_length]
theorem mem_sorted {l : List Int} {x : Int} : x ∈ M.sorted l ↔ x ∈ l := (List.mergeSort_perm _ _).mem_iff
theorem next_length {S : Store} : S.next.length = S.used.length := by rw [Store.next, withs_length, withs_length]
theorem next_has {S : Store} (g : Good S) (p : Int) : M.has S.next p = true ↔ (p ∈ S.fresh ∨ M.has S.used p = true) ∧ p ∉ S.given := by
  have hl := g.len
  have h1 : ∀ i ∈ M.sorted S.fresh, 0 ≤ i ∧ i.toNat / 8 < S.used.length := fun i hi => by
    have := g.rng i (mem_sorted.1 hi); have := g.most; omega
  have h2 : ∀ i ∈ M.sorted S.given, 0 ≤ i ∧ i.toNat / 8 < (M.withs true (M.sorted S.fresh) S.used).length := fun i hi => by
    have := has_range (g.giv i (mem_sorted.1 hi)); rw [withs_length]; omega
  unfold Store.next
  rw [has_withs false _ _ h2, has_withs true _ _ h1]
  simp only [mem_sorted]
  by_cases a : p ∈ S.given <;> by_cases b : p ∈ S.fresh <;> simp [a, b]
structure Counts (S : Store) (root : Int) (S2 : Store) : Prop where
  good : Good S2
  size : S2.size = S.size
  gen : S2.gen = S.gen + 1
  rt : S2.root = root
  fresh : S2.fresh = []
  given : S2.given = []
  used : ∀ p, M.has S2.used p = true ↔ (p ∈ S.fresh ∨ M.has S.used p = true) ∧ p ∉ S.given
  kept : ∀ b n, Pn S b n → Pn S2 b n
  head : S2.d.now.getD ((S.gen + 1) % 2).toNat [] = (M.sealP 1 (M.headText (S.gen + 1) root S2.used)).1
  other : S2.d.now.getD (S.gen % 2).toNat [] = S.d.now.getD (S.gen % 2).toNat []
theorem commit_ok {S : Store} {root : Int} {kvs : KV} {pgs : List Int} (g : Good S) (t : TreeR S root kvs pgs) (o : Own S pgs) (h0 : 0 ≤ S.gen) (h1 : S.gen < 281474976710655) : ∃ S2, S.commit root = (S2, 0) ∧ Counts S root S2 := by
  have hroot : root ≠ 0 → M.has S.next root = true := fun hr => by
    rw [next_has g]
    rcases o.own root ((t.facts g).2.2.2.2.2.2.2 hr) with h | ⟨h, h2⟩
    · exact ⟨.inl h, fun hg => by have := g.giv root hg; rw [g.free root h] at this; cases this⟩
    · exact ⟨.inr h, h2⟩
  have h8 := g.size
  have hlen : (M.headText (S.gen + 1) root S.next).length = 88 := by rw [headText_len, next_length, g.len]
  obtain ⟨e1, e2, _⟩ := opens_seal 1 (M.headText (S.gen + 1) root S.next) (by omega) (by omega) (by omega)
  have hsz : S.d.now.length = S.size := rfl
  obtain ⟨w1, w2, w3, w4⟩ := disk_write_ok (d := { S.d with was := [], order := [] }) (n := (S.gen + 1) % 2) (s := (M.sealP 1 (M.headText (S.gen + 1) root S.next)).1) g.hl.gone g.hl.fuse (by omega) (by dsimp only; omega) e2
  have hy : S.d.sync = ({ S.d with was := [], order := [] }, 0) := by unfold Disk.sync; rw [if_neg (by simp [g.hl.gone])]
  have hp : M.pageWrite { S.d with was := [], order := [] } ((S.gen + 1) % 2) 1 (M.headText (S.gen + 1) root S.next) = ((Disk.write { S.d with was := [], order := [] } ((S.gen + 1) % 2) (M.sealP 1 (M.headText (S.gen + 1) root S.next)).1).1, 0) := by
    unfold M.pageWrite
    dsimp only
    rw [show (M.sealP 1 (M.headText (S.gen + 1) root S.next)).2 = 0 by rw [show M.sealP 1 (M.headText (S.gen + 1) root S.next) = _ from e1], if_neg (by simp)]
    exact Prod.ext rfl w1
  obtain ⟨d, hd⟩ : ∃ d, (Disk.write { S.d with was := [], order := [] } ((S.gen + 1) % 2) (M.sealP 1 (M.headText (S.gen + 1) root S.next)).1).1 = d := ⟨_, rfl⟩
  rw [hd] at hp w2 w3 w4
  have hh : M.headLay { S.d with was := [], order := [] } (S.gen + 1) root S.next = ({ d with was := [], order := [] }, 0) := by
    unfold M.headLay
    rw [hp]
    dsimp only
    rw [if_neg (by simp)]
    unfold Disk.sync
    rw [if_neg (by simp [w3])]
  obtain ⟨S2, hS2⟩ : ∃ S2 : Store, S2 = { S with d := { d with was := [], order := [] }, gen := S.gen + 1, root := root, used := S.next, fresh := [], given := [] } := ⟨_, rfl⟩
  have hc : S.commit root = (S2, 0) := by
    unfold Store.commit
    rw [if_neg (by simp [g.hl.down]), if_neg (by rintro ⟨a, b⟩; rw [hroot a] at b; cases b), if_neg (by omega)]
    unfold Store.laid
    rw [hy]
    dsimp only
    rw [if_neg (by simp), told_zero]
    dsimp only
    rw [hh]
    dsimp only
    rw [if_neg (by simp), told_zero, hS2]
    rfl
  have hnow : S2.d.now = S.d.now.set ((S.gen + 1) % 2).toNat (M.sealP 1 (M.headText (S.gen + 1) root S.next)).1 := by rw [hS2]; exact w2
  have hsize : S2.size = S.size := by unfold Store.size; rw [hnow, List.length_set]
  have hused : S2.used = S.next := by rw [hS2]
  refine ⟨S2, hc, ⟨⟨by rw [hS2]; exact g.hl.down, by rw [hS2]; exact w3, by rw [hS2]; exact w4⟩, by rw [hsize]; exact g.size, by rw [hsize]; exact g.most, by rw [hS2]; simp, by rw [hS2]; simp, by rw [hS2]; simp, by rw [hS2]; simp, by rw [hused, next_length]; exact g.len, by rw [hS2]; simp⟩, hsize, by rw [hS2], by rw [hS2], by rw [hS2], by rw [hS2], fun p => by rw [hused]; exact next_has g p, fun b n h => ?_, ?_, ?_⟩
  · refine ⟨h.lo, by rw [hsize]; exact h.hi, ?_, h.right, h.kb⟩
    have := h.lo
    rw [hnow, List.getD_eq_getElem?_getD, List.getElem?_set_ne (by omega), ← List.getD_eq_getElem?_getD]
    exact h.page
  · rw [hnow, hused, List.getD_eq_getElem?_getD, List.getElem?_set_self (by omega)]; rfl
  · rw [hnow, List.getD_eq_getElem?_getD, List.getElem?_set_ne (by omega), ← List.getD_eq_getElem?_getD]
end Go.Proofs.YtbdhhedfplkidaaGreat
/- Law 12: the plain laws of a transaction. -/
namespace Go.Proofs.YtbdhhedfplkidaaGreat
open M (Str Store Disk Work Spot Txn)
theorem txnCommit_spec {T : Txn} {kvs : KV} (h : TxnOk T kvs) (g0 : 0 ≤ T.s.gen) (g1 : T.s.gen < 281474976710655) : ∃ S2, T.commit = (⟨S2, T.root, 0, true⟩, 0) ∧ Counts T.s T.root S2 := by
  obtain ⟨pgs, t, o, f⟩ := h.tree
  obtain ⟨S2, e1, c⟩ := commit_ok h.good t o g0 g1
  refine ⟨S2, ?_, c⟩
  unfold Txn.commit
  rw [if_neg (by rw [h.over]; simp), if_neg (by rw [h.e]; simp), e1]
  obtain ⟨S, r, e, ov⟩ := T
  have he := h.e
  dsimp only at he
  subst he
  rfl
theorem put_long {T : Txn} (key : Nat) {value : Str} (h : 40 < value.length) : T.put key value = (T, false) := by
  unfold Txn.put
  rw [if_pos h]
/-- A transaction over a store just formatted: what it has, and that nothing counts yet. -/
structure Tx0 (n : Nat) (T : Txn) (kvs : KV) : Prop where
  ok : TxnOk T kvs
  size : T.s.size = n
  used : T.s.used = M.noneUsed
  gen : T.s.gen = 1
  root : T.s.root = 0
theorem tx0_begin {n : Nat} {S : Store} (h : Fm n S) (h8 : 8 ≤ n) (h640 : n ≤ 640) : Tx0 n (Txn.begin S) [] :=
  ⟨begin_ok h h8 h640, h.size, h.used, h.gen, h.root⟩
theorem tx0_put {n : Nat} {T : Txn} {kvs : KV} {key : Nat} {value : Str} (h : Tx0 n T kvs) (hkey : key < 18446744073709551616) (hv : value.length ≤ 40) (hroom : 23 + 2 * kvs.length ≤ n ∨ (kvs = [] ∧ 3 ≤ n)) (hn : kvs.length < 1024) : ∃ T2, T.put key value = (T2, true) ∧ Tx0 n T2 (ins key value kvs) := by
  obtain ⟨T2, e, ok, b⟩ := txnPut_spec h.ok hn hkey hv (by rw [h.used, count_none, h.size]; rcases hroom with hr | ⟨hk, hr⟩; exact .inl (by omega); exact .inr ⟨hk, by omega⟩)
  exact ⟨T2, e, ok, by rw [b.size, h.size], by rw [b.used, h.used], by rw [b.gen, h.gen], by rw [b.root, h.root]⟩
end Go.Proofs.YtbdhhedfplkidaaGreat
/- Bits are set; the keys of a map, sorted. -/
namespace Go.Proofs.YtbdhhedfplkidaaGreat
open Go
open M (Str Store Disk DiskOk)
set_option maxHeartbeats 1000000
set_option maxRecDepth 2000
theorem M.bin_xor8 (t x j : Nat) (w : World) (hx : x < 256) (hj : j < 8) : (binOp .xor t (.int .u8 x) (.int .u8 ((2 ^ j : Nat) : Int))).run Pg w = .ok (.int .u8 ((x ^^^ 2 ^ j : Nat) : Int)) w := by
  have hp : 2 ^ j ≤ 2 ^ 7 := Nat.pow_le_pow_right (by omega) (by omega)
  have h2 : (BitVec.ofInt 8 (x : Int) ^^^ BitVec.ofInt 8 ((2 ^ j : Nat) : Int)).toNat = x ^^^ 2 ^ j := by
    rw [BitVec.toNat_xor, BitVec.toNat_ofInt, BitVec.toNat_ofInt]
    generalize 2 ^ j = y at *
    congr 1 <;> omega
  have hw : IntKind.u8.wrap ((x ^^^ 2 ^ j : Nat) : Int) = ((x ^^^ 2 ^ j : Nat) : Int) := by
    have : x ^^^ 2 ^ j < 2 ^ 8 := Nat.xor_lt_two_pow (by omega) (by omega)
    generalize x ^^^ 2 ^ j = m at this
    simp [IntKind.wrap, IntKind.bits, IntKind.signed]; omega
  simp only [binOp, Op.intBits]
  show (if IntKind.u8 ≠ IntKind.u8 then _ else (pure (.int .u8 (IntKind.u8.wrap ((BitVec.ofInt 8 (x : Int) ^^^ BitVec.ofInt 8 ((2 ^ j : Nat) : Int)).toNat : Int))) : Sem Value)).run Pg w = _
  rw [if_neg (by simp), h2, hw]
  rfl
section
variable {c : World} {Q : Exit → Act → World → Prop} {n : Nat} {l : List (Nat × Value)} {H R : HProp} {ks : List Kn}
variable {q q1 q2 : Md} {all : Array Oper} {o : Oper} {rest : List Oper} {d : Nat} {v : Value}
/-- a == b of truth values -/
theorem W.eqb [hNL : NL q1 q2] {t t' : TypeId} {x y : Operand} {a b : Bool} (hg : o.guard = none) (hd : o.dst = some d) (hn : Nat.blt d n = true) (ho : o.op = .binOp .eql t x y t') [ht : TD t .bool]
    (hx : ev l x = some (.bool a)) (hy : ev l y = some (.bool b)) (k : WS c Q n (.ops q2 all rest ks) ((d, .bool (a == b)) :: l) H) : WS c Q n (.ops q1 all (o :: rest) ks) l H := by
  refine W.val hg hd hn (fun ac w hf _ => ?_) k
  have h2 : (Op.equal t (.bool a) (.bool b)).run Pg w = .ok (a == b) w := run_equalIn_bool w 9999 t a b ht.eq
  simp [execOp, ho, hf.eval hx, hf.eval hy, eqGuard, binOp, h2]
end
theorem with_len (b : Str) (i : Int) (on : Bool) : (M.with' b i on).length = b.length := by
  unfold M.with'
  split
  · rfl
  · simp [M.flip]
theorem withs_len (on : Bool) : ∀ (l : List Int) (u : Str), (M.withs on l u).length = u.length
  | [], _ => rfl
  | n :: l, u => by
    show (M.withs on l (M.with' u n on)).length = _
    rw [withs_len on l, with_len]
theorem bits_With (b : Str) (i : Int) (on : Bool) (hb : b.length < 9223372036854775808) (hi0 : 0 ≤ i) (hi1 : i < 9223372036854775808) :
    CS 94 [str b, int i, .bool on] emp fun v H' => v = str (M.with' b i on) ∧ H' = emp := by
  refine CS.walk Tryz.func94 rfl Tryz.ntmps94 rfl fun c R => ?_
  rw [emp_sep]
  obtain ⟨i, rfl⟩ := Int.eq_ofNat_of_zero_le hi0
  (repeat (first | refine W.ctl rfl ?_ | refine W.op rfl rfl rfl rfl ?_ | refine W.skip rfl rfl ?_ | refine W.fld rfl rfl rfl rfl rfl ?_ | refine W.ld rfl rfl rfl rfl rfl ?_))
  refine W.no rfl rfl rfl rfl (by omega : ¬ (i : Int) < 0) ?_
  (repeat (first | refine W.ctl rfl ?_ | refine W.op rfl rfl rfl rfl ?_ | refine W.skip rfl rfl ?_ | refine W.fld rfl rfl rfl rfl rfl ?_ | refine W.ld rfl rfl rfl rfl rfl ?_))
  refine W.bin rfl rfl rfl rfl rfl rfl (fun w => M.bin_quo _ i 8 w (by decide) (by omega)) ?_
  (repeat (first | refine W.ctl rfl ?_ | refine W.op rfl rfl rfl rfl ?_ | refine W.skip rfl rfl ?_ | refine W.fld rfl rfl rfl rfl rfl ?_ | refine W.ld rfl rfl rfl rfl rfl ?_))
  refine W.slen rfl rfl rfl rfl rfl ?_
  (repeat (first | refine W.ctl rfl ?_ | refine W.op rfl rfl rfl rfl ?_ | refine W.skip rfl rfl ?_))
  by_cases h1 : b.length ≤ i / 8
  · refine W.yes rfl rfl rfl rfl (p := (b.length : Int) ≤ ((i / 8 : Nat) : Int)) (by omega) ?_
    (repeat (first | refine W.ctl rfl ?_ | refine W.op rfl rfl rfl rfl ?_ | refine W.skip rfl rfl ?_ | refine W.fld rfl rfl rfl rfl rfl ?_ | refine W.ld rfl rfl rfl rfl rfl ?_))
    refine W.ret1 (.inr rfl) rfl rfl _ ⟨?_, rfl⟩ Imp.all
    rw [M.with', if_pos (by simp only [Int.toNat_natCast]; omega)]
  · refine W.no rfl rfl rfl rfl (p := (b.length : Int) ≤ ((i / 8 : Nat) : Int)) (by omega) ?_
    (repeat (first | refine W.ctl rfl ?_ | refine W.op rfl rfl rfl rfl ?_ | refine W.skip rfl rfl ?_ | refine W.fld rfl rfl rfl rfl rfl ?_ | refine W.ld rfl rfl rfl rfl rfl ?_))
    refine W.call (bits_Has b i hb (by omega) hi1) rfl rfl rfl rfl Tryz.call95 ⟨rfl, rfl, trivial⟩ ?_
    rintro _ _ ⟨rfl, rfl⟩
    rw [emp_sep]
    (repeat (first | refine W.ctl rfl ?_ | refine W.op rfl rfl rfl rfl ?_ | refine W.skip rfl rfl ?_ | refine W.fld rfl rfl rfl rfl rfl ?_ | refine W.ld rfl rfl rfl rfl rfl ?_))
    refine W.eqb rfl rfl rfl rfl rfl rfl ?_
    refine W.case 22 rfl (fun h2 => ?_) (fun h2 => ?_)
    · (repeat (first | refine W.ctl rfl ?_ | refine W.op rfl rfl rfl rfl ?_ | refine W.skip rfl rfl ?_ | refine W.fld rfl rfl rfl rfl rfl ?_ | refine W.ld rfl rfl rfl rfl rfl ?_))
      refine W.ret1 (.inr rfl) rfl rfl _ ⟨?_, rfl⟩ Imp.all
      rw [M.with', if_pos (.inr (.inr (by simpa using h2)))]
    · (repeat (first | refine W.ctl rfl ?_ | refine W.op rfl rfl rfl rfl ?_ | refine W.skip rfl rfl ?_ | refine W.fld rfl rfl rfl rfl rfl ?_ | refine W.ld rfl rfl rfl rfl rfl ?_))
      refine W.s2b rfl rfl rfl rfl rfl fun g m sp => ?_
      (repeat (first | refine W.ctl rfl ?_ | refine W.op rfl rfl rfl rfl ?_ | refine W.skip rfl rfl ?_ | refine W.fld rfl rfl rfl rfl rfl ?_ | refine W.ld rfl rfl rfl rfl rfl ?_))
      refine W.anyq (f := 1) (fun j => !Nat.beq j 10) [0, 1, 2, 3, 4, 5, 6, 7, 8, 9] (by kernel_rfl) (by kernel_rfl) (by kernel_rfl) (by kernel_rfl) rfl ?_
      (repeat (first | refine W.ctl rfl ?_ | refine W.op rfl rfl rfl rfl ?_ | refine W.skip rfl rfl ?_ | refine W.fld rfl rfl rfl rfl rfl ?_ | refine W.ld rfl rfl rfl rfl rfl ?_))
      refine W.bin rfl rfl rfl rfl rfl rfl (fun w => M.bin_quo _ i 8 w (by decide) (by omega)) ?_
      refine W.idx rfl rfl rfl rfl rfl rfl (by omega) (by omega) ?_
      refine W.ldb (v := u8 (b[i / 8]'(by omega))) rfl rfl rfl rfl rfl (by rw [show 0 + (((i / 8 : Nat) : Int)).toNat * 1 = i / 8 by omega, List.getElem?_append_left (by simp; omega)]; simp [show i / 8 < b.length by omega]) ?_
      (repeat (first | refine W.ctl rfl ?_ | refine W.op rfl rfl rfl rfl ?_ | refine W.skip rfl rfl ?_ | refine W.fld rfl rfl rfl rfl rfl ?_ | refine W.ld rfl rfl rfl rfl rfl ?_))
      refine W.bin rfl rfl rfl rfl rfl rfl (fun w => M.bin_rem .i64 _ i 8 w (by decide)) ?_
      refine W.bin rfl rfl rfl rfl rfl rfl (fun w => M.bin_shl8 _ (i % 8) w (by omega)) ?_
      refine W.bin rfl rfl rfl rfl rfl rfl (fun w => M.bin_xor8 _ (b[i / 8]'(by omega)).toNat (i % 8) w (UInt8.toNat_lt _) (by omega)) ?_
      refine W.idx rfl rfl rfl rfl rfl rfl (by omega) (by omega) ?_
      refine W.tdn ?_
      refine W.ald1 10 (by kernel_rfl) rfl ?_
      refine W.stb rfl rfl rfl rfl rfl (by simp; omega) ?_
      refine W.afb (W.adn (by kernel_rfl) ?_)
      (repeat (first | refine W.ctl rfl ?_ | refine W.op rfl rfl rfl rfl ?_ | refine W.skip rfl rfl ?_ | refine W.fld rfl rfl rfl rfl rfl ?_ | refine W.ld rfl rfl rfl rfl rfl ?_))
      have hb2 : (M.flip b i).length = b.length := by simp [M.flip]
      have hcell : (b.map u8 ++ sp).set (0 + (((i / 8 : Nat) : Int)).toNat * 1) (.int .u8 (((b[i / 8]'(by omega)).toNat ^^^ 2 ^ (i % 8) : Nat) : Int)) = (M.flip b i).map u8 ++ sp := by
        have hx : (UInt8.ofNat ((b[i / 8]'(by omega)).toNat ^^^ 2 ^ (i % 8))).toNat = (b[i / 8]'(by omega)).toNat ^^^ 2 ^ (i % 8) := by
          have h1 := (b[i / 8]'(by omega)).toNat_lt
          have h2 : 2 ^ (i % 8) < 2 ^ 8 := Nat.pow_lt_pow_right (by omega) (by omega)
          have h3 : (b[i / 8]'(by omega)).toNat ^^^ 2 ^ (i % 8) < 2 ^ 8 := Nat.xor_lt_two_pow (by omega) h2
          rw [UInt8.toNat_ofNat_of_lt' (by simpa using h3)]
        have e : b.getD (i / 8) 0 = b[i / 8]'(by omega) := by simp [List.getD_eq_getElem?_getD, show i / 8 < b.length by omega]
        rw [M.flip, e, List.map_set, List.set_append, if_pos (by simp; omega)]
        congr 2
        · omega
        · rw [u8, hx]
      rw [hcell]
      refine W.b2sb (u := M.flip b i) rfl rfl rfl rfl (by rw [hb2]; rfl) ?_
      (repeat (first | refine W.ctl rfl ?_ | refine W.op rfl rfl rfl rfl ?_ | refine W.skip rfl rfl ?_ | refine W.fld rfl rfl rfl rfl rfl ?_ | refine W.ld rfl rfl rfl rfl rfl ?_))
      refine W.ret1 (.inr rfl) rfl rfl emp ⟨?_, rfl⟩ Imp.all
      have hne : ¬ ((i : Int) < 0 ∨ (i : Int).toNat / 8 ≥ b.length ∨ M.has b (i : Int) = on) := by
        simp only [Int.toNat_natCast]
        rintro (h | h | h)
        · omega
        · omega
        · rw [h] at h2; simp at h2
      rw [M.with', if_neg hne]
      simp
end Go.Proofs.YtbdhhedfplkidaaGreat
/- The keys of a map of numbers, sorted. -/
namespace Go.Proofs.YtbdhhedfplkidaaGreat
open Go
open M (Str Store Disk DiskOk)
set_option maxHeartbeats 1000000
set_option maxRecDepth 2000
theorem maps_Keys (mb : Nat) : CS 93 [.map (some mb)] emp fun v H' => ∃ k, v = .func (.func 136) #[] #[ptr k] ∧ H' = row k 151 [.map (some mb)] := by
  intro c R w hs
  refine (Tryz.maps_Keys (some mb) w).mono ?_
  rintro e w' ⟨rfl, rfl⟩
  rw [emp_sep] at hs
  exact ⟨_, _, ⟨w.heap.size, rfl, rfl⟩, rfl, hs.ralloc 151 #[.map (some mb)]⟩
theorem slices_Sorted (k mb : Nat) (l : List Int) (hl : l.length ≤ 640) (hr : ∀ n ∈ l, 0 ≤ n ∧ n < 640) : CS 92 [.func (.func 136) #[] #[ptr k]] (row k 151 [.map (some mb)] • mapI .i64 mb (mset l))
    fun v H' => ∃ a cap, v = sv a l.length cap ∧ H' = (slck 1 3 (sv a l.length cap) l.length ((M.sorted l).map int) • row k 151 [.map (some mb)] • mapI .i64 mb (mset l)) := by
  intro c R w hs
  have hs0 := hs
  have hcell := hs.imp (Imp.of_eq (sep_assoc' _ _ R))
  have hm := hcell.rcell 0
  have hlt : k < w.heap.size := by
    have := hcell.get
    exact (Array.getElem?_eq_some_iff.1 this).1
  have hmap : SL c (mapI .i64 mb (mset l) • row k 151 [.map (some mb)] • R) w := hs.imp (Imp.of_eq (by ac_rfl))
  obtain ⟨es, ck, hkv, hst, hb⟩ := hmap.miE
  have hbk := hb.get
  have hlen : es.length = l.length := by have := congrArg List.length hkv; simpa using this
  have hall : ∀ x ∈ es, ∃ n ∈ l, x.key = .int .i64 n ∧ x.val = .bool true := fun x hx => by
    have h1 : (x.key, x.val) ∈ es.map (fun e => (e.key, e.val)) := List.mem_map.2 ⟨x, hx, rfl⟩
    rw [hkv] at h1
    obtain ⟨p, hp, he⟩ := List.mem_map.1 h1
    obtain ⟨n, hn, rfl⟩ := List.mem_map.1 hp
    simp only [Prod.mk.injEq] at he
    exact ⟨n, hn, he.1.symm, he.2.symm⟩
  have hwf : ∀ n ∈ l, (Lit.int .i64 n).wf = true := fun n hn => by
    have := hr n hn
    simp [Lit.wf, IntKind.min, IntKind.max, IntKind.signed, IntKind.bits]; omega
  obtain ⟨Rr, hRr⟩ : ∃ Rr : Value → Option (DataW Unit × List MemPlace), Rr = plainElem Pg 4 := ⟨_, rfl⟩
  have hrd : ∀ x ∈ es, ∀ n, x.key = .int .i64 n → n ∈ l → x.val = .bool true → WideElems.rd Pg 3 Rr x = some (.int .i64 n, .lit (.bool true)) := fun x hx n hk hn hv => by
    have h1 := Maps.keyOf_int_mk (P := Pg) Tryz.underlying3 (hwf n hn)
    have h2 := plainElem_bool (H := Unit) (P := Pg) Tryz.underlying4 true
    rw [hRr]
    simp [WideElems.rd, hk, hv, h1, h2]
  obtain ⟨L, hL⟩ : ∃ L, L = es.map (WideElems.rg Pg 3 Rr) := ⟨_, rfl⟩
  have hown : w.ownsMap Pg 3 Rr mb es.length (.map (L.foldr DataW.insert [])) := by
    refine ⟨es.toArray, ck, hbk, ⟨by simp [maxLen]; omega, by simpa [MapKept.Stamped, Stl] using hst, fun x hx => ?_⟩, by simp, by rw [hL]⟩
    have hx' : x ∈ es := by simpa using hx
    obtain ⟨n, hn, hk, hv⟩ := hall x hx'
    exact ⟨_, hrd x hx' n hk hn hv⟩
  have hkeys : L.map (fun p => _root_.Go.intOf p.1) = l := by
    have e1 : L.map (fun p => _root_.Go.intOf p.1) = es.map fun x => (match x.key with | .int _ a => a | _ => 0) := by
      rw [hL, List.map_map]
      refine List.map_congr_left fun x hx => ?_
      obtain ⟨n, hn, hk, hv⟩ := hall x hx
      show _root_.Go.intOf (WideElems.rg Pg 3 Rr x).1 = _
      rw [WideElems.rg_of (hrd x hx n hk hn hv), hk]
      rfl
    have e2 := congrArg (List.map fun v : Value => (match v with | .int _ a => a | _ => 0)) hkv.keys
    rw [List.map_map, List.map_map] at e2
    rw [e1]
    refine Eq.trans e2 ?_
    rw [mset, List.map_map]
    exact List.map_id' l
  have hperm : (intKeys (.map (L.foldr DataW.insert []))).Perm l := by
    have := (WideShapes.sorted_perm L).map fun p => _root_.Go.intOf p.1
    rw [hkeys] at this
    exact this
  have hsize : Maps.size (.map (L.foldr DataW.insert [])) = l.length := by
    have := hperm.length_eq
    simpa [intKeys, Maps.size] using this
  refine (Tryz.slices_Sorted_keys k mb es.length (.map (L.foldr DataW.insert [])) Rr w hlt hm hown (by rw [hsize]; simp [maxLen]; omega) (by rw [hsize]; omega)).mono ?_
  rintro e w' ⟨v, ss, rfl, hss, hrow, _, hbel⟩
  have hp2 := hss.trans hperm
  have hsl : ss.length = l.length := hp2.length_eq
  have hsort : ss.mergeSort (fun x y => decide (x ≤ y)) = M.sorted l := mergeSort_of_perm_i hp2
  rw [hsort, hsl] at hrow
  obtain ⟨a, cp, rfl⟩ := owns_sv hrow
  refine ⟨_, _, ⟨a, cp, rfl, rfl⟩, rfl, ?_⟩
  have hs2 := hs0.below hbel
  obtain ⟨h1, h2⟩ := hrow
  rcases h2 with ⟨hv, h3⟩ | ⟨g, cap, cur, hv, hg, hcur, h3, h4, h5, h6⟩
  · have : l = [] := List.length_eq_zero_iff.1 h3
    subst this
    rw [hv, show M.sorted [] = [] by simp [M.sorted], List.map_nil, List.length_nil, slck_nil, emp_sep]
    exact hs2
  · obtain ⟨hp, q, s⟩ := hs0.heap
    have hn : ∀ b, w.heap.size ≤ b → hp b = none := fun b hb => by
      cases hx : hp b with
      | none => rfl
      | some o => have := (Array.getElem?_eq_some_iff.1 (s b o hx)).1; omega
    have h7 : SL c (row g 3 cur.toList • ((row k 151 [.map (some mb)] • mapI .i64 mb (mset l)) • R)) w' := by
      obtain ⟨_, q', s'⟩ := hs2.heap
      refine ⟨hs2.os, hs2.tape, hs2.output, fun b => if b = g then some (.cells cur 3 (0, 0)) else hp b, ⟨fun b => if b = g then some (.cells cur 3 (0, 0)) else none, hp, fun b => ?_, fun b => ?_, fun b => by simp, q⟩, fun b o ho => ?_⟩
      · by_cases hb : b = g
        · right; rw [hb]; exact hn g hg
        · left; simp [hb]
      · by_cases hb : b = g <;> simp [hb]
      · by_cases hb : b = g
        · subst hb; simp at ho; subst ho; exact hcur
        · simp only [hb, if_false] at ho
          have h0 := s b o ho
          rw [hbel.block b (Array.getElem?_eq_some_iff.1 h0).1]; exact h0
    have h8 : cur.toList = (M.sorted l).map encZ ++ cur.toList.drop l.length := by
      rw [Nat.mul_one] at h6
      rw [← h6, List.take_append_drop]
    rw [h8] at h7
    rw [sep_assoc', hv]
    refine h7.imp (Imp.sep (slck_mk (by simpa using h1) h3 h4 ?_) (Imp.refl _))
    rw [← h8]; simpa using h5
end Go.Proofs.YtbdhhedfplkidaaGreat
/- What counts is turned: shadow.Commit. -/
namespace Go.Proofs.YtbdhhedfplkidaaGreat
open Go
open M (Str Store Disk DiskOk)
set_option maxHeartbeats 1000000
set_option maxRecDepth 2000
/-- The pages taken and given are pages. -/
structure Rgs (S : Store) : Prop where
  fl : S.fresh.length ≤ 640
  fr : ∀ n ∈ S.fresh, 0 ≤ n ∧ n < 640
  gl : S.given.length ≤ 640
  gr : ∀ n ∈ S.given, 0 ≤ n ∧ n < 640
theorem sorted_len (l : List Int) : (M.sorted l).length = l.length := List.length_mergeSort _
theorem sorted_mem {l : List Int} {x : Int} (h : x ∈ M.sorted l) : x ∈ l := (List.mergeSort_perm _ _).mem_iff.1 h
theorem withs_nil (on : Bool) (u : Str) : M.withs on [] u = u := rfl
theorem withs_take (on : Bool) (l : List Int) (u : Str) (i : Nat) (h : i < l.length) : M.withs on (l.take (i + 1)) u = M.with' (M.withs on (l.take i) u) l[i] on := by
  rw [List.take_add_one, List.getElem?_eq_getElem h, M.withs, List.foldl_append]
  rfl
theorem headLay_ok {D : Disk} (h : DiskOk D) (gen root : Int) (used : Str) : DiskOk (M.headLay D gen root used).1 := by
  unfold M.headLay
  dsimp only
  split
  · exact pageWrite_ok h _ _ _
  · exact M.sync_ok (pageWrite_ok h _ _ _)
theorem store_Commit (p dp : Nat) (S : Store) (root : Int) (r0 : 0 ≤ root) (r1 : root < 640) (hr : Rgs S) : CS 44 [ptr p, int root] (StoreP p dp S) fun v H' => v = int (S.commit root).2 ∧ H' = StoreP p dp (S.commit root).1 := by
  refine CS.walk Tryz.func44 rfl Tryz.ntmps44 rfl fun c R => ?_
  refine W.open (StoreP.opn p dp S) rfl ?_
  rintro ⟨fb, gb⟩ hS
  have hu := hS.used
  (repeat (first | refine W.ctl rfl ?_ | refine W.op rfl rfl rfl rfl ?_ | refine W.skip rfl rfl ?_ | refine W.fld rfl rfl rfl rfl rfl ?_ | refine W.ld rfl rfl rfl rfl rfl ?_))
  refine W.case 15 rfl (fun hd => ?_) (fun hd => ?_)
  · (repeat (first | refine W.ctl rfl ?_ | refine W.op rfl rfl rfl rfl ?_ | refine W.skip rfl rfl ?_ | refine W.fld rfl rfl rfl rfl rfl ?_ | refine W.ld rfl rfl rfl rfl rfl ?_))
    have e : S.commit root = (S, 5) := by rw [Store.commit, if_pos hd]
    rw [e]
    exact W.ret1 (.inr rfl) rfl rfl (StoreP p dp S) ⟨rfl, rfl⟩ (Imp.pack (StoreP.mk (fb, gb) hS) Imp.all)
  (repeat (first | refine W.ctl rfl ?_ | refine W.op rfl rfl rfl rfl ?_ | refine W.skip rfl rfl ?_ | refine W.fld rfl rfl rfl rfl rfl ?_ | refine W.ld rfl rfl rfl rfl rfl ?_))
  refine W.anyq (f := 2) (fun j => !Nat.beq j 14) [0, 1, 2, 3, 4, 5, 6, 7, 8, 9, 10, 11, 12] (by kernel_rfl) (by kernel_rfl) (by kernel_rfl) (by kernel_rfl) rfl ?_
  (repeat (first | refine W.ctl rfl ?_ | refine W.op rfl rfl rfl rfl ?_ | refine W.skip rfl rfl ?_ | refine W.fld rfl rfl rfl rfl rfl ?_ | refine W.ld rfl rfl rfl rfl rfl ?_))
  have hfl := hr.fl
  have hgl := hr.gl
  have hg0 := hS.gen0
  have hg1 := hS.gen1
  refine W.ar (r := S.gen + 1) rfl rfl rfl rfl rfl rfl rfl (wrap_i64 (by omega) (by omega)) ?_
  (repeat (first | refine W.ctl rfl ?_ | refine W.op rfl rfl rfl rfl ?_ | refine W.skip rfl rfl ?_ | refine W.fld rfl rfl rfl rfl rfl ?_ | refine W.ld rfl rfl rfl rfl rfl ?_))
  refine W.bld rfl rfl rfl rfl rfl ?_
  refine W.tdn ?_
  refine W.ald1 13 (by kernel_rfl) rfl ?_
  refine W.alc rfl rfl rfl rfl fun hb => ?_
  refine W.aft (Imp.right _ _) ?_
  refine W.ald1 14 (by kernel_rfl) rfl ?_
  refine W.sts rfl rfl rfl rfl rfl rfl ?_
  refine W.afb (W.adn (by kernel_rfl) ?_)
  (repeat (first | refine W.ctl rfl ?_ | refine W.op rfl rfl rfl rfl ?_ | refine W.skip rfl rfl ?_ | refine W.fld rfl rfl rfl rfl rfl ?_ | refine W.ld rfl rfl rfl rfl rfl ?_))
  refine W.call (maps_Keys fb) rfl rfl rfl rfl Tryz.call93 ⟨rfl, trivial⟩ ?_
  rintro _ _ ⟨kb, rfl, rfl⟩
  refine W.call (slices_Sorted kb fb S.fresh hr.fl hr.fr) rfl rfl rfl rfl Tryz.call92 ⟨rfl, trivial⟩ ?_
  rintro _ _ ⟨a, cap, rfl, rfl⟩
  simp only [sep_assoc']
  refine W.len rfl rfl rfl rfl rfl ?_
  (repeat (first | refine W.ctl rfl ?_ | refine W.op rfl rfl rfl rfl ?_ | refine W.skip rfl rfl ?_ | refine W.fld rfl rfl rfl rfl rfl ?_ | refine W.ld rfl rfl rfl rfl rfl ?_))
  refine W.loop (σ := Nat) (fun i => i ≤ S.fresh.length) (fun i => [(0, ptr p), (1, int root), (5, ptr hb), (34, sv a S.fresh.length cap), (35, int S.fresh.length), (36, int i)]) (fun i => row hb 150 [int (S.gen + 1), int root, str (M.withs true ((M.sorted S.fresh).take i) S.used)] • slck 1 3 (sv a S.fresh.length cap) S.fresh.length ((M.sorted S.fresh).map int) • row p 153 [ptr dp, int S.gen, int S.root, str S.used, .map (some fb), .map (some gb), .bool S.down] • DiskP dp S.d • mapI .i64 fb (mset S.fresh) • mapI .i64 gb (mset S.given) • R) (fun i => S.fresh.length - i) 0 (Nat.zero_le _) ⟨rfl, rfl, rfl, rfl, rfl, rfl, trivial⟩ (by simp only [List.take_zero, withs_nil]; exact Imp.all) ?_
  rintro i hi
  (repeat (first | refine W.ctl rfl ?_ | refine W.op rfl rfl rfl rfl ?_ | refine W.skip rfl rfl ?_ | refine W.fld rfl rfl rfl rfl rfl ?_ | refine W.ld rfl rfl rfl rfl rfl ?_))
  by_cases h : (i : Int) < S.fresh.length
  · refine W.yes rfl rfl rfl rfl h ?_
    (repeat (first | refine W.ctl rfl ?_ | refine W.op rfl rfl rfl rfl ?_ | refine W.skip rfl rfl ?_ | refine W.fld rfl rfl rfl rfl rfl ?_ | refine W.ld rfl rfl rfl rfl rfl ?_))
    have hlt : i < (M.sorted S.fresh).length := by rw [sorted_len]; omega
    have hm := hr.fr _ (sorted_mem (List.getElem_mem hlt))
    refine W.idxk rfl rfl rfl rfl rfl rfl (by omega) (by omega) ?_
    refine W.ldk (v := int (M.sorted S.fresh)[i]) rfl rfl rfl rfl rfl (by simp [List.getElem?_eq_getElem hlt]) ?_
    (repeat (first | refine W.ctl rfl ?_ | refine W.op rfl rfl rfl rfl ?_ | refine W.skip rfl rfl ?_ | refine W.fld rfl rfl rfl rfl rfl ?_ | refine W.ld rfl rfl rfl rfl rfl ?_))
    refine W.call (bits_With (M.withs true ((M.sorted S.fresh).take i) S.used) (M.sorted S.fresh)[i] true (by simp only [withs_len]; omega) hm.1 (by omega)) rfl rfl rfl rfl Tryz.call94 ⟨rfl, rfl, rfl, trivial⟩ ?_
    rintro _ _ ⟨rfl, rfl⟩
    rw [emp_sep, ← withs_take _ _ _ _ hlt]
    (repeat (first | refine W.ctl rfl ?_ | refine W.op rfl rfl rfl rfl ?_ | refine W.skip rfl rfl ?_ | refine W.fld rfl rfl rfl rfl rfl ?_ | refine W.ld rfl rfl rfl rfl rfl ?_))
    refine W.st rfl rfl rfl rfl rfl ?_
    (repeat (first | refine W.ctl rfl ?_ | refine W.op rfl rfl rfl rfl ?_ | refine W.skip rfl rfl ?_ | refine W.fld rfl rfl rfl rfl rfl ?_ | refine W.ld rfl rfl rfl rfl rfl ?_))
    refine W.ar (r := (i : Int) + 1) rfl rfl rfl rfl rfl rfl rfl (wrap_i64 (by omega) (by omega)) ?_
    rw [show (i : Int) + 1 = ((i + 1 : Nat) : Int) by omega]
    (repeat (first | refine W.ctl rfl ?_ | refine W.op rfl rfl rfl rfl ?_ | refine W.skip rfl rfl ?_ | refine W.fld rfl rfl rfl rfl rfl ?_ | refine W.ld rfl rfl rfl rfl rfl ?_))
    exact W.again (i + 1) (by omega) (by omega) ⟨rfl, rfl, rfl, rfl, rfl, rfl, trivial⟩ Imp.all
  refine W.no rfl rfl rfl rfl h ?_
  obtain rfl : i = S.fresh.length := by omega
  rw [List.take_of_length_le (Nat.le_of_eq (sorted_len _))]
  (repeat (first | refine W.ctl rfl ?_ | refine W.op rfl rfl rfl rfl ?_ | refine W.skip rfl rfl ?_ | refine W.fld rfl rfl rfl rfl rfl ?_ | refine W.ld rfl rfl rfl rfl rfl ?_))
  refine W.call (maps_Keys gb) rfl rfl rfl rfl Tryz.call93 ⟨rfl, trivial⟩ ?_
  rintro _ _ ⟨kb2, rfl, rfl⟩
  refine W.call (slices_Sorted kb2 gb S.given hr.gl hr.gr) rfl rfl rfl rfl Tryz.call92 ⟨rfl, trivial⟩ ?_
  rintro _ _ ⟨a2, cap2, rfl, rfl⟩
  simp only [sep_assoc']
  refine W.len rfl rfl rfl rfl rfl ?_
  (repeat (first | refine W.ctl rfl ?_ | refine W.op rfl rfl rfl rfl ?_ | refine W.skip rfl rfl ?_ | refine W.fld rfl rfl rfl rfl rfl ?_ | refine W.ld rfl rfl rfl rfl rfl ?_))
  refine W.loop (σ := Nat) (fun i => i ≤ S.given.length) (fun i => [(0, ptr p), (1, int root), (5, ptr hb), (51, sv a2 S.given.length cap2), (52, int S.given.length), (53, int i)]) (fun i => row hb 150 [int (S.gen + 1), int root, str (M.withs false ((M.sorted S.given).take i) (M.withs true (M.sorted S.fresh) S.used))] • slck 1 3 (sv a2 S.given.length cap2) S.given.length ((M.sorted S.given).map int) • row p 153 [ptr dp, int S.gen, int S.root, str S.used, .map (some fb), .map (some gb), .bool S.down] • DiskP dp S.d • mapI .i64 fb (mset S.fresh) • mapI .i64 gb (mset S.given) • R) (fun i => S.given.length - i) 0 (Nat.zero_le _) ⟨rfl, rfl, rfl, rfl, rfl, rfl, trivial⟩ (by simp only [List.take_zero, withs_nil]; exact Imp.all) ?_
  rintro i hi
  (repeat (first | refine W.ctl rfl ?_ | refine W.op rfl rfl rfl rfl ?_ | refine W.skip rfl rfl ?_ | refine W.fld rfl rfl rfl rfl rfl ?_ | refine W.ld rfl rfl rfl rfl rfl ?_))
  by_cases h : (i : Int) < S.given.length
  · refine W.yes rfl rfl rfl rfl h ?_
    (repeat (first | refine W.ctl rfl ?_ | refine W.op rfl rfl rfl rfl ?_ | refine W.skip rfl rfl ?_ | refine W.fld rfl rfl rfl rfl rfl ?_ | refine W.ld rfl rfl rfl rfl rfl ?_))
    have hlt : i < (M.sorted S.given).length := by rw [sorted_len]; omega
    have hm := hr.gr _ (sorted_mem (List.getElem_mem hlt))
    refine W.idxk rfl rfl rfl rfl rfl rfl (by omega) (by omega) ?_
    refine W.ldk (v := int (M.sorted S.given)[i]) rfl rfl rfl rfl rfl (by simp [List.getElem?_eq_getElem hlt]) ?_
    (repeat (first | refine W.ctl rfl ?_ | refine W.op rfl rfl rfl rfl ?_ | refine W.skip rfl rfl ?_ | refine W.fld rfl rfl rfl rfl rfl ?_ | refine W.ld rfl rfl rfl rfl rfl ?_))
    refine W.call (bits_With (M.withs false ((M.sorted S.given).take i) (M.withs true (M.sorted S.fresh) S.used)) (M.sorted S.given)[i] false (by simp only [withs_len]; omega) hm.1 (by omega)) rfl rfl rfl rfl Tryz.call94 ⟨rfl, rfl, rfl, trivial⟩ ?_
    rintro _ _ ⟨rfl, rfl⟩
    rw [emp_sep, ← withs_take _ _ _ _ hlt]
    (repeat (first | refine W.ctl rfl ?_ | refine W.op rfl rfl rfl rfl ?_ | refine W.skip rfl rfl ?_ | refine W.fld rfl rfl rfl rfl rfl ?_ | refine W.ld rfl rfl rfl rfl rfl ?_))
    refine W.st rfl rfl rfl rfl rfl ?_
    (repeat (first | refine W.ctl rfl ?_ | refine W.op rfl rfl rfl rfl ?_ | refine W.skip rfl rfl ?_ | refine W.fld rfl rfl rfl rfl rfl ?_ | refine W.ld rfl rfl rfl rfl rfl ?_))
    refine W.ar (r := (i : Int) + 1) rfl rfl rfl rfl rfl rfl rfl (wrap_i64 (by omega) (by omega)) ?_
    rw [show (i : Int) + 1 = ((i + 1 : Nat) : Int) by omega]
    (repeat (first | refine W.ctl rfl ?_ | refine W.op rfl rfl rfl rfl ?_ | refine W.skip rfl rfl ?_ | refine W.fld rfl rfl rfl rfl rfl ?_ | refine W.ld rfl rfl rfl rfl rfl ?_))
    exact W.again (i + 1) (by omega) (by omega) ⟨rfl, rfl, rfl, rfl, rfl, rfl, trivial⟩ Imp.all
  refine W.no rfl rfl rfl rfl h ?_
  obtain rfl : i = S.given.length := by omega
  rw [List.take_of_length_le (Nat.le_of_eq (sorted_len _))]
  have hnl : S.next.length = S.used.length := by rw [Store.next, withs_len, withs_len]
  have e0 : S.commit root = if root ≠ 0 ∧ M.has S.next root = false then (S, 1) else if S.gen + 1 > 281474976710655 then (S, 6) else S.laid root := by rw [Store.commit, if_neg (by simp [hd])]
  rw [show M.withs false (M.sorted S.given) (M.withs true (M.sorted S.fresh) S.used) = S.next from rfl]
  (repeat (first | refine W.ctl rfl ?_ | refine W.op rfl rfl rfl rfl ?_ | refine W.skip rfl rfl ?_ | refine W.fld rfl rfl rfl rfl rfl ?_ | refine W.ld rfl rfl rfl rfl rfl ?_))
  by_cases h0 : root ≠ 0
  · refine W.yes rfl rfl rfl rfl h0 ?_
    (repeat (first | refine W.ctl rfl ?_ | refine W.op rfl rfl rfl rfl ?_ | refine W.skip rfl rfl ?_ | refine W.fld rfl rfl rfl rfl rfl ?_ | refine W.ld rfl rfl rfl rfl rfl ?_))
    refine W.call (bits_Has S.next root (by omega) (by omega) (by omega)) rfl rfl rfl rfl Tryz.call95 ⟨rfl, rfl, trivial⟩ ?_
    rintro _ _ ⟨rfl, rfl⟩
    rw [emp_sep]
    cases hx : M.has S.next root with
    | false =>
      (repeat (first | refine W.ctl rfl ?_ | refine W.op rfl rfl rfl rfl ?_ | refine W.skip rfl rfl ?_ | refine W.fld rfl rfl rfl rfl rfl ?_ | refine W.ld rfl rfl rfl rfl rfl ?_))
      rw [e0, if_pos ⟨h0, hx⟩]
      exact W.ret1 (.inr rfl) rfl rfl (StoreP p dp S) ⟨rfl, rfl⟩ (Imp.pack (StoreP.mk (fb, gb) hS) Imp.all)
    | true =>
      have hcom : S.commit root = if S.gen + 1 > 281474976710655 then (S, 6) else S.laid root := by rw [e0, if_neg (by rintro ⟨_, h⟩; rw [hx] at h; cases h)]
      (repeat (first | refine W.ctl rfl ?_ | refine W.op rfl rfl rfl rfl ?_ | refine W.skip rfl rfl ?_ | refine W.fld rfl rfl rfl rfl rfl ?_ | refine W.ld rfl rfl rfl rfl rfl ?_))
      by_cases h2 : (281474976710655 : Int) < S.gen + 1
      · refine W.yes rfl rfl rfl rfl h2 ?_
        (repeat (first | refine W.ctl rfl ?_ | refine W.op rfl rfl rfl rfl ?_ | refine W.skip rfl rfl ?_ | refine W.fld rfl rfl rfl rfl rfl ?_ | refine W.ld rfl rfl rfl rfl rfl ?_))
        rw [hcom, if_pos (by omega)]
        exact W.ret1 (.inr rfl) rfl rfl (StoreP p dp S) ⟨rfl, rfl⟩ (Imp.pack (StoreP.mk (fb, gb) hS) Imp.all)
      refine W.no rfl rfl rfl rfl h2 ?_
      rw [if_neg (by omega)] at hcom
      (repeat (first | refine W.ctl rfl ?_ | refine W.op rfl rfl rfl rfl ?_ | refine W.skip rfl rfl ?_ | refine W.fld rfl rfl rfl rfl rfl ?_ | refine W.ld rfl rfl rfl rfl rfl ?_))
      refine W.call (disk_Sync dp S.d) rfl rfl rfl rfl Tryz.call97 ⟨rfl, trivial⟩ ?_
      rintro _ _ ⟨rfl, rfl⟩
      have hS1 : StoreOk { S with d := S.d.sync.1 } := ⟨M.sync_ok hS.disk, hS.gen0, hS.gen1, hS.root0, hS.root1, hS.used⟩
      refine W.imp (H' := StoreP p dp { S with d := S.d.sync.1 } • row hb 150 [int (S.gen + 1), int root, str S.next] • R) rfl (Imp.pack (StoreP.mk (fb, gb) hS1) Imp.all) ?_
      refine W.call (shadow_told p dp { S with d := S.d.sync.1 } S.d.sync.2) rfl rfl rfl rfl Tryz.call96 ⟨rfl, rfl, trivial⟩ ?_
      rintro _ _ ⟨rfl, rfl⟩
      obtain ⟨S1, e1⟩ : ∃ S1, ({ S with d := S.d.sync.1 } : Store).told S.d.sync.2 = S1 := ⟨_, rfl⟩
      have ok1 : StoreOk S1 := e1 ▸ told_ok hS1 _
      have g1 : S1.gen = S.gen := by rw [← e1]; rfl
      obtain ⟨S2, e2⟩ : ∃ S2, ({ S1 with d := (M.headLay S1.d (S.gen + 1) root S.next).1 } : Store).told (M.headLay S1.d (S.gen + 1) root S.next).2 = S2 := ⟨_, rfl⟩
      have hlaid : S.laid root = if S.d.sync.2 ≠ 0 then (S1, S.d.sync.2) else if (M.headLay S1.d (S.gen + 1) root S.next).2 ≠ 0 then (S2, (M.headLay S1.d (S.gen + 1) root S.next).2) else (({ S2 with gen := S.gen + 1, root := root, used := S.next } : Store).rollback, 0) := by
        rw [← e2, ← e1]; rfl
      rw [e1]
      (repeat (first | refine W.ctl rfl ?_ | refine W.op rfl rfl rfl rfl ?_ | refine W.skip rfl rfl ?_ | refine W.fld rfl rfl rfl rfl rfl ?_ | refine W.ld rfl rfl rfl rfl rfl ?_))
      by_cases h3 : S.d.sync.2 ≠ 0
      · refine W.yes rfl rfl rfl rfl h3 ?_
        (repeat (first | refine W.ctl rfl ?_ | refine W.op rfl rfl rfl rfl ?_ | refine W.skip rfl rfl ?_ | refine W.fld rfl rfl rfl rfl rfl ?_ | refine W.ld rfl rfl rfl rfl rfl ?_))
        rw [hcom, hlaid, if_pos h3]
        exact W.ret1 (.inr rfl) rfl rfl _ ⟨rfl, rfl⟩ Imp.all
      refine W.no rfl rfl rfl rfl h3 ?_
      rw [if_neg h3] at hlaid
      refine W.open (StoreP.opn p dp S1) rfl ?_
      rintro ⟨fb, gb⟩ _
      (repeat (first | refine W.ctl rfl ?_ | refine W.op rfl rfl rfl rfl ?_ | refine W.skip rfl rfl ?_ | refine W.fld rfl rfl rfl rfl rfl ?_ | refine W.ld rfl rfl rfl rfl rfl ?_))
      refine W.anyh (f := 3) (fun j => !Nat.beq j 7 && !Nat.beq j 8) [0, 1, 2, 3, 4, 5] (by kernel_rfl) (by kernel_rfl) (by kernel_rfl) (by kernel_rfl) rfl (row hb 150 [int (S.gen + 1), int root, str S.next] • row p 153 [ptr dp, int S1.gen, int S1.root, str S1.used, .map (some fb), .map (some gb), .bool S1.down]) Imp.all ?_
      (repeat (first | refine W.ctl rfl ?_ | refine W.op rfl rfl rfl rfl ?_ | refine W.skip rfl rfl ?_ | refine W.fld rfl rfl rfl rfl rfl ?_ | refine W.ld rfl rfl rfl rfl rfl ?_))
      refine W.lds rfl rfl rfl rfl rfl ?_
      (repeat (first | refine W.ctl rfl ?_ | refine W.op rfl rfl rfl rfl ?_ | refine W.skip rfl rfl ?_ | refine W.fld rfl rfl rfl rfl rfl ?_ | refine W.ld rfl rfl rfl rfl rfl ?_))
      refine W.tdn ?_
      refine W.ald1 6 (by kernel_rfl) rfl ?_
      refine W.call (head_lay dp S1.d (S.gen + 1) root S.next (by omega) (by omega) r0 (by omega) (by rw [hnl]; omega)) rfl rfl rfl rfl Tryz.call98 ⟨rfl, rfl, trivial⟩ ?_
      rintro _ _ ⟨rfl, rfl⟩
      refine W.aft Imp.all ?_
      refine W.ald1 7 (by kernel_rfl) rfl ?_
      have hdk : M.DiskOk (M.headLay S1.d (S.gen + 1) root S.next).1 := headLay_ok ok1.disk _ _ _
      have hS2 : StoreOk { S1 with d := (M.headLay S1.d (S.gen + 1) root S.next).1 } := ⟨hdk, ok1.gen0, ok1.gen1, ok1.root0, ok1.root1, ok1.used⟩
      refine W.imp (H' := StoreP p dp { S1 with d := (M.headLay S1.d (S.gen + 1) root S.next).1 } • row hb 150 [int (S.gen + 1), int root, str S.next] • R) rfl (Imp.pack (StoreP.mk (fb, gb) hS2) Imp.all) ?_
      refine W.call (shadow_told p dp { S1 with d := (M.headLay S1.d (S.gen + 1) root S.next).1 } (M.headLay S1.d (S.gen + 1) root S.next).2) rfl rfl rfl rfl Tryz.call96 ⟨rfl, rfl, trivial⟩ ?_
      rintro _ _ ⟨rfl, rfl⟩
      have ok2 : StoreOk S2 := e2 ▸ told_ok hS2 _
      rw [e2]
      refine W.afb ?_
      refine W.ald1 8 (by kernel_rfl) rfl ?_
      (repeat (first | refine W.ctl rfl ?_ | refine W.op rfl rfl rfl rfl ?_ | refine W.skip rfl rfl ?_ | refine W.fld rfl rfl rfl rfl rfl ?_ | refine W.ld rfl rfl rfl rfl rfl ?_))
      refine W.afb (W.adn (by kernel_rfl) ?_)
      (repeat (first | refine W.ctl rfl ?_ | refine W.op rfl rfl rfl rfl ?_ | refine W.skip rfl rfl ?_ | refine W.fld rfl rfl rfl rfl rfl ?_ | refine W.ld rfl rfl rfl rfl rfl ?_))
      by_cases h4 : (M.headLay S1.d (S.gen + 1) root S.next).2 ≠ 0
      · refine W.yes rfl rfl rfl rfl h4 ?_
        (repeat (first | refine W.ctl rfl ?_ | refine W.op rfl rfl rfl rfl ?_ | refine W.skip rfl rfl ?_ | refine W.fld rfl rfl rfl rfl rfl ?_ | refine W.ld rfl rfl rfl rfl rfl ?_))
        rw [hcom, hlaid, if_pos h4]
        exact W.ret1 (.inr rfl) rfl rfl _ ⟨rfl, rfl⟩ Imp.all
      refine W.no rfl rfl rfl rfl h4 ?_
      rw [if_neg h4] at hlaid
      refine W.open (StoreP.opn p dp S2) rfl ?_
      rintro ⟨fb, gb⟩ _
      (repeat (first | refine W.ctl rfl ?_ | refine W.op rfl rfl rfl rfl ?_ | refine W.skip rfl rfl ?_ | refine W.fld rfl rfl rfl rfl rfl ?_ | refine W.ld rfl rfl rfl rfl rfl ?_))
      refine W.lds rfl rfl rfl rfl rfl ?_
      (repeat (first | refine W.ctl rfl ?_ | refine W.op rfl rfl rfl rfl ?_ | refine W.skip rfl rfl ?_ | refine W.fld rfl rfl rfl rfl rfl ?_ | refine W.ld rfl rfl rfl rfl rfl ?_))
      refine W.sts rfl rfl rfl rfl rfl rfl ?_
      have hS3 : StoreOk { S2 with gen := S.gen + 1, root := root, used := S.next } := ⟨ok2.disk, by dsimp only; omega, by dsimp only; omega, r0, r1, by dsimp only; rw [hnl]; exact hu⟩
      refine W.imp (H' := StoreP p dp { S2 with gen := S.gen + 1, root := root, used := S.next } • R) rfl (Imp.pack (StoreP.mk (fb, gb) hS3) Imp.all) ?_
      (repeat (first | refine W.ctl rfl ?_ | refine W.op rfl rfl rfl rfl ?_ | refine W.skip rfl rfl ?_ | refine W.fld rfl rfl rfl rfl rfl ?_ | refine W.ld rfl rfl rfl rfl rfl ?_))
      refine W.call (store_Rollback p dp { S2 with gen := S.gen + 1, root := root, used := S.next }) rfl rfl rfl rfl Tryz.call46 ⟨rfl, trivial⟩ ?_
      rintro _ _ ⟨rfl, rfl⟩
      (repeat (first | refine W.ctl rfl ?_ | refine W.op rfl rfl rfl rfl ?_ | refine W.skip rfl rfl ?_ | refine W.fld rfl rfl rfl rfl rfl ?_ | refine W.ld rfl rfl rfl rfl rfl ?_))
      rw [hcom, hlaid]
      exact W.ret1 (.inr rfl) rfl rfl _ ⟨rfl, rfl⟩ Imp.all
  · refine W.no rfl rfl rfl rfl h0 ?_
    have hcom : S.commit root = if S.gen + 1 > 281474976710655 then (S, 6) else S.laid root := by rw [e0, if_neg (by rintro ⟨h, _⟩; exact h0 h)]
    (repeat (first | refine W.ctl rfl ?_ | refine W.op rfl rfl rfl rfl ?_ | refine W.skip rfl rfl ?_ | refine W.fld rfl rfl rfl rfl rfl ?_ | refine W.ld rfl rfl rfl rfl rfl ?_))
    by_cases h2 : (281474976710655 : Int) < S.gen + 1
    · refine W.yes rfl rfl rfl rfl h2 ?_
      (repeat (first | refine W.ctl rfl ?_ | refine W.op rfl rfl rfl rfl ?_ | refine W.skip rfl rfl ?_ | refine W.fld rfl rfl rfl rfl rfl ?_ | refine W.ld rfl rfl rfl rfl rfl ?_))
      rw [hcom, if_pos (by omega)]
      exact W.ret1 (.inr rfl) rfl rfl (StoreP p dp S) ⟨rfl, rfl⟩ (Imp.pack (StoreP.mk (fb, gb) hS) Imp.all)
    refine W.no rfl rfl rfl rfl h2 ?_
    rw [if_neg (by omega)] at hcom
    (repeat (first | refine W.ctl rfl ?_ | refine W.op rfl rfl rfl rfl ?_ | refine W.skip rfl rfl ?_ | refine W.fld rfl rfl rfl rfl rfl ?_ | refine W.ld rfl rfl rfl rfl rfl ?_))
    refine W.call (disk_Sync dp S.d) rfl rfl rfl rfl Tryz.call97 ⟨rfl, trivial⟩ ?_
    rintro _ _ ⟨rfl, rfl⟩
    have hS1 : StoreOk { S with d := S.d.sync.1 } := ⟨M.sync_ok hS.disk, hS.gen0, hS.gen1, hS.root0, hS.root1, hS.used⟩
    refine W.imp (H' := StoreP p dp { S with d := S.d.sync.1 } • row hb 150 [int (S.gen + 1), int root, str S.next] • R) rfl (Imp.pack (StoreP.mk (fb, gb) hS1) Imp.all) ?_
    refine W.call (shadow_told p dp { S with d := S.d.sync.1 } S.d.sync.2) rfl rfl rfl rfl Tryz.call96 ⟨rfl, rfl, trivial⟩ ?_
    rintro _ _ ⟨rfl, rfl⟩
    obtain ⟨S1, e1⟩ : ∃ S1, ({ S with d := S.d.sync.1 } : Store).told S.d.sync.2 = S1 := ⟨_, rfl⟩
    have ok1 : StoreOk S1 := e1 ▸ told_ok hS1 _
    have g1 : S1.gen = S.gen := by rw [← e1]; rfl
    obtain ⟨S2, e2⟩ : ∃ S2, ({ S1 with d := (M.headLay S1.d (S.gen + 1) root S.next).1 } : Store).told (M.headLay S1.d (S.gen + 1) root S.next).2 = S2 := ⟨_, rfl⟩
    have hlaid : S.laid root = if S.d.sync.2 ≠ 0 then (S1, S.d.sync.2) else if (M.headLay S1.d (S.gen + 1) root S.next).2 ≠ 0 then (S2, (M.headLay S1.d (S.gen + 1) root S.next).2) else (({ S2 with gen := S.gen + 1, root := root, used := S.next } : Store).rollback, 0) := by
      rw [← e2, ← e1]; rfl
    rw [e1]
    (repeat (first | refine W.ctl rfl ?_ | refine W.op rfl rfl rfl rfl ?_ | refine W.skip rfl rfl ?_ | refine W.fld rfl rfl rfl rfl rfl ?_ | refine W.ld rfl rfl rfl rfl rfl ?_))
    by_cases h3 : S.d.sync.2 ≠ 0
    · refine W.yes rfl rfl rfl rfl h3 ?_
      (repeat (first | refine W.ctl rfl ?_ | refine W.op rfl rfl rfl rfl ?_ | refine W.skip rfl rfl ?_ | refine W.fld rfl rfl rfl rfl rfl ?_ | refine W.ld rfl rfl rfl rfl rfl ?_))
      rw [hcom, hlaid, if_pos h3]
      exact W.ret1 (.inr rfl) rfl rfl _ ⟨rfl, rfl⟩ Imp.all
    refine W.no rfl rfl rfl rfl h3 ?_
    rw [if_neg h3] at hlaid
    refine W.open (StoreP.opn p dp S1) rfl ?_
    rintro ⟨fb, gb⟩ _
    (repeat (first | refine W.ctl rfl ?_ | refine W.op rfl rfl rfl rfl ?_ | refine W.skip rfl rfl ?_ | refine W.fld rfl rfl rfl rfl rfl ?_ | refine W.ld rfl rfl rfl rfl rfl ?_))
    refine W.anyh (f := 3) (fun j => !Nat.beq j 7 && !Nat.beq j 8) [0, 1, 2, 3, 4, 5] (by kernel_rfl) (by kernel_rfl) (by kernel_rfl) (by kernel_rfl) rfl (row hb 150 [int (S.gen + 1), int root, str S.next] • row p 153 [ptr dp, int S1.gen, int S1.root, str S1.used, .map (some fb), .map (some gb), .bool S1.down]) Imp.all ?_
    (repeat (first | refine W.ctl rfl ?_ | refine W.op rfl rfl rfl rfl ?_ | refine W.skip rfl rfl ?_ | refine W.fld rfl rfl rfl rfl rfl ?_ | refine W.ld rfl rfl rfl rfl rfl ?_))
    refine W.lds rfl rfl rfl rfl rfl ?_
    (repeat (first | refine W.ctl rfl ?_ | refine W.op rfl rfl rfl rfl ?_ | refine W.skip rfl rfl ?_ | refine W.fld rfl rfl rfl rfl rfl ?_ | refine W.ld rfl rfl rfl rfl rfl ?_))
    refine W.tdn ?_
    refine W.ald1 6 (by kernel_rfl) rfl ?_
    refine W.call (head_lay dp S1.d (S.gen + 1) root S.next (by omega) (by omega) r0 (by omega) (by rw [hnl]; omega)) rfl rfl rfl rfl Tryz.call98 ⟨rfl, rfl, trivial⟩ ?_
    rintro _ _ ⟨rfl, rfl⟩
    refine W.aft Imp.all ?_
    refine W.ald1 7 (by kernel_rfl) rfl ?_
    have hdk : M.DiskOk (M.headLay S1.d (S.gen + 1) root S.next).1 := headLay_ok ok1.disk _ _ _
    have hS2 : StoreOk { S1 with d := (M.headLay S1.d (S.gen + 1) root S.next).1 } := ⟨hdk, ok1.gen0, ok1.gen1, ok1.root0, ok1.root1, ok1.used⟩
    refine W.imp (H' := StoreP p dp { S1 with d := (M.headLay S1.d (S.gen + 1) root S.next).1 } • row hb 150 [int (S.gen + 1), int root, str S.next] • R) rfl (Imp.pack (StoreP.mk (fb, gb) hS2) Imp.all) ?_
    refine W.call (shadow_told p dp { S1 with d := (M.headLay S1.d (S.gen + 1) root S.next).1 } (M.headLay S1.d (S.gen + 1) root S.next).2) rfl rfl rfl rfl Tryz.call96 ⟨rfl, rfl, trivial⟩ ?_
    rintro _ _ ⟨rfl, rfl⟩
    have ok2 : StoreOk S2 := e2 ▸ told_ok hS2 _
    rw [e2]
    refine W.afb ?_
    refine W.ald1 8 (by kernel_rfl) rfl ?_
    (repeat (first | refine W.ctl rfl ?_ | refine W.op rfl rfl rfl rfl ?_ | refine W.skip rfl rfl ?_ | refine W.fld rfl rfl rfl rfl rfl ?_ | refine W.ld rfl rfl rfl rfl rfl ?_))
    refine W.afb (W.adn (by kernel_rfl) ?_)
    (repeat (first | refine W.ctl rfl ?_ | refine W.op rfl rfl rfl rfl ?_ | refine W.skip rfl rfl ?_ | refine W.fld rfl rfl rfl rfl rfl ?_ | refine W.ld rfl rfl rfl rfl rfl ?_))
    by_cases h4 : (M.headLay S1.d (S.gen + 1) root S.next).2 ≠ 0
    · refine W.yes rfl rfl rfl rfl h4 ?_
      (repeat (first | refine W.ctl rfl ?_ | refine W.op rfl rfl rfl rfl ?_ | refine W.skip rfl rfl ?_ | refine W.fld rfl rfl rfl rfl rfl ?_ | refine W.ld rfl rfl rfl rfl rfl ?_))
      rw [hcom, hlaid, if_pos h4]
      exact W.ret1 (.inr rfl) rfl rfl _ ⟨rfl, rfl⟩ Imp.all
    refine W.no rfl rfl rfl rfl h4 ?_
    rw [if_neg h4] at hlaid
    refine W.open (StoreP.opn p dp S2) rfl ?_
    rintro ⟨fb, gb⟩ _
    (repeat (first | refine W.ctl rfl ?_ | refine W.op rfl rfl rfl rfl ?_ | refine W.skip rfl rfl ?_ | refine W.fld rfl rfl rfl rfl rfl ?_ | refine W.ld rfl rfl rfl rfl rfl ?_))
    refine W.lds rfl rfl rfl rfl rfl ?_
    (repeat (first | refine W.ctl rfl ?_ | refine W.op rfl rfl rfl rfl ?_ | refine W.skip rfl rfl ?_ | refine W.fld rfl rfl rfl rfl rfl ?_ | refine W.ld rfl rfl rfl rfl rfl ?_))
    refine W.sts rfl rfl rfl rfl rfl rfl ?_
    have hS3 : StoreOk { S2 with gen := S.gen + 1, root := root, used := S.next } := ⟨ok2.disk, by dsimp only; omega, by dsimp only; omega, r0, r1, by dsimp only; rw [hnl]; exact hu⟩
    refine W.imp (H' := StoreP p dp { S2 with gen := S.gen + 1, root := root, used := S.next } • R) rfl (Imp.pack (StoreP.mk (fb, gb) hS3) Imp.all) ?_
    (repeat (first | refine W.ctl rfl ?_ | refine W.op rfl rfl rfl rfl ?_ | refine W.skip rfl rfl ?_ | refine W.fld rfl rfl rfl rfl rfl ?_ | refine W.ld rfl rfl rfl rfl rfl ?_))
    refine W.call (store_Rollback p dp { S2 with gen := S.gen + 1, root := root, used := S.next }) rfl rfl rfl rfl Tryz.call46 ⟨rfl, trivial⟩ ?_
    rintro _ _ ⟨rfl, rfl⟩
    (repeat (first | refine W.ctl rfl ?_ | refine W.op rfl rfl rfl rfl ?_ | refine W.skip rfl rfl ?_ | refine W.fld rfl rfl rfl rfl rfl ?_ | refine W.ld rfl rfl rfl rfl rfl ?_))
    rw [hcom, hlaid]
    exact W.ret1 (.inr rfl) rfl rfl _ ⟨rfl, rfl⟩ Imp.all
end Go.Proofs.YtbdhhedfplkidaaGreat
/- Transactions end. -/
namespace Go.Proofs.YtbdhhedfplkidaaGreat
open Go
open M (Str Store Work Spot Txn)
set_option maxHeartbeats 1000000
set_option maxRecDepth 2000
theorem txn_Over (tp sp : Nat) (root e : Int) (ov : Bool) : CS 51 [ptr tp] (TxnR tp sp root e ov) fun v H' => v = .bool ov ∧ H' = TxnR tp sp root e ov := by
  refine CS.walk Tryz.func51 rfl Tryz.ntmps51 rfl fun c R => ?_
  (repeat (first | refine W.ctl rfl ?_ | refine W.op rfl rfl rfl rfl ?_ | refine W.skip rfl rfl ?_ | refine W.fld rfl rfl rfl rfl rfl ?_ | refine W.ld rfl rfl rfl rfl rfl ?_))
  exact W.ret1 (.inr rfl) rfl rfl _ ⟨rfl, rfl⟩ Imp.all
theorem txn_Drop (tp sp dp : Nat) (T : Txn) : CS 42 [ptr tp] (TxnH tp sp dp T) fun v H' => v = .tuple #[] ∧ H' = TxnH tp sp dp T.drop := by
  refine CS.walk Tryz.func42 rfl Tryz.ntmps42 rfl fun c R => ?_
  simp only [sep_assoc']
  obtain ⟨S, root, e, ov⟩ := T
  cases ov with
  | true =>
    (repeat (first | refine W.ctl rfl ?_ | refine W.op rfl rfl rfl rfl ?_ | refine W.skip rfl rfl ?_ | refine W.fld rfl rfl rfl rfl rfl ?_ | refine W.ld rfl rfl rfl rfl rfl ?_))
    have e0 : Txn.drop ⟨S, root, e, true⟩ = ⟨S, root, e, true⟩ := by simp [Txn.drop]
    rw [e0]
    refine W.ret0 (.inl rfl) rfl _ ⟨rfl, rfl⟩ ?_
    simp only [sep_assoc']
    exact Imp.all
  | false =>
    (repeat (first | refine W.ctl rfl ?_ | refine W.op rfl rfl rfl rfl ?_ | refine W.skip rfl rfl ?_ | refine W.fld rfl rfl rfl rfl rfl ?_ | refine W.ld rfl rfl rfl rfl rfl ?_))
    refine W.st rfl rfl rfl rfl rfl ?_
    (repeat (first | refine W.ctl rfl ?_ | refine W.op rfl rfl rfl rfl ?_ | refine W.skip rfl rfl ?_ | refine W.fld rfl rfl rfl rfl rfl ?_ | refine W.ld rfl rfl rfl rfl rfl ?_))
    refine W.call (store_Rollback sp dp S) rfl rfl rfl rfl Tryz.call46 ⟨rfl, trivial⟩ ?_
    rintro _ _ ⟨rfl, rfl⟩
    (repeat (first | refine W.ctl rfl ?_ | refine W.op rfl rfl rfl rfl ?_ | refine W.skip rfl rfl ?_ | refine W.fld rfl rfl rfl rfl rfl ?_ | refine W.ld rfl rfl rfl rfl rfl ?_))
    have e0 : Txn.drop ⟨S, root, e, false⟩ = ⟨S.rollback, root, e, true⟩ := by simp [Txn.drop]
    rw [e0]
    refine W.ret0 (.inl rfl) rfl _ ⟨rfl, rfl⟩ ?_
    simp only [sep_assoc']
    exact Imp.all
theorem txn_Commit (tp sp dp : Nat) (T : Txn) (r0 : 0 ≤ T.root) (r1 : T.root < 640) (hr : Rgs T.s) : CS 40 [ptr tp] (TxnH tp sp dp T) fun v H' => v = int T.commit.2 ∧ H' = TxnH tp sp dp T.commit.1 := by
  refine CS.walk Tryz.func40 rfl Tryz.ntmps40 rfl fun c R => ?_
  simp only [sep_assoc']
  obtain ⟨S, root, e, ov⟩ := T
  dsimp only at r0 r1 hr
  cases ov with
  | true =>
    (repeat (first | refine W.ctl rfl ?_ | refine W.op rfl rfl rfl rfl ?_ | refine W.skip rfl rfl ?_ | refine W.fld rfl rfl rfl rfl rfl ?_ | refine W.ld rfl rfl rfl rfl rfl ?_))
    have e0 : Txn.commit ⟨S, root, e, true⟩ = (⟨S, root, e, true⟩, 6) := by simp [Txn.commit]
    rw [e0]
    refine W.ret1 (.inr rfl) rfl rfl _ ⟨rfl, rfl⟩ ?_
    simp only [sep_assoc']
    exact Imp.all
  | false =>
    (repeat (first | refine W.ctl rfl ?_ | refine W.op rfl rfl rfl rfl ?_ | refine W.skip rfl rfl ?_ | refine W.fld rfl rfl rfl rfl rfl ?_ | refine W.ld rfl rfl rfl rfl rfl ?_))
    by_cases he : e ≠ 0
    · refine W.yes rfl rfl rfl rfl he ?_
      (repeat (first | refine W.ctl rfl ?_ | refine W.op rfl rfl rfl rfl ?_ | refine W.skip rfl rfl ?_ | refine W.fld rfl rfl rfl rfl rfl ?_ | refine W.ld rfl rfl rfl rfl rfl ?_))
      refine W.call (txn_Drop tp sp dp ⟨S, root, e, false⟩) rfl rfl rfl rfl Tryz.call42 ⟨rfl, trivial⟩ ?_
      rintro _ _ ⟨rfl, rfl⟩
      have e0 : Txn.commit ⟨S, root, e, false⟩ = (Txn.drop ⟨S, root, e, false⟩, e) := by
        simp [Txn.commit, he]
      rw [e0]
      simp only [sep_assoc']
      (repeat (first | refine W.ctl rfl ?_ | refine W.op rfl rfl rfl rfl ?_ | refine W.skip rfl rfl ?_ | refine W.fld rfl rfl rfl rfl rfl ?_ | refine W.ld rfl rfl rfl rfl rfl ?_))
      refine W.ret1 (.inr rfl) rfl rfl _ ⟨rfl, rfl⟩ ?_
      simp only [sep_assoc']
      exact Imp.all
    refine W.no rfl rfl rfl rfl he ?_
    have e0 : Txn.commit ⟨S, root, e, false⟩ = (⟨if (S.commit root).2 ≠ 0 then (S.commit root).1.rollback else (S.commit root).1, root, e, true⟩, (S.commit root).2) := by
      simp [Txn.commit, he]
    rw [e0]
    (repeat (first | refine W.ctl rfl ?_ | refine W.op rfl rfl rfl rfl ?_ | refine W.skip rfl rfl ?_ | refine W.fld rfl rfl rfl rfl rfl ?_ | refine W.ld rfl rfl rfl rfl rfl ?_))
    refine W.st rfl rfl rfl rfl rfl ?_
    (repeat (first | refine W.ctl rfl ?_ | refine W.op rfl rfl rfl rfl ?_ | refine W.skip rfl rfl ?_ | refine W.fld rfl rfl rfl rfl rfl ?_ | refine W.ld rfl rfl rfl rfl rfl ?_))
    refine W.anyq (f := 2) (fun j => !Nat.beq j 8 && !Nat.beq j 9) [0, 1, 2, 3, 4, 5, 6, 7] (by kernel_rfl) (by kernel_rfl) (by kernel_rfl) (by kernel_rfl) rfl ?_
    (repeat (first | refine W.ctl rfl ?_ | refine W.op rfl rfl rfl rfl ?_ | refine W.skip rfl rfl ?_ | refine W.fld rfl rfl rfl rfl rfl ?_ | refine W.ld rfl rfl rfl rfl rfl ?_))
    refine W.tdn ?_
    refine W.ald1 8 (by kernel_rfl) rfl ?_
    refine W.call (store_Commit sp dp S root r0 r1 hr) rfl rfl rfl rfl Tryz.call44 ⟨rfl, rfl, trivial⟩ ?_
    rintro _ _ ⟨rfl, rfl⟩
    refine W.afb ?_
    refine W.ald1 9 (by kernel_rfl) rfl ?_
    (repeat (first | refine W.ctl rfl ?_ | refine W.op rfl rfl rfl rfl ?_ | refine W.skip rfl rfl ?_ | refine W.fld rfl rfl rfl rfl rfl ?_ | refine W.ld rfl rfl rfl rfl rfl ?_))
    refine W.afb (W.adn (by kernel_rfl) ?_)
    (repeat (first | refine W.ctl rfl ?_ | refine W.op rfl rfl rfl rfl ?_ | refine W.skip rfl rfl ?_ | refine W.fld rfl rfl rfl rfl rfl ?_ | refine W.ld rfl rfl rfl rfl rfl ?_))
    by_cases h : (S.commit root).2 ≠ 0
    · refine W.yes rfl rfl rfl rfl h ?_
      (repeat (first | refine W.ctl rfl ?_ | refine W.op rfl rfl rfl rfl ?_ | refine W.skip rfl rfl ?_ | refine W.fld rfl rfl rfl rfl rfl ?_ | refine W.ld rfl rfl rfl rfl rfl ?_))
      refine W.call (store_Rollback sp dp (S.commit root).1) rfl rfl rfl rfl Tryz.call46 ⟨rfl, trivial⟩ ?_
      rintro _ _ ⟨rfl, rfl⟩
      (repeat (first | refine W.ctl rfl ?_ | refine W.op rfl rfl rfl rfl ?_ | refine W.skip rfl rfl ?_ | refine W.fld rfl rfl rfl rfl rfl ?_ | refine W.ld rfl rfl rfl rfl rfl ?_))
      rw [if_pos h]
      refine W.ret1 (.inr rfl) rfl rfl _ ⟨rfl, rfl⟩ ?_
      simp only [sep_assoc']
      exact Imp.all
    · refine W.no rfl rfl rfl rfl h ?_
      (repeat (first | refine W.ctl rfl ?_ | refine W.op rfl rfl rfl rfl ?_ | refine W.skip rfl rfl ?_ | refine W.fld rfl rfl rfl rfl rfl ?_ | refine W.ld rfl rfl rfl rfl rfl ?_))
      rw [if_neg h]
      refine W.ret1 (.inr rfl) rfl rfl _ ⟨rfl, rfl⟩ ?_
      simp only [sep_assoc']
      exact Imp.all
theorem rgs_good {S : Store} (g : Good S) : Rgs S := by
  have hm := g.most
  have h1 : S.fresh.length ≤ 640 := M.nodup_lt 640 S.fresh g.nd (fun x hx => by have := g.rng x hx; omega)
  have hr : ∀ n ∈ S.given, 0 ≤ n ∧ n < 640 := fun n hn => by
    have := has_range (g.giv n hn); have := g.len; omega
  exact ⟨h1, fun n hn => by have := g.rng n hn; omega, M.nodup_lt 640 S.given g.gnd (fun x hx => by have := hr x hx; omega), hr⟩
end Go.Proofs.YtbdhhedfplkidaaGreat
/- Law 12: its beginnings. -/
namespace Go.Proofs.YtbdhhedfplkidaaGreat
open Go
open M (Str Store Work Spot Txn)
set_option maxHeartbeats 1000000
set_option maxRecDepth 2000
theorem law12_made (n : Nat) (h8 : 8 ≤ n) (h640 : n ≤ 640) : CS 35 [int n] emp fun v H' => ∃ dp sp S, (v = .tuple #[ptr dp, ptr sp] ∧ Fm n S) ∧ H' = StoreP sp dp S := by
  refine CS.walk Tryz.func35 rfl Tryz.ntmps35 rfl fun c R => ?_
  rw [emp_sep]
  obtain ⟨f1, f2, f3⟩ := format_fm n h8 h640
  (repeat (first | refine W.ctl rfl ?_ | refine W.op rfl rfl rfl rfl ?_ | refine W.skip rfl rfl ?_ | refine W.fld rfl rfl rfl rfl rfl ?_ | refine W.ld rfl rfl rfl rfl rfl ?_))
  refine W.call (disk_New n h8 h640) rfl rfl rfl rfl Tryz.call52 ⟨rfl, trivial⟩ ?_
  rintro _ _ ⟨dp, rfl, rfl⟩
  (repeat (first | refine W.ctl rfl ?_ | refine W.op rfl rfl rfl rfl ?_ | refine W.skip rfl rfl ?_ | refine W.fld rfl rfl rfl rfl rfl ?_ | refine W.ld rfl rfl rfl rfl rfl ?_))
  refine W.peq rfl rfl rfl rfl rfl rfl ?_
  (repeat (first | refine W.ctl rfl ?_ | refine W.op rfl rfl rfl rfl ?_ | refine W.skip rfl rfl ?_ | refine W.fld rfl rfl rfl rfl rfl ?_ | refine W.ld rfl rfl rfl rfl rfl ?_))
  refine W.no rfl rfl rfl rfl (by simp) ?_
  (repeat (first | refine W.ctl rfl ?_ | refine W.op rfl rfl rfl rfl ?_ | refine W.skip rfl rfl ?_ | refine W.fld rfl rfl rfl rfl rfl ?_ | refine W.ld rfl rfl rfl rfl rfl ?_))
  refine W.call (shadow_Format dp (M.Disk.new n) f1) rfl rfl rfl rfl Tryz.call53 ⟨rfl, trivial⟩ ?_
  rintro _ _ ⟨sp, rfl, rfl⟩
  (repeat (first | refine W.ctl rfl ?_ | refine W.op rfl rfl rfl rfl ?_ | refine W.skip rfl rfl ?_ | refine W.fld rfl rfl rfl rfl rfl ?_ | refine W.ld rfl rfl rfl rfl rfl ?_))
  refine W.peq rfl rfl rfl rfl rfl rfl ?_
  (repeat (first | refine W.ctl rfl ?_ | refine W.op rfl rfl rfl rfl ?_ | refine W.skip rfl rfl ?_ | refine W.fld rfl rfl rfl rfl rfl ?_ | refine W.ld rfl rfl rfl rfl rfl ?_))
  refine W.no rfl rfl rfl rfl (by simp) ?_
  (repeat (first | refine W.ctl rfl ?_ | refine W.op rfl rfl rfl rfl ?_ | refine W.skip rfl rfl ?_ | refine W.fld rfl rfl rfl rfl rfl ?_ | refine W.ld rfl rfl rfl rfl rfl ?_))
  exact W.ret2 (.inr rfl) rfl rfl rfl _ ⟨dp, sp, _, ⟨rfl, f2⟩, rfl⟩ Imp.all
theorem law12_examples : CS 34 [] emp fun v H' => v = .bool true ∧ H' = emp := by
  refine CS.walk Tryz.func34 rfl Tryz.ntmps34 rfl fun c R => ?_
  rw [emp_sep]
  (repeat (first | refine W.ctl rfl ?_ | refine W.op rfl rfl rfl rfl ?_ | refine W.skip rfl rfl ?_ | refine W.fld rfl rfl rfl rfl rfl ?_ | refine W.ld rfl rfl rfl rfl rfl ?_))
  refine W.call (law12_made 20 (by omega) (by omega)) rfl rfl rfl rfl Tryz.call35 ⟨rfl, trivial⟩ ?_
  rintro _ _ ⟨dp, sp, S, ⟨rfl, hS⟩, rfl⟩
  have t0 := tx0_begin hS (by omega) (by omega)
  (repeat (first | refine W.ctl rfl ?_ | refine W.op rfl rfl rfl rfl ?_ | refine W.skip rfl rfl ?_ | refine W.fld rfl rfl rfl rfl rfl ?_ | refine W.ld rfl rfl rfl rfl rfl ?_))
  refine W.peq rfl rfl rfl rfl rfl rfl ?_
  (repeat (first | refine W.ctl rfl ?_ | refine W.op rfl rfl rfl rfl ?_ | refine W.skip rfl rfl ?_ | refine W.fld rfl rfl rfl rfl rfl ?_ | refine W.ld rfl rfl rfl rfl rfl ?_))
  refine W.peq rfl rfl rfl rfl rfl rfl ?_
  (repeat (first | refine W.ctl rfl ?_ | refine W.op rfl rfl rfl rfl ?_ | refine W.skip rfl rfl ?_ | refine W.fld rfl rfl rfl rfl rfl ?_ | refine W.ld rfl rfl rfl rfl rfl ?_))
  refine W.call (txn_Begin sp dp S) rfl rfl rfl rfl Tryz.call36 ⟨rfl, trivial⟩ ?_
  rintro _ _ ⟨tp, rfl, rfl⟩
  obtain ⟨T, hT⟩ : ∃ T, Txn.begin S = T := ⟨_, rfl⟩
  rw [hT] at t0 ⊢
  have b0 := t0.ok.root
  obtain ⟨T2, e2, t2⟩ := tx0_put t0 (key := 5) (value := [102, 105, 118, 101]) (by omega) (by simp) (.inr ⟨rfl, by omega⟩) (by simp)
  have hp := txn_Put tp sp dp T 5 [102, 105, 118, 101] (by omega) (by omega) (by omega) (by simp)
  rw [e2] at hp
  (repeat (first | refine W.ctl rfl ?_ | refine W.op rfl rfl rfl rfl ?_ | refine W.skip rfl rfl ?_ | refine W.fld rfl rfl rfl rfl rfl ?_ | refine W.ld rfl rfl rfl rfl rfl ?_))
  refine W.call hp rfl rfl rfl rfl Tryz.call37 ⟨rfl, rfl, rfl, trivial⟩ ?_
  rintro _ _ ⟨rfl, rfl⟩
  have b2 := t2.ok.root
  have hg := txn_Get tp sp dp T2 5 (by omega) (by omega)
  rw [txnGet_spec t2.ok 5 (by simp [ins]), look_ins_same] at hg
  (repeat (first | refine W.ctl rfl ?_ | refine W.op rfl rfl rfl rfl ?_ | refine W.skip rfl rfl ?_ | refine W.fld rfl rfl rfl rfl rfl ?_ | refine W.ld rfl rfl rfl rfl rfl ?_))
  refine W.call hg rfl rfl rfl rfl Tryz.call39 ⟨rfl, rfl, trivial⟩ ?_
  rintro _ _ ⟨rfl, rfl⟩
  dsimp only [Option.getD_some, Option.isSome_some]
  obtain ⟨S3, e3, c3⟩ := txnCommit_spec t2.ok (by rw [t2.gen]; omega) (by rw [t2.gen]; omega)
  have hc := txn_Commit tp sp dp T2 b2.1 b2.2 (rgs_good t2.ok.good)
  rw [e3] at hc
  (repeat (first | refine W.ctl rfl ?_ | refine W.op rfl rfl rfl rfl ?_ | refine W.skip rfl rfl ?_ | refine W.fld rfl rfl rfl rfl rfl ?_ | refine W.ld rfl rfl rfl rfl rfl ?_))
  refine W.call hc rfl rfl rfl rfl Tryz.call40 ⟨rfl, trivial⟩ ?_
  rintro _ _ ⟨rfl, rfl⟩
  have e4 : Txn.commit ⟨S3, T2.root, 0, true⟩ = (⟨S3, T2.root, 0, true⟩, 6) := by simp [Txn.commit]
  have hc2 := txn_Commit tp sp dp ⟨S3, T2.root, 0, true⟩ b2.1 b2.2 (rgs_good c3.good)
  rw [e4] at hc2
  (repeat (first | refine W.ctl rfl ?_ | refine W.op rfl rfl rfl rfl ?_ | refine W.skip rfl rfl ?_ | refine W.fld rfl rfl rfl rfl rfl ?_ | refine W.ld rfl rfl rfl rfl rfl ?_))
  refine W.call hc2 rfl rfl rfl rfl Tryz.call40 ⟨rfl, trivial⟩ ?_
  rintro _ _ ⟨rfl, rfl⟩
  simp only [sep_assoc']
  (repeat (first | refine W.ctl rfl ?_ | refine W.op rfl rfl rfl rfl ?_ | refine W.skip rfl rfl ?_ | refine W.fld rfl rfl rfl rfl rfl ?_ | refine W.ld rfl rfl rfl rfl rfl ?_))
  refine W.seq (s := [102, 105, 118, 101]) (u := [102, 105, 118, 101]) rfl rfl rfl rfl rfl rfl ?_
  (repeat (first | refine W.ctl rfl ?_ | refine W.op rfl rfl rfl rfl ?_ | refine W.skip rfl rfl ?_ | refine W.fld rfl rfl rfl rfl rfl ?_ | refine W.ld rfl rfl rfl rfl rfl ?_))
  refine W.yes rfl rfl rfl rfl rfl ?_
  (repeat (first | refine W.ctl rfl ?_ | refine W.op rfl rfl rfl rfl ?_ | refine W.skip rfl rfl ?_ | refine W.fld rfl rfl rfl rfl rfl ?_ | refine W.ld rfl rfl rfl rfl rfl ?_))
  refine W.yes rfl rfl rfl rfl rfl ?_
  (repeat (first | refine W.ctl rfl ?_ | refine W.op rfl rfl rfl rfl ?_ | refine W.skip rfl rfl ?_ | refine W.fld rfl rfl rfl rfl rfl ?_ | refine W.ld rfl rfl rfl rfl rfl ?_))
  refine W.call (txn_Over tp sp T2.root 0 true) rfl rfl rfl rfl Tryz.call51 ⟨rfl, trivial⟩ ?_
  rintro _ _ ⟨rfl, rfl⟩
  (repeat (first | refine W.ctl rfl ?_ | refine W.op rfl rfl rfl rfl ?_ | refine W.skip rfl rfl ?_ | refine W.fld rfl rfl rfl rfl rfl ?_ | refine W.ld rfl rfl rfl rfl rfl ?_))
  exact W.ret1 (.inr rfl) rfl rfl _ ⟨rfl, rfl⟩ (by rw [emp_sep]; exact Imp.all)
end Go.Proofs.YtbdhhedfplkidaaGreat
/- What is handed in: a slice of numbers. -/
namespace Go.Proofs.YtbdhhedfplkidaaGreat
open Go Go.ChangeShapes Go.WideShapes Go.ChangeAt Go.RowKit
/-- A list of numbers that was handed in. -/
structure ArgK (W : World) (kd : IntKind) (lo hi : Int) (a : Option Addr) (len cap : Nat) (zs : List Int) : Prop where
  lc : len ≤ cap
  cm : cap ≤ maxLen
  cell : ∀ i, i < len → ∃ p z, a = some p ∧ zs[i]? = some z ∧ W.cell? (p.add i) = some (.int kd z) ∧ lo ≤ z ∧ z < hi
theorem argK_of {H : Type} {enc : TypeId × Value → H} {W : World} {base : Nat} {spare : Nat → Bool} {held : Bool} {t e : TypeId} {kd : IntKind} {a : Option Addr} {len cap : Nat} {d : DataW H} {p : List MemPlace}
    (ht : Tryz.prog.underlying t = some (.slice e)) (he : Tryz.prog.underlying e = some (.int kd)) (hc : Tryz.prog.cellsOf e = 1) {lo hi : Int} (hwf : ∀ z, (Lit.int kd z).wf = true → lo ≤ z ∧ z < hi)
    (h : DataW.Trod enc Tryz.prog W base spare held t (.slice a len cap) d p) : ∃ zs, ArgK W kd lo hi a len cap zs := by
  obtain ⟨fuel, hf⟩ := h
  rcases open_ints ht he hc hf with ⟨hcs, _⟩ | ⟨x, l, c, zs, hcs, _, hl, hm, hz, _, hcell, hwz⟩
  · simp [Value.cells] at hcs
    obtain ⟨rfl, rfl, rfl⟩ := hcs
    exact ⟨[], Nat.le_refl _, by simp [maxLen], fun i hi => by omega⟩
  · simp [Value.cells] at hcs
    obtain ⟨rfl, rfl, rfl⟩ := hcs
    have hlz : len ≤ zs.length := by rw [hz]; split <;> omega
    refine ⟨zs, hl, hm, fun i hi => ?_⟩
    have hi' : i < zs.length := by omega
    have hw := hwf _ (hwz zs[i] (List.getElem_mem hi'))
    have hc := hcell i hi'
    rw [List.getD_eq_getElem?_getD, List.getElem?_eq_getElem hi'] at hc
    exact ⟨x, zs[i], rfl, List.getElem?_eq_getElem hi', hc, hw.1, hw.2⟩
end Go.Proofs.YtbdhhedfplkidaaGreat
/- Law 12, a value that is too long: the walk. -/
namespace Go.Proofs.YtbdhhedfplkidaaGreat
open Go
open M (Str Store Work Spot Txn)
set_option maxHeartbeats 2000000
set_option maxRecDepth 2000
theorem law_TxnLong (W0 : World) (a : Option Addr) (len cap : Nat) (zs : List Int) (n : Int) (ha : ArgK W0 .u16 0 65536 a len cap zs) (hn : 0 ≤ n ∧ n < 256) : CS 9 [.slice a len cap, .int .u8 n] (oldH W0) fun v H' => v = .bool true ∧ H' = oldH W0 := by
  obtain ⟨long, rfl⟩ := Int.eq_ofNat_of_zero_le hn.1
  have hlong : long < 256 := by omega
  have hlen : len ≤ 9223372036854775807 := by have := ha.lc; have := ha.cm; simp only [maxLen] at this; omega
  refine CS.walk Tryz.func9 rfl Tryz.ntmps9 rfl fun c R => ?_
  (repeat (first | refine W.ctl rfl ?_ | refine W.op rfl rfl rfl rfl ?_ | refine W.skip rfl rfl ?_ | refine W.fld rfl rfl rfl rfl rfl ?_ | refine W.ld rfl rfl rfl rfl rfl ?_))
  refine W.call law12_examples rfl rfl rfl rfl Tryz.call34 trivial ?_
  rintro _ _ ⟨rfl, rfl⟩
  rw [emp_sep]
  (repeat (first | refine W.ctl rfl ?_ | refine W.op rfl rfl rfl rfl ?_ | refine W.skip rfl rfl ?_ | refine W.fld rfl rfl rfl rfl rfl ?_ | refine W.ld rfl rfl rfl rfl rfl ?_))
  refine W.call (law12_made 100 (by omega) (by omega)) rfl rfl rfl rfl Tryz.call35 ⟨rfl, trivial⟩ ?_
  rintro _ _ ⟨dp, sp, S, ⟨rfl, hS⟩, rfl⟩
  have t0 := tx0_begin hS (by omega) (by omega)
  (repeat (first | refine W.ctl rfl ?_ | refine W.op rfl rfl rfl rfl ?_ | refine W.skip rfl rfl ?_ | refine W.fld rfl rfl rfl rfl rfl ?_ | refine W.ld rfl rfl rfl rfl rfl ?_))
  refine W.peq rfl rfl rfl rfl rfl rfl ?_
  (repeat (first | refine W.ctl rfl ?_ | refine W.op rfl rfl rfl rfl ?_ | refine W.skip rfl rfl ?_ | refine W.fld rfl rfl rfl rfl rfl ?_ | refine W.ld rfl rfl rfl rfl rfl ?_))
  refine W.call (txn_Begin sp dp S) rfl rfl rfl rfl Tryz.call36 ⟨rfl, trivial⟩ ?_
  rintro _ _ ⟨tp, rfl, rfl⟩
  (repeat (first | refine W.ctl rfl ?_ | refine W.op rfl rfl rfl rfl ?_ | refine W.skip rfl rfl ?_ | refine W.fld rfl rfl rfl rfl rfl ?_ | refine W.ld rfl rfl rfl rfl rfl ?_))
  refine W.loop (σ := Nat × Txn × KV) (fun p => p.1 ≤ len ∧ p.1 ≤ 10 ∧ Tx0 100 p.2.1 p.2.2 ∧ p.2.2.length ≤ p.1) (fun p => [(0, .slice a len cap), (1, .int .u8 long), (5, .bool true), (8, ptr tp), (9, int p.1)])
    (fun p => TxnH tp sp dp p.2.1 • oldH W0 • R) (fun p => len - p.1) (0, Txn.begin S, []) ⟨Nat.zero_le _, Nat.zero_le _, t0, Nat.le_refl _⟩ ⟨rfl, rfl, rfl, rfl, rfl, trivial⟩ Imp.all ?_
  clear t0
  rintro ⟨i, T, kvs⟩ ⟨i1, i2, hT, i3⟩
  dsimp only at i1 i2 hT i3 ⊢
  have b0 := hT.ok.root
  (repeat (first | refine W.ctl rfl ?_ | refine W.op rfl rfl rfl rfl ?_ | refine W.skip rfl rfl ?_ | refine W.fld rfl rfl rfl rfl rfl ?_ | refine W.ld rfl rfl rfl rfl rfl ?_))
  refine W.len rfl rfl rfl rfl rfl ?_
  by_cases h1 : (i : Int) < len
  · refine W.yes rfl rfl rfl rfl h1 ?_
    (repeat (first | refine W.ctl rfl ?_ | refine W.op rfl rfl rfl rfl ?_ | refine W.skip rfl rfl ?_ | refine W.fld rfl rfl rfl rfl rfl ?_ | refine W.ld rfl rfl rfl rfl rfl ?_))
    by_cases h2 : (i : Int) < 10
    · refine W.yes rfl rfl rfl rfl h2 ?_
      (repeat (first | refine W.ctl rfl ?_ | refine W.op rfl rfl rfl rfl ?_ | refine W.skip rfl rfl ?_ | refine W.fld rfl rfl rfl rfl rfl ?_ | refine W.ld rfl rfl rfl rfl rfl ?_))
      obtain ⟨p, z, rfl, hz, hcell, z0, z1⟩ := ha.cell i (by omega)
      have hcell' : W0.cell? (p.add ((i : Int).toNat * 1)) = some (.int .u16 z) := by rw [Int.toNat_natCast, Nat.mul_one]; exact hcell
      obtain ⟨z, rfl⟩ := Int.eq_ofNat_of_zero_le z0
      refine W.anyh (f := 21) (fun _ => true) [0, 1, 2, 3, 4, 5] (by kernel_rfl) (by kernel_rfl) (by kernel_rfl) (by kernel_rfl) rfl (oldH W0) Imp.all ?_
      (repeat (first | refine W.ctl rfl ?_ | refine W.op rfl rfl rfl rfl ?_ | refine W.skip rfl rfl ?_ | refine W.fld rfl rfl rfl rfl rfl ?_ | refine W.ld rfl rfl rfl rfl rfl ?_))
      refine W.idxg rfl rfl rfl rfl rfl rfl (by omega) (by omega) ?_
      refine W.ldo W0 rfl rfl rfl rfl rfl hcell' ?_
      refine W.cv rfl rfl rfl rfl rfl (wrap_u64 (by omega) (by omega)) ?_
      refine W.tdn ?_
      obtain ⟨T2, e2, t2⟩ := tx0_put hT (key := z) (value := [120]) (by omega) (by simp) (.inl (by omega)) (by omega)
      have hp := txn_Put tp sp dp T z [120] (by omega) (by omega) (by omega) (by simp)
      rw [e2] at hp
      refine W.ald1 6 (by kernel_rfl) rfl ?_
      refine W.call hp rfl rfl rfl rfl Tryz.call37 ⟨rfl, rfl, rfl, trivial⟩ ?_
      rintro _ _ ⟨rfl, rfl⟩
      refine W.aft Imp.all ?_
      refine W.atk (f := 9) [7, 8, 9, 10, 11, 12, 13, 14, 15, 16, 17] (by kernel_rfl) (by kernel_rfl) (by kernel_rfl) rfl Imp.all ?_
      (repeat (first | refine W.ctl rfl ?_ | refine W.op rfl rfl rfl rfl ?_ | refine W.skip rfl rfl ?_ | refine W.fld rfl rfl rfl rfl rfl ?_ | refine W.ld rfl rfl rfl rfl rfl ?_))
      refine W.idxg rfl rfl rfl rfl rfl rfl (by omega) (by omega) ?_
      (repeat (first | refine W.ctl rfl ?_ | refine W.op rfl rfl rfl rfl ?_ | refine W.skip rfl rfl ?_))
      refine W.ldo W0 rfl rfl rfl rfl rfl hcell' ?_
      (repeat (first | refine W.ctl rfl ?_ | refine W.op rfl rfl rfl rfl ?_ | refine W.skip rfl rfl ?_))
      refine W.cv rfl rfl rfl rfl rfl (wrap_u64 (by omega) (by omega)) ?_
      (repeat (first | refine W.ctl rfl ?_ | refine W.op rfl rfl rfl rfl ?_ | refine W.skip rfl rfl ?_ | refine W.fld rfl rfl rfl rfl rfl ?_ | refine W.ld rfl rfl rfl rfl rfl ?_))
      refine W.cv rfl rfl rfl rfl rfl (wrap_i64 (by omega) (by omega)) ?_
      (repeat (first | refine W.ctl rfl ?_ | refine W.op rfl rfl rfl rfl ?_ | refine W.skip rfl rfl ?_))
      refine W.ar (r := ((41 + long : Nat) : Int)) rfl rfl rfl rfl rfl rfl (congrArg some (by omega)) (wrap_i64 (by omega) (by omega)) ?_
      refine W.tdn ?_
      refine W.ald1 18 (by kernel_rfl) rfl ?_
      (repeat (first | refine W.ctl rfl ?_ | refine W.op rfl rfl rfl rfl ?_ | refine W.skip rfl rfl ?_))
      refine W.mks (m := 41 + long) rfl rfl rfl rfl rfl rfl (by omega) (by omega) fun g => ?_
      rw [show List.replicate (41 + long) (Value.int .u8 0) = (List.replicate (41 + long) (0 : UInt8)).map u8 ++ [] by simp]
      refine W.aft Imp.all ?_
      refine W.ald1 19 (by kernel_rfl) rfl ?_
      (repeat (first | refine W.ctl rfl ?_ | refine W.op rfl rfl rfl rfl ?_ | refine W.skip rfl rfl ?_))
      refine W.b2s (u := List.replicate (41 + long) 0) rfl rfl rfl rfl (by rw [List.length_replicate]; rfl) ?_
      refine W.aft Imp.all ?_
      refine W.ald1 20 (by kernel_rfl) rfl ?_
      (repeat (first | refine W.ctl rfl ?_ | refine W.op rfl rfl rfl rfl ?_ | refine W.skip rfl rfl ?_))
      have b2 := t2.ok.root
      have hp2 := txn_Put tp sp dp T2 z (List.replicate (41 + long) 0) (by omega) (by omega) (by omega) (by simp; omega)
      rw [put_long z (by simp; omega)] at hp2
      refine W.call hp2 rfl rfl rfl rfl Tryz.call37 ⟨rfl, rfl, rfl, trivial⟩ ?_
      rintro _ _ ⟨rfl, rfl⟩
      refine W.aft Imp.all ?_
      refine W.atk (f := 3) [21, 22, 23] (by kernel_rfl) (by kernel_rfl) (by kernel_rfl) rfl Imp.all ?_
      (repeat (first | refine W.ctl rfl ?_ | refine W.op rfl rfl rfl rfl ?_ | refine W.skip rfl rfl ?_ | refine W.fld rfl rfl rfl rfl rfl ?_ | refine W.ld rfl rfl rfl rfl rfl ?_))
      refine W.tdn ?_
      refine W.ald1 24 (by kernel_rfl) rfl ?_
      (repeat (first | refine W.ctl rfl ?_ | refine W.op rfl rfl rfl rfl ?_ | refine W.skip rfl rfl ?_))
      simp only [sep_assoc']
      refine W.call (txn_Err tp sp T2.root T2.e T2.over) rfl rfl rfl rfl Tryz.call38 ⟨rfl, trivial⟩ ?_
      rintro _ _ ⟨rfl, rfl⟩
      refine W.aft Imp.all ?_
      refine W.atk (f := 0) [25, 26] (by kernel_rfl) (by kernel_rfl) (by kernel_rfl) rfl Imp.all ?_
      (repeat (first | refine W.ctl rfl ?_ | refine W.op rfl rfl rfl rfl ?_ | refine W.skip rfl rfl ?_ | refine W.fld rfl rfl rfl rfl rfl ?_ | refine W.ld rfl rfl rfl rfl rfl ?_))
      refine W.no rfl rfl rfl rfl (by simp [t2.ok.e]) ?_
      (repeat (first | refine W.ctl rfl ?_ | refine W.op rfl rfl rfl rfl ?_ | refine W.skip rfl rfl ?_ | refine W.fld rfl rfl rfl rfl rfl ?_ | refine W.ld rfl rfl rfl rfl rfl ?_))
      refine W.tdn ?_
      refine W.adn (by kernel_rfl) ?_
      (repeat (first | refine W.ctl rfl ?_ | refine W.op rfl rfl rfl rfl ?_ | refine W.skip rfl rfl ?_ | refine W.fld rfl rfl rfl rfl rfl ?_ | refine W.ld rfl rfl rfl rfl rfl ?_))
      refine W.idxg rfl rfl rfl rfl rfl rfl (by omega) (by omega) ?_
      (repeat (first | refine W.ctl rfl ?_ | refine W.op rfl rfl rfl rfl ?_ | refine W.skip rfl rfl ?_))
      refine W.ldo W0 rfl rfl rfl rfl rfl hcell' ?_
      (repeat (first | refine W.ctl rfl ?_ | refine W.op rfl rfl rfl rfl ?_ | refine W.skip rfl rfl ?_))
      refine W.cv rfl rfl rfl rfl rfl (wrap_u64 (by omega) (by omega)) ?_
      have hl2 : (ins z [120] kvs).length ≤ i + 1 := by have := (ins_len (k := z) (v := [120]) (l := kvs)).2; omega
      have hg := txn_Get tp sp dp T2 z (by omega) (by omega)
      rw [txnGet_spec t2.ok z (by omega), look_ins_same] at hg
      refine W.call hg rfl rfl rfl rfl Tryz.call39 ⟨rfl, rfl, trivial⟩ ?_
      rintro _ _ ⟨rfl, rfl⟩
      dsimp only [Option.getD_some, Option.isSome_some]
      (repeat (first | refine W.ctl rfl ?_ | refine W.op rfl rfl rfl rfl ?_ | refine W.skip rfl rfl ?_ | refine W.fld rfl rfl rfl rfl rfl ?_ | refine W.ld rfl rfl rfl rfl rfl ?_))
      refine W.sne (s := [120]) (u := [120]) rfl rfl rfl rfl rfl rfl ?_
      (repeat (first | refine W.ctl rfl ?_ | refine W.op rfl rfl rfl rfl ?_ | refine W.skip rfl rfl ?_ | refine W.fld rfl rfl rfl rfl rfl ?_ | refine W.ld rfl rfl rfl rfl rfl ?_))
      refine W.ar (r := (i : Int) + 1) rfl rfl rfl rfl rfl rfl rfl (wrap_i64 (by omega) (by omega)) ?_
      rw [show (i : Int) + 1 = ((i + 1 : Nat) : Int) by omega]
      (repeat (first | refine W.ctl rfl ?_ | refine W.op rfl rfl rfl rfl ?_ | refine W.skip rfl rfl ?_ | refine W.fld rfl rfl rfl rfl rfl ?_ | refine W.ld rfl rfl rfl rfl rfl ?_))
      exact W.again (i + 1, T2, ins z [120] kvs) ⟨by dsimp only; omega, by dsimp only; omega, t2, hl2⟩ (by dsimp only; omega) ⟨rfl, rfl, rfl, rfl, rfl, trivial⟩ (by simp only [sep_assoc']; exact Imp.all)
    · refine W.no rfl rfl rfl rfl h2 ?_
      (repeat (first | refine W.ctl rfl ?_ | refine W.op rfl rfl rfl rfl ?_ | refine W.skip rfl rfl ?_ | refine W.fld rfl rfl rfl rfl rfl ?_ | refine W.ld rfl rfl rfl rfl rfl ?_))
      obtain ⟨S3, e3, c3⟩ := txnCommit_spec hT.ok (by rw [hT.gen]; omega) (by rw [hT.gen]; omega)
      have hc := txn_Commit tp sp dp T b0.1 b0.2 (rgs_good hT.ok.good)
      rw [e3] at hc
      refine W.call hc rfl rfl rfl rfl Tryz.call40 ⟨rfl, trivial⟩ ?_
      rintro _ _ ⟨rfl, rfl⟩
      (repeat (first | refine W.ctl rfl ?_ | refine W.op rfl rfl rfl rfl ?_ | refine W.skip rfl rfl ?_ | refine W.fld rfl rfl rfl rfl rfl ?_ | refine W.ld rfl rfl rfl rfl rfl ?_))
      refine W.yes rfl rfl rfl rfl rfl ?_
      (repeat (first | refine W.ctl rfl ?_ | refine W.op rfl rfl rfl rfl ?_ | refine W.skip rfl rfl ?_ | refine W.fld rfl rfl rfl rfl rfl ?_ | refine W.ld rfl rfl rfl rfl rfl ?_))
      exact W.ret1 (.inr rfl) rfl rfl _ ⟨rfl, rfl⟩ Imp.all
  · refine W.no rfl rfl rfl rfl h1 ?_
    (repeat (first | refine W.ctl rfl ?_ | refine W.op rfl rfl rfl rfl ?_ | refine W.skip rfl rfl ?_ | refine W.fld rfl rfl rfl rfl rfl ?_ | refine W.ld rfl rfl rfl rfl rfl ?_))
    obtain ⟨S3, e3, c3⟩ := txnCommit_spec hT.ok (by rw [hT.gen]; omega) (by rw [hT.gen]; omega)
    have hc := txn_Commit tp sp dp T b0.1 b0.2 (rgs_good hT.ok.good)
    rw [e3] at hc
    refine W.call hc rfl rfl rfl rfl Tryz.call40 ⟨rfl, trivial⟩ ?_
    rintro _ _ ⟨rfl, rfl⟩
    (repeat (first | refine W.ctl rfl ?_ | refine W.op rfl rfl rfl rfl ?_ | refine W.skip rfl rfl ?_ | refine W.fld rfl rfl rfl rfl rfl ?_ | refine W.ld rfl rfl rfl rfl rfl ?_))
    refine W.yes rfl rfl rfl rfl rfl ?_
    (repeat (first | refine W.ctl rfl ?_ | refine W.op rfl rfl rfl rfl ?_ | refine W.skip rfl rfl ?_ | refine W.fld rfl rfl rfl rfl rfl ?_ | refine W.ld rfl rfl rfl rfl rfl ?_))
    exact W.ret1 (.inr rfl) rfl rfl _ ⟨rfl, rfl⟩ Imp.all
end Go.Proofs.YtbdhhedfplkidaaGreat
