/- Objects that share no block: 'Sep'. -/
import Derived.Test.YtoidmakaijkglaaGreatP5
namespace Go.Proofs.YtoidmakaijkglaaGreat
open Go.RowKit

/-- Something in memory: its blocks, and what is true of it. -/
structure Ob where
  F : Nat → Prop
  P : World → Prop
  within : ∀ w, P w → Within w F
  keep : ∀ (w w' : World) (G : Nat → Prop), P w → Mod G w w' → Apart F G → P w'
/-- All that a call has made so far, each apart from the others; of what was there ahead of it nothing has turned. -/
structure Sep (w0 w : World) (L : List Ob) : Prop where
  bel : Below w0.heap.size w0 w
  each : ∀ o ∈ L, o.P w ∧ ∀ k, o.F k → w0.heap.size ≤ k
  apart : L.Pairwise (fun a b => Apart a.F b.F)
section
variable {w0 w w' : World} {A A' B C D : Ob} {L : List Ob}
theorem Sep.nil (w : World) : Sep w w [] := ⟨Below.refl _ _, fun o h => by simp at h, List.Pairwise.nil⟩
theorem Sep.head (h : Sep w0 w (A :: L)) : A.P w := (h.each A (by simp)).1
theorem Sep.second (h : Sep w0 w (A :: B :: L)) : B.P w := (h.each B (by simp)).1
theorem Sep.third (h : Sep w0 w (A :: B :: C :: L)) : C.P w := (h.each C (by simp)).1
theorem Sep.tail (h : Sep w0 w (A :: L)) : Sep w0 w L := ⟨h.bel, fun o ho => h.each o (by simp [ho]), (List.pairwise_cons.1 h.apart).2⟩
theorem Sep.perm {M : List Ob} (h : Sep w0 w L) (hp : L.Perm M) : Sep w0 w M :=
  ⟨h.bel, fun o ho => h.each o (hp.mem_iff.2 ho), (hp.pairwise_iff (fun h => h.symm)).1 h.apart⟩
theorem Sep.swap (h : Sep w0 w (A :: B :: L)) : Sep w0 w (B :: A :: L) := h.perm (List.Perm.swap B A L)
theorem Sep.bring3 (h : Sep w0 w (A :: B :: C :: L)) : Sep w0 w (C :: A :: B :: L) := by
  refine h.perm ?_
  exact ((List.Perm.swap C B L).cons A).trans (List.Perm.swap C A (B :: L))
theorem Sep.back3 (h : Sep w0 w (C :: A :: B :: L)) : Sep w0 w (A :: B :: C :: L) := by
  refine h.perm ?_
  exact (List.Perm.swap A C (B :: L)).trans ((List.Perm.swap B C L).cons A)
theorem Sep.bring4 (h : Sep w0 w (A :: B :: C :: D :: L)) : Sep w0 w (D :: A :: B :: C :: L) := by
  refine h.perm ?_
  exact ((((List.Perm.swap D C L).cons B).cons A).trans ((List.Perm.swap D B (C :: L)).cons A)).trans (List.Perm.swap D A (B :: C :: L))
theorem Sep.back4 (h : Sep w0 w (D :: A :: B :: C :: L)) : Sep w0 w (A :: B :: C :: D :: L) := by
  refine h.perm ?_
  exact ((List.Perm.swap A D (B :: C :: L)).trans ((List.Perm.swap B D (C :: L)).cons A)).trans (((List.Perm.swap C D L).cons B).cons A)
/-- The first one turns. -/
theorem Sep.step (h : Sep w0 w (A :: L)) (hp : A'.P w') (hm : Mod A.F w w') (hg : Grows w A.F A'.F) : Sep w0 w' (A' :: L) := by
  have h1 := List.pairwise_cons.1 h.apart
  have hA := (h.each A (by simp)).2
  refine ⟨h.bel.trans (hm.below hA h.bel.size), fun o ho => ?_, List.pairwise_cons.2 ⟨fun o ho => ?_, h1.2⟩⟩
  · rcases List.mem_cons.1 ho with rfl | ho
    · exact ⟨hp, hg.from_ hA h.bel.size⟩
    · have := h.each o (by simp [ho])
      exact ⟨o.keep w w' A.F this.1 hm (h1.1 o ho).symm, this.2⟩
  · exact (h1.1 o ho).grows hg (o.within w (h.each o (by simp [ho])).1)
/-- Nothing turns. -/
theorem Sep.still (h : Sep w0 w L) (hm : Mod (fun _ => False) w w') : Sep w0 w' L :=
  ⟨h.bel.trans (hm.below (fun _ h => h.elim) h.bel.size), fun o ho => ⟨o.keep w w' _ (h.each o ho).1 hm (fun _ _ h => h), (h.each o ho).2⟩, h.apart⟩
theorem Sep.below (h : Sep w0 w L) (hm : Below w.heap.size w w') : Sep w0 w' L := h.still (Mod.of_below hm)
/-- A new one comes. -/
theorem Sep.new (h : Sep w0 w L) (hm : Below w.heap.size w w') (hp : A.P w') (hF : ∀ k, A.F k → w.heap.size ≤ k) : Sep w0 w' (A :: L) := by
  have h1 := h.below hm
  refine ⟨h1.bel, fun o ho => ?_, List.pairwise_cons.2 ⟨fun o ho k hk hok => ?_, h1.apart⟩⟩
  · rcases List.mem_cons.1 ho with rfl | ho
    · exact ⟨hp, fun k hk => Nat.le_trans h.bel.size (hF k hk)⟩
    · exact h1.each o ho
  · have h2 := hF k hk
    have h3 := o.within w (h.each o ho).1 k hok
    omega
end
def obPool (b : Nat) (F : Nat → Prop) (s : PS) : Ob := ⟨F, fun w => PoolAt w b F s, fun _ h => h.within, fun _ _ _ h hm ha => h.mod hm ha⟩
def obRow (k : IntKind) (E : TypeId) (v : Value) (l : List Int) : Ob := ⟨fun g => v.ownBlock = some g, fun w => Owned k E w v l, fun _ h g hg => h.lt g hg, fun _ _ _ h hm ha => h.mod hm (fun g hg => ha g hg)⟩
theorem Sep.pool {w0 w w' : World} {b : Nat} {F : Nat → Prop} {s s' : PS} {L : List Ob} (h : Sep w0 w (obPool b F s :: L)) (hl : Left w b F s' w') : ∃ F', Sep w0 w' (obPool b F' s' :: L) := by
  obtain ⟨F', p, m, g⟩ := hl
  exact ⟨F', h.step (A' := obPool b F' s') p m g⟩
theorem Sep.row_nil {w0 w : World} {L : List Ob} (h : Sep w0 w L) (k : IntKind) (E : TypeId) : Sep w0 w (obRow k E (.slice none 0 0) [] :: L) :=
  h.new (A := obRow k E (.slice none 0 0) []) (Below.refl _ _) (Owned.nil _ _ _) (fun g hg => by simp [obRow, Value.ownBlock] at hg)
/-- An append, behind the making of what is appended. -/
theorem Sep.append {w0 w X w' : World} {L : List Ob} {k : IntKind} {E : TypeId} {v v' : Value} {l ys : List Int} {n : Nat} {zs : List Value} (h : Sep w0 w (obRow k E v l :: L)) (hX : Mod (fun _ => False) w X)
    (hA : Appended X w' 0 E 1 v v' n zs) (hn : n = l.length + ys.length) (hz : zs = l.map (Value.int k) ++ ys.map (Value.int k)) : Sep w0 w' (obRow k E v' (l ++ ys) :: L) := by
  subst hn hz
  refine h.step (A' := obRow k E v' (l ++ ys)) (Owned.app hA) ((hX.mono (fun _ h => h.elim)).trans (hA.mod (fun k hk => hk))) ?_
  intro g hg
  rcases hA.lies with e | e
  · have e2 : v'.ownBlock = some g := hg
    rw [e] at e2
    exact .inl e2
  · refine .inr ?_
    have e2 : v'.ownBlock = some g := hg
    rw [e] at e2
    have := Option.some.inj e2
    have := hX.size
    omega
end Go.Proofs.YtoidmakaijkglaaGreat
