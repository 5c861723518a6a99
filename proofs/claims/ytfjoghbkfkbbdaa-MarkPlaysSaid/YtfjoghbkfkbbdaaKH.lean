/- Rows put together out of parts. -/
import Derived.Test.YtfjoghbkfkbbdaaV0
namespace Go.Proofs.Ytfjoghbkfkbbdaa
open Go.RowKit

theorem app_new {w X W : World} {E : TypeId} {n : Nat} {v v' : Value} {xs : List Value} (hX : Below w.heap.size w X) (hv : ∀ k, v.ownBlock = some k → w.heap.size ≤ k) (h : Appended X W 0 E 1 v v' n xs) :
    Below w.heap.size w W ∧ ∀ k, v'.ownBlock = some k → w.heap.size ≤ k := by
  have hXs := hX.size
  have m1 : Mod (fun k => w.heap.size ≤ k) X W := h.mod hv
  refine ⟨hX.trans (m1.below (fun k hk => hk) hXs), fun k hk => ?_⟩
  rcases h.lies with e | e
  · exact hv k (e ▸ hk)
  · rw [e] at hk
    have : X.heap.size = k := Option.some.inj hk
    omega
/-- Three appends, one into what the two others made; in any order of what is made first. -/
theorem three_appends {W X Y Z w5 w6 w7 : World} {E : TypeId} {g0 gb n5 n6 n7 m c : Nat} {v5 v6 v7 : Value} {xs5 xs6 xs7 : List Value} (h5 : Appended X w5 0 E 1 (.slice (some ⟨g0, 0, none⟩) 0 0) v5 n5 xs5) (h6 : Appended Y w6 0 E 1 v5 v6 n6 xs6) (h7 : Appended Z w7 0 E 1 (.slice (some ⟨gb, 0, none⟩) m c) v7 n7 xs7)
    (hX : Mod (fun k => W.heap.size ≤ k) W X) (hg0 : W.heap.size ≤ g0) (hY : Mod (fun k => W.heap.size ≤ k) w5 Y) (hZ : Mod (fun k => W.heap.size ≤ k) w6 Z) (hgb : W.heap.size ≤ gb) :
    Below W.heap.size W w7 ∧ ∀ k, v7.ownBlock = some k → W.heap.size ≤ k := by
  have hB : Below W.heap.size W X := hX.below (fun k hk => hk) (Nat.le_refl _)
  obtain ⟨b5, f5⟩ := app_new hB (fun k hk => by have : g0 = k := Option.some.inj hk; omega) h5
  obtain ⟨b6, f6⟩ := app_new (b5.trans (hY.below (fun k hk => hk) b5.size)) f5 h6
  exact app_new (b6.trans (hZ.below (fun k hk => hk) b6.size)) (fun k hk => by have : gb = k := Option.some.inj hk; omega) h7
theorem src_owned {k : IntKind} {E : TypeId} {w : World} {v : Value} {l : List Int} (h : Owned k E w v l) : SrcAt w v l.length 1 (l.map (Value.int k)) := by
  obtain ⟨a, cap, rfl, _⟩ := h.form
  have := cut_front h (Nat.le_refl l.length)
  rwa [List.take_length] at this
theorem box_own {w : World} {g : Nat} {E : TypeId} {k : IntKind} {x : Int} (h : w.heap[g]? = some (.cells #[.int k x] E (0, 0))) : w.ownsRow 0 E 1 (.slice (some ⟨g, 0, none⟩) 1 1) 1 [.int k x] :=
  ⟨by simp, .inr ⟨g, 1, #[.int k x], rfl, Nat.zero_le _, h, Nat.le_refl _, by simp [maxLen], by simp, by simp⟩⟩
/-- A block made ahead of two appends, or between them, is there behind them. -/
theorem box_ahead {X Y w5 w6 : World} {E : TypeId} {g0 gb n5 n6 : Nat} {v5 v6 : Value} {xs5 xs6 : List Value} {o : Obj} (h5 : Appended X w5 0 E 1 (.slice (some ⟨g0, 0, none⟩) 0 0) v5 n5 xs5) (h6 : Appended Y w6 0 E 1 v5 v6 n6 xs6) (hY : Y.heap = w5.heap)
    (hb : X.heap[gb]? = some o) (hne : gb ≠ g0) : w6.heap[gb]? = some o := by
  refine h6.keep (by rw [hY]; exact h5.keep hb (fun e => hne (Option.some.inj e).symm)) (fun e => ?_)
  have hlt := blk_lt hb
  rcases h5.lies with e2 | e2
  · rw [e2] at e
    exact hne (Option.some.inj e).symm
  · rw [e2] at e
    have : X.heap.size = gb := Option.some.inj e
    omega
theorem box_between {X Y w5 w6 : World} {E : TypeId} {gb n5 n6 : Nat} {v v5 v6 : Value} {xs5 xs6 : List Value} {o : Obj} (h5 : Appended X w5 0 E 1 v v5 n5 xs5) (h6 : Appended Y w6 0 E 1 v5 v6 n6 xs6)
    (hb : Y.heap[gb]? = some o) (hge : w5.heap.size ≤ gb) : w6.heap[gb]? = some o := by
  refine h6.keep hb (fun e => ?_)
  have := World.ownsRow.lt h5.own gb e
  omega
theorem bl_al {w X : World} (h : Below w.heap.size w X) (o : Obj) : Below w.heap.size w (X.alloc o) := h.alloc h.size o
theorem owned_two {k : IntKind} {E : TypeId} {w : World} {v : Value} {l1 l2 : List Int} {n : Nat} (h : w.ownsRow 0 E 1 v n ([] ++ l1.map (Value.int k) ++ l2.map (Value.int k))) (hn : n = (l1 ++ l2).length) : Owned k E w v (l1 ++ l2) := by
  subst hn
  rw [List.nil_append, ← List.map_append] at h
  exact h
theorem owned_cons {k : IntKind} {E : TypeId} {w : World} {v : Value} {l : List Int} {x : Int} (h : w.ownsRow 0 E 1 v (1 + l.length) ([.int k x] ++ l.map (Value.int k))) : Owned k E w v (x :: l) := by
  have e : 1 + l.length = (x :: l).length := by simp; omega
  rw [e] at h
  exact h
end Go.Proofs.Ytfjoghbkfkbbdaa
