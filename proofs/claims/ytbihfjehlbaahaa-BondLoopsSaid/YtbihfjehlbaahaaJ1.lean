/- The library's slices.Contains, Sort and Clip over integers: the shelf's contracts laid here. -/
import Derived.Test.YtbihfjehlbaahaaJ0
import Derived.Shelf.Sort.Plain
import Derived.Shelf.Slices.In.SortNone
import Derived.Shelf.Slices.Turned
import Derived.Sort.OwnSortedInts
import Derived.Shelf.Lay
import Derived.Ground.NamesProg
namespace Go.Proofs.Ytbihfjehlbaahaa
open Go.RowKit Go.Shelf

shelf_lay Lays.n189 Nm 189 at Try as laysSort
shelf_lay Lays.n107 Nm 107 at Try as laysContains

theorem contains_any {w : World} {v : Value} {l : List Int} (h : RowAt .i64 w v l) (x : Int) :
    Calls Try.prog 48 #[v, .int .i64 x] w fun e w' => e = .returned (.bool (decide (x ∈ l))) ∧ w = w' := by
  rcases h with ⟨rfl, a, cap, rfl, _⟩ | ⟨b, off, cap, rfl, _, hm, _, hc⟩
  · have hcon := Any.slices_Contains_int_empty laysContains a cap x w
    change Calls Try.prog 48 _ _ _ at hcon
    refine hcon.mono ?_
    rintro e w' ⟨rfl, rfl⟩
    exact ⟨by simp, rfl⟩
  · have hcon := Any.slices_Contains_int laysContains b off l.length cap l x w (Nat.le_refl _) (by unfold maxLen at hm; omega) hc
    change Calls Try.prog 48 _ _ _ at hcon
    refine hcon.mono ?_
    rintro e w' ⟨rfl, rfl⟩
    refine ⟨?_, rfl⟩
    rw [List.take_length]
    simp

/-- In rising order. -/
def sortI (l : List Int) : List Int := l.mergeSort fun x y => decide (x ≤ y)
theorem sortI_len (l : List Int) : (sortI l).length = l.length := by simp [sortI]
theorem sort_own {w : World} {v : Value} {l : List Int} (h : Owned .i64 3 w v l) (hl : l.length ≤ 100000) :
    Calls Try.prog 51 #[v] w fun e w' => e = .returned (.tuple #[]) ∧ Owned .i64 3 w' v (sortI l) ∧ w.grownBy w' v.ownBlock := by
  rcases h.2 with ⟨hv, hn⟩ | ⟨g, cap, cur, hv, hg, hh, h1, h2, h3, h4⟩
  · have hl0 : l = [] := List.length_eq_zero_iff.1 hn
    subst hl0 hv
    have hcon := Any.slices_Sort_int_none laysSort none 0 w
    change Calls Try.prog 51 _ _ _ at hcon
    refine hcon.mono ?_
    rintro e w' ⟨rfl, rfl⟩
    exact ⟨rfl, by rw [show sortI [] = [] by simp [sortI]]; exact h, ⟨rfl, rfl, rfl, Nat.le_refl _, fun _ _ _ => rfl⟩⟩
  · subst hv
    have hH := holds_of_blockI hh (by rw [Nat.mul_one] at h4; exact h4)
    have hcon := Any.slices_Sort_int laysSort g 0 cap l w hH (Array.getElem?_eq_some_iff.1 hh).1 (by omega)
    change Calls Try.prog 51 _ _ _ at hcon
    refine hcon.mono ?_
    rintro e w' ⟨rfl, n, os, rfl⟩
    have hs : (sortI l).length = l.length := sortI_len l
    refine ⟨rfl, ?_, grownBy_sortedI _⟩
    have := ownsRow_sortedI (n := n) (os := os) (ts := sortI l) hs (Nat.zero_le g) hh h1 h2 h3
    unfold Owned
    rw [hs]
    exact this

set_option maxHeartbeats 400000 in
theorem clip_int (a : Option Addr) (n cap : Nat) (w : World) (h : n ≤ cap) (hz : a = none → n = 0 ∧ cap = 0) (ho : ∀ g, a = some g → g = ⟨g.block, 0, none⟩ ∧ cap ≤ maxLen) :
    Calls Try.prog 52 #[.slice a n cap] w fun e w' => e = .returned (.slice a n n) ∧ w = w' := by
  cases a with
  | none =>
    obtain ⟨rfl, rfl⟩ := hz rfl
    clear hz ho
    go_enter Try.func52, Try.ntmps52
    go_wp2_with fail
    go_ret
    exact ⟨rfl, rfl⟩
  | some g =>
    obtain ⟨hg, hm⟩ := ho g rfl
    obtain ⟨b, o, s⟩ := g
    simp only [Addr.mk.injEq, true_and] at hg
    obtain ⟨rfl, rfl⟩ := hg
    clear hz ho
    unfold maxLen at hm
    go_enter Try.func52, Try.ntmps52
    go_wp2_with fail
    go_ret
    exact ⟨rfl, rfl⟩
end Go.Proofs.Ytbihfjehlbaahaa
