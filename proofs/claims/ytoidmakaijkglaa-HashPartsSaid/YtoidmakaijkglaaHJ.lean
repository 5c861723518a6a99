/- slices.Sort and Clip over integers: the shelf's contracts laid here. -/
import Derived.Test.YtoidmakaijkglaaHI
import Derived.Shelf.Sort.Plain
import Derived.Shelf.Slices.In.SortNone
import Derived.Sort.OwnSortedInts
namespace Go.Proofs.Ytoidmakaijkglaa
open Go.RowKit Go.Shelf

def laysSort_ren : Go.Shelf.Ren := ⟨fun | 189 => 23 | 125 => 29 | 257 => 28 | 128 => 44 | 129 => 45 | 294 => 35 | 295 => 36 | 296 => 37 | 297 => 38 | 298 => 39 | 299 => 40 | 216 => 41 | 300 => 42 | 301 => 43 | 328 => 50 | 329 => 51 | 330 => 52 | 331 => 53 | 332 => 54 | 215 => 55 | 343 => 64 | n => n, fun | 28 => 34 | 3 => 3 | 46 => 73 | 0 => 0 | 51 => 51 | 53 => 22 | 4 => 4 | 183 => 102 | 182 => 101 | 131 => 107 | 5 => 5 | 9 => 9 | 218 => 114 | 222 => 118 | 228 => 127 | 229 => 128 | n => n, fun | n => n⟩
theorem laysSort : Go.Proofs.Lays.n189 Try.prog laysSort_ren := {
  mixed := by kernel_rfl
  f125 := Try.func29.trans (congrArg some (by kernel_rfl))
  f128 := Try.func44.trans (congrArg some (by kernel_rfl))
  f129 := Try.func45.trans (congrArg some (by kernel_rfl))
  f189 := Try.func23.trans (congrArg some (by kernel_rfl))
  f215 := Try.func55.trans (congrArg some (by kernel_rfl))
  f216 := Try.func41.trans (congrArg some (by kernel_rfl))
  f257 := Try.func28.trans (congrArg some (by kernel_rfl))
  f294 := Try.func35.trans (congrArg some (by kernel_rfl))
  f295 := Try.func36.trans (congrArg some (by kernel_rfl))
  f296 := Try.func37.trans (congrArg some (by kernel_rfl))
  f297 := Try.func38.trans (congrArg some (by kernel_rfl))
  f298 := Try.func39.trans (congrArg some (by kernel_rfl))
  f299 := Try.func40.trans (congrArg some (by kernel_rfl))
  f300 := Try.func42.trans (congrArg some (by kernel_rfl))
  f301 := Try.func43.trans (congrArg some (by kernel_rfl))
  f328 := Try.func50.trans (congrArg some (by kernel_rfl))
  f329 := Try.func51.trans (congrArg some (by kernel_rfl))
  f330 := Try.func52.trans (congrArg some (by kernel_rfl))
  f331 := Try.func53.trans (congrArg some (by kernel_rfl))
  f332 := Try.func54.trans (congrArg some (by kernel_rfl))
  f343 := Try.func64.trans (congrArg some (by kernel_rfl))
  t0 := Try.underlying0
  a0 := Try.isAgg0
  z0 := Try.sizeOf0
  v0 := Try.zeroValue0
  t3 := Try.underlying3
  a3 := Try.isAgg3
  z3 := Try.sizeOf3
  v3 := Try.zeroValue3
  t4 := Try.underlying4
  a4 := Try.isAgg4
  z4 := Try.sizeOf4
  v4 := Try.zeroValue4
  t5 := Try.underlying5
  a5 := Try.isAgg5
  z5 := Try.sizeOf5
  v5 := Try.zeroValue5
  t9 := Try.underlying9
  a9 := Try.isAgg9
  z9 := Try.sizeOf9
  v9 := Try.zeroValue9
  t28 := Try.underlying34
  a28 := Try.isAgg34
  z28 := Try.sizeOf34
  v28 := Try.zeroValue34
  t46 := Try.underlying73
  a46 := Try.isAgg73
  z46 := Try.sizeOf73
  v46 := Try.zeroValue73
  t51 := Try.underlying51
  a51 := Try.isAgg51
  z51 := Try.sizeOf51
  v51 := Try.zeroValue51
  t53 := Try.underlying22
  a53 := Try.isAgg22
  z53 := Try.sizeOf22
  v53 := Try.zeroValue22
  t131 := Try.underlying107
  a131 := Try.isAgg107
  z131 := Try.sizeOf107
  v131 := Try.zeroValue107
  t182 := Try.underlying101
  a182 := Try.isAgg101
  z182 := Try.sizeOf101
  v182 := Try.zeroValue101
  t183 := Try.underlying102
  a183 := Try.isAgg102
  z183 := Try.sizeOf102
  v183 := Try.zeroValue102
  t218 := Try.underlying114
  a218 := Try.isAgg114
  z218 := Try.sizeOf114
  v218 := Try.zeroValue114
  t222 := Try.underlying118
  a222 := Try.isAgg118
  z222 := Try.sizeOf118
  v222 := Try.zeroValue118
  t228 := Try.underlying127
  a228 := Try.isAgg127
  z228 := Try.sizeOf127
  v228 := Try.zeroValue127
  t229 := Try.underlying128
  a229 := Try.isAgg128
  z229 := Try.sizeOf128
  v229 := Try.zeroValue128 }

/-- In rising order. -/
def sortI (l : List Int) : List Int := l.mergeSort fun x y => decide (x ≤ y)
theorem sortI_len (l : List Int) : (sortI l).length = l.length := by simp [sortI]
theorem sort_own {w : World} {v : Value} {l : List Int} (h : Owned .i64 3 w v l) (hl : l.length ≤ 100000) :
    Calls Try.prog 23 #[v] w fun e w' => e = .returned (.tuple #[]) ∧ Owned .i64 3 w' v (sortI l) ∧ w.grownBy w' v.ownBlock := by
  rcases h.2 with ⟨hv, hn⟩ | ⟨g, cap, cur, hv, hg, hh, h1, h2, h3, h4⟩
  · have hl0 : l = [] := List.length_eq_zero_iff.1 hn
    subst hl0 hv
    have hcon := Any.slices_Sort_int_none laysSort none 0 w
    change Calls Try.prog 23 _ _ _ at hcon
    refine hcon.mono ?_
    rintro e w' ⟨rfl, rfl⟩
    exact ⟨rfl, by rw [show sortI [] = [] by simp [sortI]]; exact h, ⟨rfl, rfl, rfl, Nat.le_refl _, fun _ _ _ => rfl⟩⟩
  · subst hv
    have hH := holds_of_blockI hh (by rw [Nat.mul_one] at h4; exact h4)
    have hcon := Any.slices_Sort_int laysSort g 0 cap l w hH (Array.getElem?_eq_some_iff.1 hh).1 (by omega)
    change Calls Try.prog 23 _ _ _ at hcon
    refine hcon.mono ?_
    rintro e w' ⟨rfl, n, os, rfl⟩
    have hs : (sortI l).length = l.length := sortI_len l
    refine ⟨rfl, ?_, grownBy_sortedI _⟩
    have := ownsRow_sortedI (n := n) (os := os) (ts := sortI l) hs (Nat.zero_le g) hh h1 h2 h3
    unfold Owned
    rw [hs]
    exact this

set_option maxHeartbeats 400000 in
theorem clip_int (a : Option Addr) (n cap : Nat) (w : World) (h : n ≤ cap) (hz : a = none → n = 0 ∧ cap = 0) (ho : ∀ g, a = some g → g = ⟨g.block, 0, none⟩ ∧ cap ≤ maxLen) :
    Calls Try.prog 24 #[.slice a n cap] w fun e w' => e = .returned (.slice a n n) ∧ w = w' := by
  cases a with
  | none =>
    obtain ⟨rfl, rfl⟩ := hz rfl
    clear hz ho
    go_enter Try.func24, Try.ntmps24
    go_wp2_with fail
    go_ret
    exact ⟨rfl, rfl⟩
  | some g =>
    obtain ⟨hg, hm⟩ := ho g rfl
    obtain ⟨b, o, s⟩ := g
    simp only [Addr.mk.injEq, true_and] at hg
    obtain ⟨rfl, rfl⟩ := hg
    clear hz ho
    unfold maxLen at hm
    go_enter Try.func24, Try.ntmps24
    go_wp2_with fail
    go_ret
    exact ⟨rfl, rfl⟩
end Go.Proofs.Ytoidmakaijkglaa
