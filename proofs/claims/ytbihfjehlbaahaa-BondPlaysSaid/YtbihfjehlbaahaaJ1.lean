/- The library's slices.Contains, Sort and Clip over integers: the shelf's contracts laid here. -/
import Derived.Test.YtbihfjehlbaahaaJ0
import Derived.Shelf.Sort.Plain
import Derived.Shelf.Slices.In.SortNone
import Derived.Shelf.Slices.Turned
import Derived.Sort.OwnSortedInts
namespace Go.Proofs.Ytbihfjehlbaahaa
open Go.RowKit Go.Shelf

def laysSort_ren : Go.Shelf.Ren := ⟨fun | 189 => 51 | 125 => 76 | 257 => 75 | 128 => 100 | 129 => 101 | 294 => 91 | 295 => 92 | 296 => 93 | 297 => 94 | 298 => 95 | 299 => 96 | 216 => 97 | 300 => 98 | 301 => 99 | 328 => 108 | 329 => 109 | 330 => 110 | 331 => 111 | 332 => 112 | 215 => 113 | 343 => 120 | n => n, fun | 28 => 25 | 3 => 3 | 46 => 128 | 0 => 0 | 51 => 107 | 53 => 22 | 4 => 4 | 183 => 174 | 182 => 173 | 131 => 134 | 5 => 5 | 9 => 9 | 218 => 187 | 222 => 191 | 228 => 199 | 229 => 73 | n => n, fun | n => n⟩
theorem laysSort : Go.Proofs.Lays.n189 Try.prog laysSort_ren := {
  mixed := by kernel_rfl
  f125 := Try.func76.trans (congrArg some (by kernel_rfl))
  f128 := Try.func100.trans (congrArg some (by kernel_rfl))
  f129 := Try.func101.trans (congrArg some (by kernel_rfl))
  f189 := Try.func51.trans (congrArg some (by kernel_rfl))
  f215 := Try.func113.trans (congrArg some (by kernel_rfl))
  f216 := Try.func97.trans (congrArg some (by kernel_rfl))
  f257 := Try.func75.trans (congrArg some (by kernel_rfl))
  f294 := Try.func91.trans (congrArg some (by kernel_rfl))
  f295 := Try.func92.trans (congrArg some (by kernel_rfl))
  f296 := Try.func93.trans (congrArg some (by kernel_rfl))
  f297 := Try.func94.trans (congrArg some (by kernel_rfl))
  f298 := Try.func95.trans (congrArg some (by kernel_rfl))
  f299 := Try.func96.trans (congrArg some (by kernel_rfl))
  f300 := Try.func98.trans (congrArg some (by kernel_rfl))
  f301 := Try.func99.trans (congrArg some (by kernel_rfl))
  f328 := Try.func108.trans (congrArg some (by kernel_rfl))
  f329 := Try.func109.trans (congrArg some (by kernel_rfl))
  f330 := Try.func110.trans (congrArg some (by kernel_rfl))
  f331 := Try.func111.trans (congrArg some (by kernel_rfl))
  f332 := Try.func112.trans (congrArg some (by kernel_rfl))
  f343 := Try.func120.trans (congrArg some (by kernel_rfl))
  t0 := Try.underlying0
  a0 := Try.isAgg0
  z0 := Try.sizeOf0
  v0 := Try.zeroValue0
  t3 := Try.underlying3
  a3 := Try.isAgg3
  z3 := Try.sizeOf3
  v3 := Try.zeroValue3
  t4 := Try.underlying4
  a4 := Try.isAgg4
  z4 := Try.sizeOf4
  v4 := Try.zeroValue4
  t5 := Try.underlying5
  a5 := Try.isAgg5
  z5 := Try.sizeOf5
  v5 := Try.zeroValue5
  t9 := Try.underlying9
  a9 := Try.isAgg9
  z9 := Try.sizeOf9
  v9 := Try.zeroValue9
  t28 := Try.underlying25
  a28 := Try.isAgg25
  z28 := Try.sizeOf25
  v28 := Try.zeroValue25
  t46 := Try.underlying128
  a46 := Try.isAgg128
  z46 := Try.sizeOf128
  v46 := Try.zeroValue128
  t51 := Try.underlying107
  a51 := Try.isAgg107
  z51 := Try.sizeOf107
  v51 := Try.zeroValue107
  t53 := Try.underlying22
  a53 := Try.isAgg22
  z53 := Try.sizeOf22
  v53 := Try.zeroValue22
  t131 := Try.underlying134
  a131 := Try.isAgg134
  z131 := Try.sizeOf134
  v131 := Try.zeroValue134
  t182 := Try.underlying173
  a182 := Try.isAgg173
  z182 := Try.sizeOf173
  v182 := Try.zeroValue173
  t183 := Try.underlying174
  a183 := Try.isAgg174
  z183 := Try.sizeOf174
  v183 := Try.zeroValue174
  t218 := Try.underlying187
  a218 := Try.isAgg187
  z218 := Try.sizeOf187
  v218 := Try.zeroValue187
  t222 := Try.underlying191
  a222 := Try.isAgg191
  z222 := Try.sizeOf191
  v222 := Try.zeroValue191
  t228 := Try.underlying199
  a228 := Try.isAgg199
  z228 := Try.sizeOf199
  v228 := Try.zeroValue199
  t229 := Try.underlying73
  a229 := Try.isAgg73
  z229 := Try.sizeOf73
  v229 := Try.zeroValue73 }
def laysContains_ren : Go.Shelf.Ren := ⟨fun | 107 => 48 | 108 => 74 | n => n, fun | 28 => 25 | 3 => 3 | 4 => 4 | 0 => 0 | n => n, fun | n => n⟩
theorem laysContains : Go.Proofs.Lays.n107 Try.prog laysContains_ren := {
  mixed := by kernel_rfl
  f107 := Try.func48.trans (congrArg some (by kernel_rfl))
  f108 := Try.func74.trans (congrArg some (by kernel_rfl))
  t0 := Try.underlying0
  a0 := Try.isAgg0
  z0 := Try.sizeOf0
  v0 := Try.zeroValue0
  t3 := Try.underlying3
  a3 := Try.isAgg3
  z3 := Try.sizeOf3
  v3 := Try.zeroValue3
  t4 := Try.underlying4
  a4 := Try.isAgg4
  z4 := Try.sizeOf4
  v4 := Try.zeroValue4
  t28 := Try.underlying25
  a28 := Try.isAgg25
  z28 := Try.sizeOf25
  v28 := Try.zeroValue25 }

theorem contains_any {w : World} {v : Value} {l : List Int} (h : RowAt .i64 w v l) (x : Int) :
    Calls Try.prog 48 #[v, .int .i64 x] w fun e w' => e = .returned (.bool (decide (x ∈ l))) ∧ w = w' := by
  rcases h with ⟨rfl, a, cap, rfl, _⟩ | ⟨b, off, cap, rfl, _, hm, _, hc⟩
  · have hcon := Any.slices_Contains_int_empty laysContains a cap x w
    change Calls Try.prog 48 _ _ _ at hcon
    refine hcon.mono ?_
    rintro e w' ⟨rfl, rfl⟩
    exact ⟨by simp, rfl⟩
  · have hcon := Any.slices_Contains_int laysContains b off l.length cap l x w (Nat.le_refl _) (by unfold maxLen at hm; omega) hc
    change Calls Try.prog 48 _ _ _ at hcon
    refine hcon.mono ?_
    rintro e w' ⟨rfl, rfl⟩
    refine ⟨?_, rfl⟩
    rw [List.take_length]
    simp

/-- In rising order. -/
def sortI (l : List Int) : List Int := l.mergeSort fun x y => decide (x ≤ y)
theorem sortI_len (l : List Int) : (sortI l).length = l.length := by simp [sortI]
theorem sort_own {w : World} {v : Value} {l : List Int} (h : Owned .i64 3 w v l) (hl : l.length ≤ 100000) :
    Calls Try.prog 51 #[v] w fun e w' => e = .returned (.tuple #[]) ∧ Owned .i64 3 w' v (sortI l) ∧ w.grownBy w' v.ownBlock := by
  rcases h.2 with ⟨hv, hn⟩ | ⟨g, cap, cur, hv, hg, hh, h1, h2, h3, h4⟩
  · have hl0 : l = [] := List.length_eq_zero_iff.1 hn
    subst hl0 hv
    have hcon := Any.slices_Sort_int_none laysSort none 0 w
    change Calls Try.prog 51 _ _ _ at hcon
    refine hcon.mono ?_
    rintro e w' ⟨rfl, rfl⟩
    exact ⟨rfl, by rw [show sortI [] = [] by simp [sortI]]; exact h, ⟨rfl, rfl, rfl, Nat.le_refl _, fun _ _ _ => rfl⟩⟩
  · subst hv
    have hH := holds_of_blockI hh (by rw [Nat.mul_one] at h4; exact h4)
    have hcon := Any.slices_Sort_int laysSort g 0 cap l w hH (Array.getElem?_eq_some_iff.1 hh).1 (by omega)
    change Calls Try.prog 51 _ _ _ at hcon
    refine hcon.mono ?_
    rintro e w' ⟨rfl, n, os, rfl⟩
    have hs : (sortI l).length = l.length := sortI_len l
    refine ⟨rfl, ?_, grownBy_sortedI _⟩
    have := ownsRow_sortedI (n := n) (os := os) (ts := sortI l) hs (Nat.zero_le g) hh h1 h2 h3
    unfold Owned
    rw [hs]
    exact this

set_option maxHeartbeats 400000 in
theorem clip_int (a : Option Addr) (n cap : Nat) (w : World) (h : n ≤ cap) (hz : a = none → n = 0 ∧ cap = 0) (ho : ∀ g, a = some g → g = ⟨g.block, 0, none⟩ ∧ cap ≤ maxLen) :
    Calls Try.prog 52 #[.slice a n cap] w fun e w' => e = .returned (.slice a n n) ∧ w = w' := by
  cases a with
  | none =>
    obtain ⟨rfl, rfl⟩ := hz rfl
    clear hz ho
    go_enter Try.func52, Try.ntmps52
    go_wp2_with fail
    go_ret
    exact ⟨rfl, rfl⟩
  | some g =>
    obtain ⟨hg, hm⟩ := ho g rfl
    obtain ⟨b, o, s⟩ := g
    simp only [Addr.mk.injEq, true_and] at hg
    obtain ⟨rfl, rfl⟩ := hg
    clear hz ho
    unfold maxLen at hm
    go_enter Try.func52, Try.ntmps52
    go_wp2_with fail
    go_ret
    exact ⟨rfl, rfl⟩
end Go.Proofs.Ytbihfjehlbaahaa
