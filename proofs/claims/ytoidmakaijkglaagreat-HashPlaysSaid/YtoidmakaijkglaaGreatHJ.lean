/- slices.Sort and Clip over integers: the shelf's contracts laid here. -/
import Derived.Test.YtoidmakaijkglaaGreatHI
import Derived.Shelf.Sort.Plain
import Derived.Shelf.Slices.In.SortNone
import Derived.Sort.OwnSortedInts
namespace Go.Proofs.YtoidmakaijkglaaGreat
open Go.RowKit Go.Shelf

def laysSort_ren : Go.Shelf.Ren := ⟨fun | 189 => 40 | 125 => 59 | 257 => 58 | 128 => 78 | 129 => 79 | 294 => 69 | 295 => 70 | 296 => 71 | 297 => 72 | 298 => 73 | 299 => 74 | 216 => 75 | 300 => 76 | 301 => 77 | 328 => 86 | 329 => 87 | 330 => 88 | 331 => 89 | 332 => 90 | 215 => 91 | 343 => 96 | n => n, fun | 28 => 41 | 3 => 3 | 46 => 107 | 0 => 0 | 51 => 66 | 53 => 32 | 4 => 4 | 183 => 146 | 182 => 145 | 131 => 86 | 5 => 5 | 9 => 9 | 218 => 162 | 222 => 165 | 228 => 170 | 229 => 171 | n => n, fun | n => n⟩
theorem laysSort : Go.Proofs.Lays.n189 Tryz.prog laysSort_ren := {
  mixed := by kernel_rfl
  f125 := Tryz.func59.trans (congrArg some (by kernel_rfl))
  f128 := Tryz.func78.trans (congrArg some (by kernel_rfl))
  f129 := Tryz.func79.trans (congrArg some (by kernel_rfl))
  f189 := Tryz.func40.trans (congrArg some (by kernel_rfl))
  f215 := Tryz.func91.trans (congrArg some (by kernel_rfl))
  f216 := Tryz.func75.trans (congrArg some (by kernel_rfl))
  f257 := Tryz.func58.trans (congrArg some (by kernel_rfl))
  f294 := Tryz.func69.trans (congrArg some (by kernel_rfl))
  f295 := Tryz.func70.trans (congrArg some (by kernel_rfl))
  f296 := Tryz.func71.trans (congrArg some (by kernel_rfl))
  f297 := Tryz.func72.trans (congrArg some (by kernel_rfl))
  f298 := Tryz.func73.trans (congrArg some (by kernel_rfl))
  f299 := Tryz.func74.trans (congrArg some (by kernel_rfl))
  f300 := Tryz.func76.trans (congrArg some (by kernel_rfl))
  f301 := Tryz.func77.trans (congrArg some (by kernel_rfl))
  f328 := Tryz.func86.trans (congrArg some (by kernel_rfl))
  f329 := Tryz.func87.trans (congrArg some (by kernel_rfl))
  f330 := Tryz.func88.trans (congrArg some (by kernel_rfl))
  f331 := Tryz.func89.trans (congrArg some (by kernel_rfl))
  f332 := Tryz.func90.trans (congrArg some (by kernel_rfl))
  f343 := Tryz.func96.trans (congrArg some (by kernel_rfl))
  t0 := Tryz.underlying0
  a0 := Tryz.isAgg0
  z0 := Tryz.sizeOf0
  v0 := Tryz.zeroValue0
  t3 := Tryz.underlying3
  a3 := Tryz.isAgg3
  z3 := Tryz.sizeOf3
  v3 := Tryz.zeroValue3
  t4 := Tryz.underlying4
  a4 := Tryz.isAgg4
  z4 := Tryz.sizeOf4
  v4 := Tryz.zeroValue4
  t5 := Tryz.underlying5
  a5 := Tryz.isAgg5
  z5 := Tryz.sizeOf5
  v5 := Tryz.zeroValue5
  t9 := Tryz.underlying9
  a9 := Tryz.isAgg9
  z9 := Tryz.sizeOf9
  v9 := Tryz.zeroValue9
  t28 := Tryz.underlying41
  a28 := Tryz.isAgg41
  z28 := Tryz.sizeOf41
  v28 := Tryz.zeroValue41
  t46 := Tryz.underlying107
  a46 := Tryz.isAgg107
  z46 := Tryz.sizeOf107
  v46 := Tryz.zeroValue107
  t51 := Tryz.underlying66
  a51 := Tryz.isAgg66
  z51 := Tryz.sizeOf66
  v51 := Tryz.zeroValue66
  t53 := Tryz.underlying32
  a53 := Tryz.isAgg32
  z53 := Tryz.sizeOf32
  v53 := Tryz.zeroValue32
  t131 := Tryz.underlying86
  a131 := Tryz.isAgg86
  z131 := Tryz.sizeOf86
  v131 := Tryz.zeroValue86
  t182 := Tryz.underlying145
  a182 := Tryz.isAgg145
  z182 := Tryz.sizeOf145
  v182 := Tryz.zeroValue145
  t183 := Tryz.underlying146
  a183 := Tryz.isAgg146
  z183 := Tryz.sizeOf146
  v183 := Tryz.zeroValue146
  t218 := Tryz.underlying162
  a218 := Tryz.isAgg162
  z218 := Tryz.sizeOf162
  v218 := Tryz.zeroValue162
  t222 := Tryz.underlying165
  a222 := Tryz.isAgg165
  z222 := Tryz.sizeOf165
  v222 := Tryz.zeroValue165
  t228 := Tryz.underlying170
  a228 := Tryz.isAgg170
  z228 := Tryz.sizeOf170
  v228 := Tryz.zeroValue170
  t229 := Tryz.underlying171
  a229 := Tryz.isAgg171
  z229 := Tryz.sizeOf171
  v229 := Tryz.zeroValue171 }

/-- In rising order. -/
def sortI (l : List Int) : List Int := l.mergeSort fun x y => decide (x ≤ y)
theorem sortI_len (l : List Int) : (sortI l).length = l.length := by simp [sortI]
theorem sort_own {w : World} {v : Value} {l : List Int} (h : Owned .i64 3 w v l) (hl : l.length ≤ 100000) :
    Calls Tryz.prog 40 #[v] w fun e w' => e = .returned (.tuple #[]) ∧ Owned .i64 3 w' v (sortI l) ∧ w.grownBy w' v.ownBlock := by
  rcases h.2 with ⟨hv, hn⟩ | ⟨g, cap, cur, hv, hg, hh, h1, h2, h3, h4⟩
  · have hl0 : l = [] := List.length_eq_zero_iff.1 hn
    subst hl0 hv
    have hcon := Any.slices_Sort_int_none laysSort none 0 w
    change Calls Tryz.prog 40 _ _ _ at hcon
    refine hcon.mono ?_
    rintro e w' ⟨rfl, rfl⟩
    exact ⟨rfl, by rw [show sortI [] = [] by simp [sortI]]; exact h, ⟨rfl, rfl, rfl, Nat.le_refl _, fun _ _ _ => rfl⟩⟩
  · subst hv
    have hH := holds_of_blockI hh (by rw [Nat.mul_one] at h4; exact h4)
    have hcon := Any.slices_Sort_int laysSort g 0 cap l w hH (Array.getElem?_eq_some_iff.1 hh).1 (by omega)
    change Calls Tryz.prog 40 _ _ _ at hcon
    refine hcon.mono ?_
    rintro e w' ⟨rfl, n, os, rfl⟩
    have hs : (sortI l).length = l.length := sortI_len l
    refine ⟨rfl, ?_, grownBy_sortedI _⟩
    have := ownsRow_sortedI (n := n) (os := os) (ts := sortI l) hs (Nat.zero_le g) hh h1 h2 h3
    unfold Owned
    rw [hs]
    exact this

set_option maxHeartbeats 400000 in
theorem clip_int (a : Option Addr) (n cap : Nat) (w : World) (h : n ≤ cap) (hz : a = none → n = 0 ∧ cap = 0) (ho : ∀ g, a = some g → g = ⟨g.block, 0, none⟩ ∧ cap ≤ maxLen) :
    Calls Tryz.prog 41 #[.slice a n cap] w fun e w' => e = .returned (.slice a n n) ∧ w = w' := by
  cases a with
  | none =>
    obtain ⟨rfl, rfl⟩ := hz rfl
    clear hz ho
    go_enter Tryz.func41, Tryz.ntmps41
    go_wp2_with fail
    go_ret
    exact ⟨rfl, rfl⟩
  | some g =>
    obtain ⟨hg, hm⟩ := ho g rfl
    obtain ⟨b, o, s⟩ := g
    simp only [Addr.mk.injEq, true_and] at hg
    obtain ⟨rfl, rfl⟩ := hg
    clear hz ho
    unfold maxLen at hm
    go_enter Tryz.func41, Tryz.ntmps41
    go_wp2_with fail
    go_ret
    exact ⟨rfl, rfl⟩
end Go.Proofs.YtoidmakaijkglaaGreat
