/- A state's keys in rising order: the shelf's contracts laid here. -/
import Derived.Test.YtpohehialkgigaaAD
import Derived.Shelf.SlIterI.Nil
import Derived.Shelf.SortM.Plain
import Derived.Shelf.SortM.SortNone
import Derived.Ground.GgzProg
import Derived.Ground.SlgmProg
namespace Go.Proofs.Ytpohehialkgigaa
open Go.RowKit Go.Maps Go.Sort Go.Shelf

def laysKeys_ren : Go.Shelf.Ren := ⟨fun | 7 => 37 | 10 => 49 | n => n, fun | 23 => 66 | 26 => 3 | 3 => 3 | 28 => 73 | 0 => 0 | 27 => 72 | 33 => 56 | 4 => 4 | n => n, fun | n => n⟩
theorem laysKeys : Go.Proofs.SlLaysZI.n7 Try.prog laysKeys_ren := {
  mixed := by kernel_rfl
  f7 := ⟨Try.f37.name, by decide, Try.func37.trans (congrArg some (by kernel_rfl))⟩
  f10 := ⟨Try.f49.name, by decide, Try.func49.trans (congrArg some (by kernel_rfl))⟩
  t0 := Try.underlying0
  a0 := Try.isAgg0
  z0 := Try.sizeOf0
  v0 := Try.zeroValue0
  t4 := Try.underlying4
  a4 := Try.isAgg4
  z4 := Try.sizeOf4
  v4 := Try.zeroValue4
  t23 := Try.underlying66
  a23 := Try.isAgg66
  z23 := Try.sizeOf66
  v23 := Try.zeroValue66
  t26 := Try.underlying3
  a26 := Try.isAgg3
  z26 := Try.sizeOf3
  v26 := Try.zeroValue3
  t27 := Try.underlying72
  a27 := Try.isAgg72
  z27 := Try.sizeOf72
  v27 := Try.zeroValue72
  t28 := Try.underlying73
  a28 := Try.isAgg73
  z28 := Try.sizeOf73
  v28 := Try.zeroValue73
  t33 := Try.underlying56
  a33 := Try.isAgg56
  z33 := Try.sizeOf56
  v33 := Try.zeroValue56 }
def laysSorted_ren : Go.Shelf.Ren := ⟨fun | 6 => 36 | 8 => 47 | 9 => 48 | 11 => 51 | 13 => 53 | 12 => 52 | 23 => 65 | 24 => 66 | 14 => 56 | 15 => 57 | 16 => 58 | 17 => 59 | 18 => 60 | 19 => 61 | 20 => 62 | 21 => 63 | 22 => 64 | 25 => 68 | 26 => 69 | 27 => 70 | 28 => 71 | 29 => 72 | 30 => 73 | 31 => 75 | n => n, fun | 26 => 3 | 28 => 73 | 24 => 51 | 0 => 0 | 3 => 3 | 37 => 78 | 48 => 101 | 50 => 22 | 4 => 4 | 40 => 95 | 39 => 94 | 45 => 84 | 5 => 5 | 9 => 9 | 51 => 103 | 55 => 107 | 57 => 109 | 58 => 110 | 33 => 56 | n => n, fun | n => n⟩
theorem laysSorted : Go.Proofs.SlLaysZI.n6 Try.prog laysSorted_ren := {
  mixed := by kernel_rfl
  f6 := ⟨Try.f36.name, by decide, Try.func36.trans (congrArg some (by kernel_rfl))⟩
  f8 := ⟨Try.f47.name, by decide, Try.func47.trans (congrArg some (by kernel_rfl))⟩
  f11 := ⟨Try.f51.name, by decide, Try.func51.trans (congrArg some (by kernel_rfl))⟩
  t0 := Try.underlying0
  a0 := Try.isAgg0
  z0 := Try.sizeOf0
  v0 := Try.zeroValue0
  t24 := Try.underlying51
  a24 := Try.isAgg51
  z24 := Try.sizeOf51
  v24 := Try.zeroValue51
  t26 := Try.underlying3
  a26 := Try.isAgg3
  z26 := Try.sizeOf3
  v26 := Try.zeroValue3
  t28 := Try.underlying73
  a28 := Try.isAgg73
  z28 := Try.sizeOf73
  v28 := Try.zeroValue73
  i26 := by kernel_rfl }
def laysSortI_ren : Go.Shelf.Ren := ⟨fun | 5 => 48 | 8 => 53 | 7 => 52 | 19 => 65 | 20 => 66 | 10 => 56 | 11 => 57 | 12 => 58 | 13 => 59 | 14 => 60 | 15 => 61 | 16 => 62 | 17 => 63 | 18 => 64 | 30 => 68 | 31 => 69 | 32 => 70 | 33 => 71 | 34 => 72 | 35 => 73 | 40 => 75 | n => n, fun | 23 => 51 | 25 => 3 | 3 => 3 | 32 => 78 | 22 => 51 | 0 => 0 | 44 => 101 | 46 => 22 | 4 => 4 | 36 => 95 | 35 => 94 | 41 => 84 | 5 => 5 | 9 => 9 | 53 => 103 | 57 => 107 | 63 => 109 | 64 => 110 | n => n, fun | n => n⟩
theorem laysSortI : Go.Proofs.SlLaysM.n5 Try.prog laysSortI_ren := {
  mixed := by kernel_rfl
  f5 := ⟨Try.f48.name, by decide, Try.func48.trans (congrArg some (by kernel_rfl))⟩
  f7 := ⟨Try.f52.name, by decide, Try.func52.trans (congrArg some (by kernel_rfl))⟩
  f8 := Try.func53.trans (congrArg some (by kernel_rfl))
  f10 := ⟨Try.f56.name, by decide, Try.func56.trans (congrArg some (by kernel_rfl))⟩
  f11 := ⟨Try.f57.name, by decide, Try.func57.trans (congrArg some (by kernel_rfl))⟩
  f12 := ⟨Try.f58.name, by decide, Try.func58.trans (congrArg some (by kernel_rfl))⟩
  f13 := ⟨Try.f59.name, by decide, Try.func59.trans (congrArg some (by kernel_rfl))⟩
  f14 := ⟨Try.f60.name, by decide, Try.func60.trans (congrArg some (by kernel_rfl))⟩
  f15 := ⟨Try.f61.name, by decide, Try.func61.trans (congrArg some (by kernel_rfl))⟩
  f16 := ⟨Try.f62.name, by decide, Try.func62.trans (congrArg some (by kernel_rfl))⟩
  f17 := ⟨Try.f63.name, by decide, Try.func63.trans (congrArg some (by kernel_rfl))⟩
  f18 := ⟨Try.f64.name, by decide, Try.func64.trans (congrArg some (by kernel_rfl))⟩
  f19 := Try.func65.trans (congrArg some (by kernel_rfl))
  f20 := Try.func66.trans (congrArg some (by kernel_rfl))
  f30 := ⟨Try.f68.name, by decide, Try.func68.trans (congrArg some (by kernel_rfl))⟩
  f31 := Try.func69.trans (congrArg some (by kernel_rfl))
  f32 := Try.func70.trans (congrArg some (by kernel_rfl))
  f33 := ⟨Try.f71.name, by decide, Try.func71.trans (congrArg some (by kernel_rfl))⟩
  f34 := ⟨Try.f72.name, by decide, Try.func72.trans (congrArg some (by kernel_rfl))⟩
  f35 := ⟨Try.f73.name, by decide, Try.func73.trans (congrArg some (by kernel_rfl))⟩
  f40 := ⟨Try.f75.name, by decide, Try.func75.trans (congrArg some (by kernel_rfl))⟩
  t0 := Try.underlying0
  a0 := Try.isAgg0
  z0 := Try.sizeOf0
  v0 := Try.zeroValue0
  t3 := Try.underlying3
  a3 := Try.isAgg3
  z3 := Try.sizeOf3
  v3 := Try.zeroValue3
  t4 := Try.underlying4
  a4 := Try.isAgg4
  z4 := Try.sizeOf4
  v4 := Try.zeroValue4
  t5 := Try.underlying5
  a5 := Try.isAgg5
  z5 := Try.sizeOf5
  v5 := Try.zeroValue5
  t9 := Try.underlying9
  a9 := Try.isAgg9
  z9 := Try.sizeOf9
  v9 := Try.zeroValue9
  t22 := Try.underlying51
  a22 := Try.isAgg51
  z22 := Try.sizeOf51
  v22 := Try.zeroValue51
  t23 := Try.underlying51
  a23 := Try.isAgg51
  z23 := Try.sizeOf51
  v23 := Try.zeroValue51
  t25 := Try.underlying3
  a25 := Try.isAgg3
  z25 := Try.sizeOf3
  v25 := Try.zeroValue3
  t32 := Try.underlying78
  a32 := Try.isAgg78
  z32 := Try.sizeOf78
  v32 := Try.zeroValue78
  t35 := Try.underlying94
  a35 := Try.isAgg94
  z35 := Try.sizeOf94
  v35 := Try.zeroValue94
  t36 := Try.underlying95
  a36 := Try.isAgg95
  z36 := Try.sizeOf95
  v36 := Try.zeroValue95
  t41 := Try.underlying84
  a41 := Try.isAgg84
  z41 := Try.sizeOf84
  v41 := Try.zeroValue84
  t44 := Try.underlying101
  a44 := Try.isAgg101
  z44 := Try.sizeOf101
  v44 := Try.zeroValue101
  t46 := Try.underlying22
  a46 := Try.isAgg22
  z46 := Try.sizeOf22
  v46 := Try.zeroValue22
  t53 := Try.underlying103
  a53 := Try.isAgg103
  z53 := Try.sizeOf103
  v53 := Try.zeroValue103
  t57 := Try.underlying107
  a57 := Try.isAgg107
  z57 := Try.sizeOf107
  v57 := Try.zeroValue107
  t63 := Try.underlying109
  a63 := Try.isAgg109
  z63 := Try.sizeOf109
  v63 := Try.zeroValue109
  t64 := Try.underlying110
  a64 := Try.isAgg110
  z64 := Try.sizeOf110
  v64 := Try.zeroValue110 }

theorem sortsIn (m : Nat) : AnyZI.SortsIn Try.prog laysSorted_ren Fence.wide m :=
  ⟨fun blk off cap ss W hH hblk hsz => callsIn_wide.2 (AnyM.slices_Sort_int laysSortI blk off cap ss W hH hblk hsz),
   fun p cap W => callsIn_wide.2 (AnyM.slices_Sort_int_none laysSortI p cap W)⟩

theorem rising_sorted {s : St} (h : s.rising) : (s.map (·.1)).mergeSort leI = s.map (·.1) := by
  refine List.mergeSort_of_pairwise ?_
  refine List.pairwise_map.2 (h.imp fun {p q} hlt => ?_)
  simp only [leI, decide_eq_true_eq]
  omega

theorem keys_call (b : Nat) (w : World) : Calls Try.prog 37 #[.map (some b)] w fun e w' =>
    e = .returned (.func (.func 49) #[] #[.pointer (some ⟨w.heap.size, 0, none⟩)]) ∧ w' = w.alloc (.cells #[.map (some b)] 66 (0, 0)) :=
  (callsIn_wide (n := 5)).1 (AnyZI.keys_in laysKeys Fence.wide 5 trivial rfl (some b) w)

set_option maxHeartbeats 1000000 in
theorem sorted_call {w : World} {b : Nat} {s : St} (h : SMap w b s) (hl : s.length ≤ 100000) :
    Calls Try.prog 36 #[.func (.func 49) #[] #[.pointer (some ⟨w.heap.size, 0, none⟩)]] (w.alloc (.cells #[.map (some b)] 66 (0, 0))) fun e w' =>
      ∃ v, e = .returned v ∧ Owned .i64 3 w' v (s.map (·.1)) ∧ (∀ g, v.ownBlock = some g → w.heap.size < g) ∧ Below w.heap.size w w' := by
  have hown := h.own
  have hbl := hown.lt
  have hsz : Maps.size (stD s) = s.length := st_size s
  have hmax : Maps.size (stD s) ≤ maxLen := by rw [hsz]; unfold maxLen; omega
  have hbytes : Maps.size (stD s) * 8 ≤ 140737488355328 := by rw [hsz]; omega
  have hseq : SeqGives Fence.wide 2 Try.prog 49 #[.pointer (some ⟨w.heap.size, 0, none⟩)] encZ (fun ss => ss.Perm (intKeys (stD s))) (Maps.size (stD s)) (w.alloc (.cells #[.map (some b)] 66)) :=
    AnyZI.keys_gives (ρ := laysKeys_ren) { laysKeys with } Fence.wide _ trivial rfl (by omega) w.heap.size b _ (stD s) _ (by simp) (by simp) (by
      obtain ⟨es, clock, hb, Ft, hs, hD⟩ := hown
      exact ⟨es, clock, (Below.heap_alloc _ _ b hbl).trans hb, Ft, hs, hD⟩)
  have cS := AnyZI.sorted_in laysSorted Fence.wide 5 trivial trivial trivial trivial rfl (by omega) (sortsIn _) (enters_of Try.func48 (by kernel_rfl) rfl) 49 #[.pointer (some ⟨w.heap.size, 0, none⟩)] trivial (enters_of Try.func49 (by kernel_rfl) rfl) _ _ hmax hbytes _ hseq
  have cS' := (callsIn_wide (n := 5)).1 cS
  refine cS'.mono ?_
  rintro e w' ⟨v, ss, rfl, hS, hrow, _, hb⟩
  rw [st_keys] at hS
  have hss : ss.mergeSort leI = s.map (·.1) := (mergeSort_of_perm_i hS).trans (rising_sorted h.rising)
  have hlen : ss.length = s.length := by rw [hS.length_eq]; simp
  refine ⟨v, rfl, ?_, ?_, ?_⟩
  · unfold Owned
    rw [show (ss.mergeSort (fun x y => decide (x ≤ y))) = s.map (·.1) from hss, hlen] at hrow
    rw [List.length_map]
    exact ownsRow_base_a hrow (Nat.zero_le _)
  · intro g hg
    have := (World.ownsRow.lt hrow g hg).1
    simp at this
    omega
  · exact ((Below.refl _ w).alloc (Nat.le_refl _) _).trans (hb.mono (by simp))
end Go.Proofs.Ytpohehialkgigaa
