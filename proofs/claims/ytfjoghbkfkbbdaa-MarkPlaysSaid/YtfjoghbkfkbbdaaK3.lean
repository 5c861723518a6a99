/- slices.Delete of one out of a row of pointers. -/
import Derived.Test.YtfjoghbkfkbbdaaK2
import Derived.Lib.SliceRun
namespace Go.Proofs.Ytfjoghbkfkbbdaa
open Go.RowKit

theorem zero_ptr (w : World) : (zeroValue 126).run Try.prog w = .ok (.pointer none) w := by kernel_rfl

set_option maxRecDepth 100000 in
set_option maxHeartbeats 3200000 in
theorem delete_cells (g cap i : Nat) (cur : Array Value) (ps : List Value) (w : World) (hi : i < ps.length) (hnc : ps.length ≤ cap) (hcm : cap ≤ maxLen) (hcs : cur.size = cap) (hb : w.heap[g]? = some (.cells cur 126 (0, 0)))
    (hj : ∀ j, j < ps.length → cur[j]? = ps[j]?) (h1 : ∀ p ∈ ps, p.oneCell' = true) :
    Calls Try.prog 77 #[.slice (some ⟨g, 0, none⟩) ps.length cap, .int .i64 i, .int .i64 ((i : Int) + 1)] w fun e w' =>
      e = .returned (.slice (some ⟨g, 0, none⟩) (ps.length - 1) cap) ∧ (w.drew.setCells g i (ps.drop (i + 1))).setCells g (ps.length - 1) [.pointer none] = w' := by
  obtain ⟨i0, hi0, hz0, hz1, hz2⟩ := info_parts info_ptr
  have hdl : (ps.drop (i + 1)).length = ps.length - (i + 1) := List.length_drop ..
  obtain ⟨A, hA, hsrc⟩ : ∃ A : Addr, (if cap = i + 1 then (⟨g, 0, none⟩ : Addr) else ⟨g, i + 1, none⟩) = A ∧ Hid (∀ t u, (ps.drop (i + 1))[t]? = some u → w.drew.cell? (A.add t) = some u) := by
    by_cases h : cap = i + 1
    · refine ⟨_, if_pos h, Lib.hid fun t u hu => ?_⟩
      have h0 : (ps.drop (i + 1)).length = 0 := by rw [hdl]; omega
      rw [List.length_eq_zero_iff.1 h0] at hu
      simp at hu
    · refine ⟨_, if_neg h, Lib.hid fun t u hu => ?_⟩
      have ht := (List.getElem?_eq_some_iff.1 hu).1
      rw [hdl] at ht
      rw [Go.WideShapes.add_plain]
      show w.cell? ⟨g, i + 1 + t, none⟩ = _
      rw [blk_cell hb, hj _ (by omega)]
      rwa [List.getElem?_drop] at hu
  have s1 := Lib.hid (show (ps.drop (i + 1)).length = (ps.length - (i + 1)) * 1 by rw [Nat.mul_one]; exact hdl)
  have s2 := Lib.hid (show ∀ u ∈ ps.drop (i + 1), u.oneCell' = true from fun u hu => h1 u (List.mem_of_mem_drop hu))
  have s3 := Lib.hid (show ∀ t, t < (ps.drop (i + 1)).length → (w.drew.cell? ⟨g, 0 + i * 1 + t, none⟩).isSome = true ∧ w.drew.frozen? ⟨g, 0 + i * 1 + t, none⟩ = false from fun t ht => by
    rw [hdl] at ht
    rw [show 0 + i * 1 + t = i + t by omega]
    refine ⟨?_, blk_free hb _⟩
    show (w.cell? _).isSome = true
    rw [blk_cell hb, hj _ (by omega), List.getElem?_eq_getElem (by omega)]
    rfl)
  obtain ⟨W1, hW1⟩ : ∃ W1, W1 = w.drew.setCells g (0 + i * 1) (ps.drop (i + 1)) := ⟨_, rfl⟩
  have hb1 : W1.heap[g]? = some (.cells (layA cur (0 + i * 1) (ps.drop (i + 1))) 126 (0, 0)) := by rw [hW1]; exact blk_setCells _ w.drew g _ _ _ hb
  have hcl : ∀ ty c, (Builtin.clear_ #[120] ty #[.slice (some ⟨g, ps.length - 1, none⟩) 1 c]).run Try.prog W1 = .ok (.tuple #[]) (W1.setCells g (ps.length - 1) [.pointer none]) :=
    fun ty c => Lib.run_clear_slice W1 _ _ ty _ Try.underlying120 zero_ptr rfl rfl g (ps.length - 1) 1 _ (by omega) (fun t ht => by
      rw [blk_cell hb1, Array.getElem?_eq_getElem (by rw [layA_size]; omega)]; rfl) (fun t ht => blk_free hb1 _)
  have hfin := Lib.hid (show W1 = w.drew.setCells g i (ps.drop (i + 1)) by rw [hW1]; simp)
  have hW := Lib.hid hW1
  rw [← hfin.out]
  obtain ⟨n, hn⟩ : ∃ n, ps.length = n + 1 := ⟨ps.length - 1, by omega⟩
  rw [hn] at hi hnc hcl s1 ⊢
  simp only [Nat.add_sub_cancel] at hcl ⊢
  have hc63 : cap ≤ 9223372036854775807 := by unfold maxLen at hcm; omega
  have hz2' : ¬ ((i : Int) = (i : Int) + 1) := by omega
  have x1 : (0 : Int) ≤ (i : Int) + 1 := by omega
  have x2 : ((i : Int) + 1).toNat = i + 1 := by omega
  have x3 : (i : Int) + 1 ≤ (n + 1 : Nat) := by omega
  have x4 : (i : Int) ≤ (i : Int) + 1 := by omega
  have x5 : (i : Int) ≤ cap := by omega
  have x6 : i ≤ cap := by omega
  have x7 : i + 1 ≤ cap := by omega
  have x8 : i + (n + 1 - (i + 1)) = n := by omega
  have x9 : ¬ cap = n := by omega
  have y1 : n ≤ cap := by omega
  have y3 : i ≤ n := by omega
  have y4 : i + (n - i) = n := by omega
  rw [show n + 1 - (i + 1) = n - i by omega] at s1
  have y2 : n + 1 - n = 1 := by omega
  clear hb hb1 hcs hj h1 hW1 hdl hfin
  by_cases hc : cap = i + 1
  · rw [if_pos hc] at hA
    subst hA
    subst hc
    obtain rfl : n = i := by omega
    rw [Nat.sub_self] at s1
    obtain rfl : W1 = w.drew := by
      rw [hW.out, List.length_eq_zero_iff.1 (show (ps.drop (n + 1)).length = 0 by rw [s1.out])]
      rfl
    go_enter Try.func77, Try.ntmps77
    go_wp2_with fail
    go_region_law (refine step_append_room rfl (.tmp 22) (.tmp 25) 120 rfl 126 i0 1 Try.underlying120 hi0 hz1 g 0 n (n + 1) (by simp [Act.eval, Act.put]) ⟨g, 0, none⟩ 0 0 (ps.drop (i + 1)) (by simp [Act.eval, Act.put]) s1.out hsrc.out s2.out (by omega) s3.out ?_; rw [← hW.out])
    go_wp2_with (simp only [hcl])
    go_ret
    exact ⟨rfl, rfl⟩
  · rw [if_neg hc] at hA
    subst hA
    go_enter Try.func77, Try.ntmps77
    go_wp2_with fail
    go_region_law (refine step_append_room rfl (.tmp 22) (.tmp 25) 120 rfl 126 i0 1 Try.underlying120 hi0 hz1 g 0 i cap (by simp [Act.eval, Act.put]) ⟨g, i + 1, none⟩ (n - i) (cap - (i + 1)) (ps.drop (i + 1)) (by simp [Act.eval, Act.put]) s1.out hsrc.out s2.out (by omega) s3.out ?_; rw [← hW.out])
    go_wp2_with (simp only [hcl])
    go_ret
    exact ⟨rfl, rfl⟩

theorem delete_one (v : Value) (ps : List Value) (i : Nat) (w : World) (h : PtrRow w v ps) (hi : i < ps.length) :
    Calls Try.prog 77 #[v, .int .i64 i, .int .i64 ((i : Int) + 1)] w fun e w' => ∃ v', e = .returned v' ∧ PtrRow w' v' (ps.take i ++ ps.drop (i + 1)) ∧ Mod (fun k => v.ownBlock = some k) w w' ∧ v'.ownBlock = v.ownBlock := by
  rcases h.form with ⟨rfl, rfl⟩ | ⟨g, cap, cur, rfl, hb, h2, h3, h4, h5⟩
  · simp at hi
  · refine (delete_cells g cap i cur ps w hi h2 h3 h4 hb h5 h.2).mono fun e w' r => ?_
    obtain ⟨rfl, rfl⟩ := r
    have hb2 := blk_setCells [.pointer none] _ g (ps.length - 1) _ _ (blk_setCells (ps.drop (i + 1)) w.drew g i _ _ hb)
    have hdl : (ps.drop (i + 1)).length = ps.length - (i + 1) := List.length_drop ..
    have htl : (ps.take i).length = i := by rw [List.length_take]; omega
    have hil : (ps.take i ++ ps.drop (i + 1)).length = ps.length - 1 := by rw [List.length_append, hdl, htl]; omega
    have hrow : PtrRow ((w.drew.setCells g i (ps.drop (i + 1))).setCells g (ps.length - 1) [.pointer none]) (.slice (some ⟨g, 0, none⟩) (ps.take i ++ ps.drop (i + 1)).length cap) (ps.take i ++ ps.drop (i + 1)) := by
      refine PtrRow.of hb2 (by omega) h3 (by rw [layA_size, layA_size]; exact h4) (fun j hj => ?_) (fun p hp => ?_)
      · rw [hil] at hj
        rw [layA_out _ _ _ _ (by omega)]
        by_cases c1 : j < i
        · rw [layA_out _ _ _ _ (by omega), h5 _ (by omega), List.getElem?_append_left (by omega), List.getElem?_take_of_lt c1]
        · rw [List.getElem?_append_right (by omega), htl, List.getElem?_drop]
          have := layA_in (ps.drop (i + 1)) cur i (j - i) (by rw [hdl, h4]; omega) (by rw [hdl]; omega)
          rw [show i + (j - i) = j by omega, List.getElem?_drop] at this
          exact this
      · rcases List.mem_append.1 hp with hp | hp
        · exact h.2 p (List.mem_of_mem_take hp)
        · exact h.2 p (List.mem_of_mem_drop hp)
    rw [hil] at hrow
    exact ⟨_, rfl, hrow, ((Mod.refl _ w).drew.trans ((mod_setCells _ _ g _).trans (mod_setCells _ _ g _)) : Mod (fun k => k = g) w _).mono (fun k hk => .inl (by rw [hk]; rfl)), rfl⟩
end Go.Proofs.Ytfjoghbkfkbbdaa
