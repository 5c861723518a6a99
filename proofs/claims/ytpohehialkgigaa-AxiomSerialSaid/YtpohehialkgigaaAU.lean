/- awake: what the document fixes. -/
import Derived.Test.YtpohehialkgigaaAT
namespace Go.Proofs.Ytpohehialkgigaa
open Go.RowKit
def awC : Cl := ⟨2, 5, 0, 7, 0, 0, [], 0, 0⟩
def awD : Dl := ⟨1, 3, 3, 1, 2, [awC]⟩
theorem awGood : Good [awD] where
  few := by decide
  wf d hd := by
    simp only [List.mem_cons, List.not_mem_nil, or_false] at hd
    subst hd
    exact ⟨by decide, by decide, fun c hc => by
      simp only [awD, List.mem_cons, List.not_mem_nil, or_false] at hc
      subst hc
      exact ⟨by decide, by decide, by decide⟩, by decide⟩
  apart := by simp
  pairs d hd c hc := by
    simp only [List.mem_cons, List.not_mem_nil, or_false] at hd
    subst hd
    simp only [awD, List.mem_cons, List.not_mem_nil, or_false] at hc
    subst hc
    decide
theorem pair_new (w : World) (x y : Int) : PairsAt (w.alloc (.cells #[.int .i64 x, .int .i64 y] 42 (0, 0))) (.slice (some ⟨w.heap.size, 0, none⟩) 1 1) [(x, y)] := by
  refine .inr ⟨w.heap.size, 0, 1, rfl, by simp, by simp, fun i hi => ?_⟩
  obtain rfl : i = 0 := by simp at hi; omega
  exact ⟨by rw [blk_cell (blk_new _ _)]; rfl, by rw [blk_cell (blk_new _ _)]; rfl⟩
theorem aw1 : holdsD [awD] = (true, 0) := by kernel_rfl
theorem aw2 : atD [awD] 9 (-1) = [(5, 7)] := by kernel_rfl
theorem aw3 : serialD [awD] 1 = true := by kernel_rfl
theorem aw4 : serialD [awD] 2 = false := by kernel_rfl
theorem aw5 : writersD [awD] = true := by kernel_rfl
set_option maxRecDepth 100000 in
set_option maxHeartbeats 3200000 in
theorem awake_any (w : World) : Calls Try.prog 15 #[] w fun e w' => e = .returned (.bool true) ∧ Below w.heap.size w w' := by
  go_enter Try.func15, Try.ntmps15
  go_upto_region 2 with (first
    | (with_reducible show wpList Try.prog _ _ (Oper.mk _ (Op.buildSlice 23 1 _) _ _ _ _ :: _) _ _; refine build_call1 rfl (.tmp 5) rfl awC rfl ?_; simp only [Act.put, List.setIfInBounds_toArray, List.set_cons_zero, List.set_cons_succ])
    | (with_reducible show wpList Try.prog _ _ (Oper.mk _ (Op.buildSlice 37 1 _) _ _ _ _ :: _) _ _; refine build_deal1 rfl (.tmp 7) rfl awD rfl ?_; simp only [Act.put, List.setIfInBounds_toArray, List.set_cons_zero, List.set_cons_succ]))
  have hc1 := calls_new w [(awC, .slice none 0 0)] (by
    intro c hc
    simp only [List.mem_cons, List.not_mem_nil, or_false] at hc
    subst hc
    exact .inl ⟨rfl, _, _, rfl, fun _ => rfl⟩)
  have hd1 := deals_new (w.alloc (callsObj [(awC, .slice none 0 0)])) [(awD, .slice (some ⟨w.heap.size, 0, none⟩) 1 1)] (by
    intro c hc
    simp only [List.mem_cons, List.not_mem_nil, or_false] at hc
    subst hc
    exact hc1)
  have hb1 : Below w.heap.size w ((w.alloc (callsObj [(awC, .slice none 0 0)])).alloc (dealsObj [(awD, .slice (some ⟨w.heap.size, 0, none⟩) 1 1)])) := bl_alloc (bl_alloc (Below.refl _ _) _) _
  have e1 : (w.alloc (callsObj [(awC, .slice none 0 0)])).heap.size = w.heap.size + 1 := by simp
  rw [e1] at hd1 ⊢
  have HD : Hid (DealsAt ((w.alloc (callsObj [(awC, .slice none 0 0)])).alloc (dealsObj [(awD, .slice (some ⟨w.heap.size, 0, none⟩) 1 1)])) (.slice (some ⟨w.heap.size + 1, 0, none⟩) 1 1) [awD]) := Lib.hid hd1
  clear hc1 hd1 e1
  generalize (w.alloc (callsObj [(awC, .slice none 0 0)])).alloc (dealsObj [(awD, .slice (some ⟨w.heap.size, 0, none⟩) 1 1)]) = w1 at *
  generalize w.heap.size + 1 = g at *
  have HB1 := Lib.hid hb1
  clear hb1
  have hh := holds_all HD.out awGood
  rw [aw1] at hh
  have HH := Lib.hid hh
  clear hh
  go_wp2_with fail
  refine HH.out.mono ?_
  rintro e w2 ⟨rfl, hb2⟩
  have HD2 := Lib.hid (HD.out.later hb2)
  have HB2 := Lib.hid (bl_next HB1.out hb2)
  clear hb2 HH HD HB1
  have hs := state_any (when := 9) HD2.out awGood
  rw [aw2] at hs
  have HS := Lib.hid hs
  clear hs
  go_wp2_with fail
  refine HS.out.mono ?_
  rintro e w3 ⟨u, rfl, hu, hb3⟩
  have HD3 := Lib.hid (HD2.out.later hb3)
  have HB3 := Lib.hid (bl_next HB2.out hb3)
  have HSP := Lib.hid (same_pairs (hu.later (bl_alloc (Below.refl _ _) _)) (pair_new w3 5 7) (by decide) (by decide))
  have HP : Hid (∀ q, Below w3.heap.size w3 ((w3.alloc (.cells #[.int .i64 5, .int .i64 7] 42 (0, 0))).drewN q)) := Lib.hid fun q => below_drewN' (bl_alloc (Below.refl _ _) _) q
  obtain ⟨ua, uc, rfl, -⟩ := hu.form
  clear hu hb3 HS HD2 HB2
  go_wp2_with (with_reducible show wpList Try.prog _ _ (Oper.mk _ (Op.buildSlice 31 1 _) _ _ _ _ :: _) _ _; refine wpList_buildPair rfl (.tmp 16) rfl 5 7 rfl ?_; simp only [Act.put, List.setIfInBounds_toArray, List.set_cons_zero, List.set_cons_succ])
  refine HSP.out.mono ?_
  rintro e w4 ⟨rfl, q, rfl⟩
  have HD4 := Lib.hid (HD3.out.later (HP.out q))
  have HB4 := Lib.hid (bl_next HB3.out (HP.out q))
  clear HSP HP HD3 HB3
  generalize (w3.alloc (.cells #[.int .i64 5, .int .i64 7] 42 (0, 0))).drewN q = w4 at *
  have hs := serial_any (id := 1) HD4.out awGood
  rw [aw3] at hs
  have HS := Lib.hid hs
  clear hs
  go_wp2_with fail
  refine HS.out.mono ?_
  rintro e w5 ⟨rfl, hb5⟩
  have HD5 := Lib.hid (HD4.out.later hb5)
  have HB5 := Lib.hid (bl_next HB4.out hb5)
  clear hb5 HS HD4 HB4
  have hs := serial_any (id := 2) HD5.out awGood
  rw [aw4] at hs
  have HS := Lib.hid hs
  clear hs
  go_wp2_with fail
  refine HS.out.mono ?_
  rintro e w6 ⟨rfl, hb6⟩
  have HD6 := Lib.hid (HD5.out.later hb6)
  have HB6 := Lib.hid (bl_next HB5.out hb6)
  clear hb6 HS HD5 HB5
  have hs := writers_any HD6.out (by decide) awGood.wf
  rw [aw5] at hs
  have HS := Lib.hid hs
  clear hs
  go_wp2_with fail
  refine HS.out.mono ?_
  rintro e w7 ⟨rfl, hb7⟩
  have HB7 := Lib.hid (bl_next HB6.out hb7)
  clear hb7 HS HD6 HB6
  go_wp2_with fail
  go_ret
  exact ⟨rfl, HB7.out⟩
end Go.Proofs.Ytpohehialkgigaa
