/- AxiomSkew holds: two that each read what the other writes keep the weaker levels' axioms but for what they found, and not the strongest. No condition. -/
import Derived.Test.YtpohehialkgigaaAU
namespace Go.Proofs.Ytpohehialkgigaa
open Go.RowKit
def skewL (lv : Int) : List Dl := [baseD, ⟨2, lv, 3, 3, 5, [didC 1 1 10, didC 3 2 21]⟩, ⟨3, lv, 3, 4, 6, [didC 1 2 20, didC 3 1 11]⟩]
theorem did_wf {kind key v : Int} (h0 : (Lit.int .i64 kind).wf = true) (h1 : (Lit.int .i64 key).wf = true) (h2 : (Lit.int .i64 v).wf = true) : (didC kind key v).wf := by
  unfold didC
  split
  · exact ⟨rfl, h1, rfl⟩
  · exact ⟨h0, h1, h2⟩
theorem did_few (kind key v : Int) : (didC kind key v).pairs.length ≤ 1000000 := by unfold didC; split <;> exact Nat.zero_le _
theorem skew_good (lv : Int) : Good (skewL lv) where
  few := Nat.le_of_ble_eq_true rfl
  wf d hd := by
    simp only [skewL, List.mem_cons, List.not_mem_nil, or_false] at hd
    rcases hd with rfl | rfl | rfl
    all_goals
      refine ⟨rfl, rfl, fun c hc => ?_, Nat.le_of_ble_eq_true rfl⟩
      simp only [baseD, List.mem_cons, List.not_mem_nil, or_false] at hc
      rcases hc with rfl | rfl <;> exact did_wf rfl rfl rfl
  apart := by simp [skewL, baseD]
  pairs d hd c hc := by
    simp only [skewL, List.mem_cons, List.not_mem_nil, or_false] at hd
    rcases hd with rfl | rfl | rfl
    all_goals
      simp only [baseD, List.mem_cons, List.not_mem_nil, or_false] at hc
      rcases hc with rfl | rfl <;> exact did_few _ _ _
theorem sk_h1 : holdsD (skewL 1) = (true, 0) := by kernel_rfl
theorem sk_h2 : holdsD (skewL 2) = (false, 3) := by kernel_rfl
theorem sk_h3 : holdsD (skewL 3) = (false, 3) := by kernel_rfl
theorem sk_r1 : replayD (skewL 1) = (false, 3) := by kernel_rfl
theorem sk_s21 : snapshotD (skewL 1) 2 = true := by kernel_rfl
theorem sk_s31 : snapshotD (skewL 1) 3 = true := by kernel_rfl
theorem sk_e21 : serialD (skewL 1) 2 = true := by kernel_rfl
theorem sk_e31 : serialD (skewL 1) 3 = false := by kernel_rfl
theorem sk_p31 : repeatableD (skewL 1) 3 = false := by kernel_rfl
theorem sk_w1 : writersD (skewL 1) = true := by kernel_rfl
theorem sk_r2 : replayD (skewL 2) = (false, 3) := by kernel_rfl
theorem sk_s22 : snapshotD (skewL 2) 2 = true := by kernel_rfl
theorem sk_s32 : snapshotD (skewL 2) 3 = true := by kernel_rfl
theorem sk_e22 : serialD (skewL 2) 2 = true := by kernel_rfl
theorem sk_e32 : serialD (skewL 2) 3 = false := by kernel_rfl
theorem sk_p32 : repeatableD (skewL 2) 3 = false := by kernel_rfl
theorem sk_w2 : writersD (skewL 2) = true := by kernel_rfl
theorem sk_r3 : replayD (skewL 3) = (false, 3) := by kernel_rfl
theorem sk_s23 : snapshotD (skewL 3) 2 = true := by kernel_rfl
theorem sk_s33 : snapshotD (skewL 3) 3 = true := by kernel_rfl
theorem sk_e23 : serialD (skewL 3) 2 = true := by kernel_rfl
theorem sk_e33 : serialD (skewL 3) 3 = false := by kernel_rfl
theorem sk_p33 : repeatableD (skewL 3) 3 = false := by kernel_rfl
theorem sk_w3 : writersD (skewL 3) = true := by kernel_rfl
theorem level_of (a : Int) : ∃ n : Nat, bits .and .i64 a 255 = (n : Int) ∧ n < 256 := ⟨(a % 256).toNat, by rw [i64_and255]; omega, by omega⟩
set_option maxRecDepth 100000 in
set_option maxHeartbeats 12800000 in
theorem axiomSkew_walk {a0 : Int} {w : World} (_w0 : (Lit.int .i64 a0).wf = true) :
    Calls Try.prog 9 #[.int .i64 a0] w fun e w' => e = .returned (.bool true) ∧ Below w.heap.size w w' := by
  obtain ⟨n, hn, hn2⟩ := level_of a0
  obtain ⟨lv, hlv⟩ : ∃ lv : Int, lv = ((n % 3 : Nat) : Int) + 1 := ⟨_, rfl⟩
  have hl3 : lv = 1 ∨ lv = 2 ∨ lv = 3 := by omega
  have HLV := Lib.hid hlv
  have HL3 := Lib.hid hl3
  clear hlv hl3
  go_enter Try.func9, Try.ntmps9
  go_upto_region 1 with fail
  go_cut [0] from 8 to 11 (fun s0 wx => s0 = .int .i64 lv ∧ wx = w)
  case first =>
    --{c1
    have hr : (n : Int) % 3 = ((n % 3 : Nat) : Int) := by simp
    have hr2 : n % 3 < 3 := Nat.mod_lt _ (by decide)
    generalize n % 3 = r at *
    go_wp2_with fail
    go_meet
    case rel => exact ⟨by rw [HLV.out], rfl⟩
    --}c1
  case rest =>
  obtain ⟨rfl, rfl⟩ := hcut
  rename World => wi
  clear hn hn2 HLV
  have HB := Lib.hid (Below.refl wi.heap.size wi)
  have hg := skew_good lv
  have HG := Lib.hid hg
  clear hg
  go_wp2_with fail
  refine (base_any _).mono ?_
  rintro e w1 ⟨g0, rfl, hc0, hb1⟩
  have HC0 := Lib.hid hc0
  have HB := Lib.hid (bl_next HB.out hb1)
  clear hc0 hb1
  go_wp2_with fail
  refine (did_any 1 1 10 _).mono ?_
  rintro e w2 ⟨rfl, hb2⟩
  have HC0 := Lib.hid (HC0.out.later hb2)
  have HB := Lib.hid (bl_next HB.out hb2)
  clear hb2
  go_wp2_with fail
  refine (did_any 3 2 21 _).mono ?_
  rintro e w3 ⟨rfl, hb3⟩
  have HC0 := Lib.hid (HC0.out.later hb3)
  have HB := Lib.hid (bl_next HB.out hb3)
  clear hb3
  have hcn := calls_new w3 [(didC 1 1 10, .slice none 0 0), (didC 3 2 21, .slice none 0 0)] (by
    intro c hc
    simp only [List.mem_cons, List.not_mem_nil, or_false] at hc
    rcases hc with rfl | rfl <;> exact did_pairs _ _ _ _)
  have HC1 : Hid (CallsAt (w3.alloc (callsObj [(didC 1 1 10, .slice none 0 0), (didC 3 2 21, .slice none 0 0)])) (.slice (some ⟨w3.heap.size, 0, none⟩) 2 2) [didC 1 1 10, didC 3 2 21]) := Lib.hid hcn
  clear hcn
  have HC0 := Lib.hid (HC0.out.later (bl_alloc (Below.refl _ _) (callsObj [(didC 1 1 10, .slice none 0 0), (didC 3 2 21, .slice none 0 0)])))
  have HB := Lib.hid (bl_alloc HB.out (callsObj [(didC 1 1 10, .slice none 0 0), (didC 3 2 21, .slice none 0 0)]))
  go_wp2_with (with_reducible show wpList Try.prog _ _ (Oper.mk _ (Op.buildSlice 23 2 _) _ _ _ _ :: _) _ _; refine build_call2 rfl (.tmp 14) (.tmp 15) rfl (didC 1 1 10) (didC 3 2 21) rfl rfl ?_; simp only [Act.put, List.setIfInBounds_toArray, List.set_cons_zero, List.set_cons_succ])
  refine (deal_any 2 lv 3 5 _ _ _ _).mono ?_
  rintro e w4 ⟨rfl, hb4⟩
  have HC0 := Lib.hid (HC0.out.later hb4)
  have HC1 := Lib.hid (HC1.out.later hb4)
  have HB := Lib.hid (bl_next HB.out hb4)
  clear hb4
  go_wp2_with fail
  refine (did_any 1 2 20 _).mono ?_
  rintro e w5 ⟨rfl, hb5⟩
  have HC0 := Lib.hid (HC0.out.later hb5)
  have HC1 := Lib.hid (HC1.out.later hb5)
  have HB := Lib.hid (bl_next HB.out hb5)
  clear hb5
  go_wp2_with fail
  refine (did_any 3 1 11 _).mono ?_
  rintro e w6 ⟨rfl, hb6⟩
  have HC0 := Lib.hid (HC0.out.later hb6)
  have HC1 := Lib.hid (HC1.out.later hb6)
  have HB := Lib.hid (bl_next HB.out hb6)
  clear hb6
  have hcn := calls_new w6 [(didC 1 2 20, .slice none 0 0), (didC 3 1 11, .slice none 0 0)] (by
    intro c hc
    simp only [List.mem_cons, List.not_mem_nil, or_false] at hc
    rcases hc with rfl | rfl <;> exact did_pairs _ _ _ _)
  have HC2 : Hid (CallsAt (w6.alloc (callsObj [(didC 1 2 20, .slice none 0 0), (didC 3 1 11, .slice none 0 0)])) (.slice (some ⟨w6.heap.size, 0, none⟩) 2 2) [didC 1 2 20, didC 3 1 11]) := Lib.hid hcn
  clear hcn
  have HC0 := Lib.hid (HC0.out.later (bl_alloc (Below.refl _ _) (callsObj [(didC 1 2 20, .slice none 0 0), (didC 3 1 11, .slice none 0 0)])))
  have HC1 := Lib.hid (HC1.out.later (bl_alloc (Below.refl _ _) (callsObj [(didC 1 2 20, .slice none 0 0), (didC 3 1 11, .slice none 0 0)])))
  have HB := Lib.hid (bl_alloc HB.out (callsObj [(didC 1 2 20, .slice none 0 0), (didC 3 1 11, .slice none 0 0)]))
  go_wp2_with (with_reducible show wpList Try.prog _ _ (Oper.mk _ (Op.buildSlice 23 2 _) _ _ _ _ :: _) _ _; refine build_call2 rfl (.tmp 19) (.tmp 20) rfl (didC 1 2 20) (didC 3 1 11) rfl rfl ?_; simp only [Act.put, List.setIfInBounds_toArray, List.set_cons_zero, List.set_cons_succ])
  refine (deal_any 3 lv 4 6 _ _ _ _).mono ?_
  rintro e w7 ⟨rfl, hb7⟩
  have HC0 := Lib.hid (HC0.out.later hb7)
  have HC1 := Lib.hid (HC1.out.later hb7)
  have HC2 := Lib.hid (HC2.out.later hb7)
  have HB := Lib.hid (bl_next HB.out hb7)
  clear hb7
  have hdn := deals_new w7 [(baseD, .slice (some ⟨g0, 0, none⟩) 2 2), (⟨2, lv, 3, 3, 5, [didC 1 1 10, didC 3 2 21]⟩, .slice (some ⟨w3.heap.size, 0, none⟩) 2 2), (⟨3, lv, 3, 4, 6, [didC 1 2 20, didC 3 1 11]⟩, .slice (some ⟨w6.heap.size, 0, none⟩) 2 2)] (by
    intro c hc
    simp only [List.mem_cons, List.not_mem_nil, or_false] at hc
    rcases hc with rfl | rfl | rfl
    · exact HC0.out
    · exact HC1.out
    · exact HC2.out)
  have HD : Hid (DealsAt (w7.alloc (dealsObj [(baseD, .slice (some ⟨g0, 0, none⟩) 2 2), (⟨2, lv, 3, 3, 5, [didC 1 1 10, didC 3 2 21]⟩, .slice (some ⟨w3.heap.size, 0, none⟩) 2 2), (⟨3, lv, 3, 4, 6, [didC 1 2 20, didC 3 1 11]⟩, .slice (some ⟨w6.heap.size, 0, none⟩) 2 2)])) (.slice (some ⟨w7.heap.size, 0, none⟩) 3 3) [baseD, ⟨2, lv, 3, 3, 5, [didC 1 1 10, didC 3 2 21]⟩, ⟨3, lv, 3, 4, 6, [didC 1 2 20, didC 3 1 11]⟩]) := Lib.hid hdn
  clear hdn
  have HB := Lib.hid (bl_alloc HB.out (dealsObj [(baseD, .slice (some ⟨g0, 0, none⟩) 2 2), (⟨2, lv, 3, 3, 5, [didC 1 1 10, didC 3 2 21]⟩, .slice (some ⟨w3.heap.size, 0, none⟩) 2 2), (⟨3, lv, 3, 4, 6, [didC 1 2 20, didC 3 1 11]⟩, .slice (some ⟨w6.heap.size, 0, none⟩) 2 2)]))
  go_upto_region 3 with (with_reducible show wpList Try.prog _ _ (Oper.mk _ (Op.buildSlice 37 3 _) _ _ _ _ :: _) _ _; refine build_deal3 rfl (.tmp 12) (.tmp 17) (.tmp 22) rfl (baseD) (⟨2, lv, 3, 3, 5, [didC 1 1 10, didC 3 2 21]⟩) (⟨3, lv, 3, 4, 6, [didC 1 2 20, didC 3 1 11]⟩) rfl rfl rfl ?_; simp only [Act.put, List.setIfInBounds_toArray, List.set_cons_zero, List.set_cons_succ])
  generalize w7.alloc (dealsObj [(baseD, .slice (some ⟨g0, 0, none⟩) 2 2), (⟨2, lv, 3, 3, 5, [didC 1 1 10, didC 3 2 21]⟩, .slice (some ⟨w3.heap.size, 0, none⟩) 2 2), (⟨3, lv, 3, 4, 6, [didC 1 2 20, didC 3 1 11]⟩, .slice (some ⟨w6.heap.size, 0, none⟩) 2 2)]) = wd at *
  generalize w7.heap.size = gd at *
  clear HC0 HC1 HC2
  have HD1 : Hid (DealsAt wd (.slice (some ⟨gd, 0, none⟩) 3 3) (skewL lv)) := HD
  clear HD
  rcases HL3.out with rfl | rfl | rfl
  · --{L1
    have hs := holds_all HD1.out HG.out
    rw [sk_h1] at hs
    have HS := Lib.hid hs
    clear hs
    go_wp2_with fail
    refine HS.out.mono ?_
    rintro e w21 ⟨rfl, hb21⟩
    have HD1 := Lib.hid (HD1.out.later hb21)
    have HB := Lib.hid (bl_next HB.out hb21)
    clear hb21 HS
    have hs := replay_all HD1.out HG.out
    rw [sk_r1] at hs
    have HS := Lib.hid hs
    clear hs
    go_wp2_with fail
    refine HS.out.mono ?_
    rintro e w22 ⟨rfl, hb22⟩
    have HD1 := Lib.hid (HD1.out.later hb22)
    have HB := Lib.hid (bl_next HB.out hb22)
    clear hb22 HS
    have hs := snapshot_any (id := 2) HD1.out HG.out
    rw [sk_s21] at hs
    have HS := Lib.hid hs
    clear hs
    go_wp2_with fail
    refine HS.out.mono ?_
    rintro e w23 ⟨rfl, hb23⟩
    have HD1 := Lib.hid (HD1.out.later hb23)
    have HB := Lib.hid (bl_next HB.out hb23)
    clear hb23 HS
    have hs := snapshot_any (id := 3) HD1.out HG.out
    rw [sk_s31] at hs
    have HS := Lib.hid hs
    clear hs
    go_wp2_with fail
    refine HS.out.mono ?_
    rintro e w24 ⟨rfl, hb24⟩
    have HD1 := Lib.hid (HD1.out.later hb24)
    have HB := Lib.hid (bl_next HB.out hb24)
    clear hb24 HS
    have hs := serial_any (id := 2) HD1.out HG.out
    rw [sk_e21] at hs
    have HS := Lib.hid hs
    clear hs
    go_wp2_with fail
    refine HS.out.mono ?_
    rintro e w25 ⟨rfl, hb25⟩
    have HD1 := Lib.hid (HD1.out.later hb25)
    have HB := Lib.hid (bl_next HB.out hb25)
    clear hb25 HS
    have hs := serial_any (id := 3) HD1.out HG.out
    rw [sk_e31] at hs
    have HS := Lib.hid hs
    clear hs
    go_wp2_with fail
    refine HS.out.mono ?_
    rintro e w26 ⟨rfl, hb26⟩
    have HD1 := Lib.hid (HD1.out.later hb26)
    have HB := Lib.hid (bl_next HB.out hb26)
    clear hb26 HS
    have hs := repeatable_any (id := 3) HD1.out HG.out
    rw [sk_p31] at hs
    have HS := Lib.hid hs
    clear hs
    go_wp2_with fail
    refine HS.out.mono ?_
    rintro e w27 ⟨rfl, hb27⟩
    have HD1 := Lib.hid (HD1.out.later hb27)
    have HB := Lib.hid (bl_next HB.out hb27)
    clear hb27 HS
    have hs := writers_any HD1.out (by decide) HG.out.wf
    rw [sk_w1] at hs
    have HS := Lib.hid hs
    clear hs
    go_wp2_with fail
    refine HS.out.mono ?_
    rintro e w28 ⟨rfl, hb28⟩
    have HD1 := Lib.hid (HD1.out.later hb28)
    have HB := Lib.hid (bl_next HB.out hb28)
    clear hb28 HS
    go_wp2_with fail
    refine (awake_any _).mono ?_
    rintro e w99 ⟨rfl, hb99⟩
    have HB := Lib.hid (bl_next HB.out hb99)
    clear hb99
    go_wp2_with fail
    go_ret
    exact ⟨rfl, HB.out⟩
    --}L1
  · --{L2
    have hs := holds_all HD1.out HG.out
    rw [sk_h2] at hs
    have HS := Lib.hid hs
    clear hs
    go_wp2_with fail
    refine HS.out.mono ?_
    rintro e w21 ⟨rfl, hb21⟩
    have HD1 := Lib.hid (HD1.out.later hb21)
    have HB := Lib.hid (bl_next HB.out hb21)
    clear hb21 HS
    have hs := replay_all HD1.out HG.out
    rw [sk_r2] at hs
    have HS := Lib.hid hs
    clear hs
    go_wp2_with fail
    refine HS.out.mono ?_
    rintro e w22 ⟨rfl, hb22⟩
    have HD1 := Lib.hid (HD1.out.later hb22)
    have HB := Lib.hid (bl_next HB.out hb22)
    clear hb22 HS
    have hs := snapshot_any (id := 2) HD1.out HG.out
    rw [sk_s22] at hs
    have HS := Lib.hid hs
    clear hs
    go_wp2_with fail
    refine HS.out.mono ?_
    rintro e w23 ⟨rfl, hb23⟩
    have HD1 := Lib.hid (HD1.out.later hb23)
    have HB := Lib.hid (bl_next HB.out hb23)
    clear hb23 HS
    have hs := snapshot_any (id := 3) HD1.out HG.out
    rw [sk_s32] at hs
    have HS := Lib.hid hs
    clear hs
    go_wp2_with fail
    refine HS.out.mono ?_
    rintro e w24 ⟨rfl, hb24⟩
    have HD1 := Lib.hid (HD1.out.later hb24)
    have HB := Lib.hid (bl_next HB.out hb24)
    clear hb24 HS
    have hs := serial_any (id := 2) HD1.out HG.out
    rw [sk_e22] at hs
    have HS := Lib.hid hs
    clear hs
    go_wp2_with fail
    refine HS.out.mono ?_
    rintro e w25 ⟨rfl, hb25⟩
    have HD1 := Lib.hid (HD1.out.later hb25)
    have HB := Lib.hid (bl_next HB.out hb25)
    clear hb25 HS
    have hs := serial_any (id := 3) HD1.out HG.out
    rw [sk_e32] at hs
    have HS := Lib.hid hs
    clear hs
    go_wp2_with fail
    refine HS.out.mono ?_
    rintro e w26 ⟨rfl, hb26⟩
    have HD1 := Lib.hid (HD1.out.later hb26)
    have HB := Lib.hid (bl_next HB.out hb26)
    clear hb26 HS
    have hs := repeatable_any (id := 3) HD1.out HG.out
    rw [sk_p32] at hs
    have HS := Lib.hid hs
    clear hs
    go_wp2_with fail
    refine HS.out.mono ?_
    rintro e w27 ⟨rfl, hb27⟩
    have HD1 := Lib.hid (HD1.out.later hb27)
    have HB := Lib.hid (bl_next HB.out hb27)
    clear hb27 HS
    have hs := writers_any HD1.out (by decide) HG.out.wf
    rw [sk_w2] at hs
    have HS := Lib.hid hs
    clear hs
    go_wp2_with fail
    refine HS.out.mono ?_
    rintro e w28 ⟨rfl, hb28⟩
    have HD1 := Lib.hid (HD1.out.later hb28)
    have HB := Lib.hid (bl_next HB.out hb28)
    clear hb28 HS
    go_wp2_with fail
    refine (awake_any _).mono ?_
    rintro e w99 ⟨rfl, hb99⟩
    have HB := Lib.hid (bl_next HB.out hb99)
    clear hb99
    go_wp2_with fail
    go_ret
    exact ⟨rfl, HB.out⟩
    --}L2
  · --{L3
    have hs := holds_all HD1.out HG.out
    rw [sk_h3] at hs
    have HS := Lib.hid hs
    clear hs
    go_wp2_with fail
    refine HS.out.mono ?_
    rintro e w21 ⟨rfl, hb21⟩
    have HD1 := Lib.hid (HD1.out.later hb21)
    have HB := Lib.hid (bl_next HB.out hb21)
    clear hb21 HS
    have hs := replay_all HD1.out HG.out
    rw [sk_r3] at hs
    have HS := Lib.hid hs
    clear hs
    go_wp2_with fail
    refine HS.out.mono ?_
    rintro e w22 ⟨rfl, hb22⟩
    have HD1 := Lib.hid (HD1.out.later hb22)
    have HB := Lib.hid (bl_next HB.out hb22)
    clear hb22 HS
    have hs := snapshot_any (id := 2) HD1.out HG.out
    rw [sk_s23] at hs
    have HS := Lib.hid hs
    clear hs
    go_wp2_with fail
    refine HS.out.mono ?_
    rintro e w23 ⟨rfl, hb23⟩
    have HD1 := Lib.hid (HD1.out.later hb23)
    have HB := Lib.hid (bl_next HB.out hb23)
    clear hb23 HS
    have hs := snapshot_any (id := 3) HD1.out HG.out
    rw [sk_s33] at hs
    have HS := Lib.hid hs
    clear hs
    go_wp2_with fail
    refine HS.out.mono ?_
    rintro e w24 ⟨rfl, hb24⟩
    have HD1 := Lib.hid (HD1.out.later hb24)
    have HB := Lib.hid (bl_next HB.out hb24)
    clear hb24 HS
    have hs := serial_any (id := 2) HD1.out HG.out
    rw [sk_e23] at hs
    have HS := Lib.hid hs
    clear hs
    go_wp2_with fail
    refine HS.out.mono ?_
    rintro e w25 ⟨rfl, hb25⟩
    have HD1 := Lib.hid (HD1.out.later hb25)
    have HB := Lib.hid (bl_next HB.out hb25)
    clear hb25 HS
    have hs := serial_any (id := 3) HD1.out HG.out
    rw [sk_e33] at hs
    have HS := Lib.hid hs
    clear hs
    go_wp2_with fail
    refine HS.out.mono ?_
    rintro e w26 ⟨rfl, hb26⟩
    have HD1 := Lib.hid (HD1.out.later hb26)
    have HB := Lib.hid (bl_next HB.out hb26)
    clear hb26 HS
    have hs := repeatable_any (id := 3) HD1.out HG.out
    rw [sk_p33] at hs
    have HS := Lib.hid hs
    clear hs
    go_wp2_with fail
    refine HS.out.mono ?_
    rintro e w27 ⟨rfl, hb27⟩
    have HD1 := Lib.hid (HD1.out.later hb27)
    have HB := Lib.hid (bl_next HB.out hb27)
    clear hb27 HS
    have hs := writers_any HD1.out (by decide) HG.out.wf
    rw [sk_w3] at hs
    have HS := Lib.hid hs
    clear hs
    go_wp2_with fail
    refine HS.out.mono ?_
    rintro e w28 ⟨rfl, hb28⟩
    have HD1 := Lib.hid (HD1.out.later hb28)
    have HB := Lib.hid (bl_next HB.out hb28)
    clear hb28 HS
    go_wp2_with fail
    refine (awake_any _).mono ?_
    rintro e w99 ⟨rfl, hb99⟩
    have HB := Lib.hid (bl_next HB.out hb99)
    clear hb99
    go_wp2_with fail
    go_ret
    exact ⟨rfl, HB.out⟩
    --}L3
end Go.Proofs.Ytpohehialkgigaa
