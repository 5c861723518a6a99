/- AxiomDirty holds: one that read what another one wrote who was aborted, or who committed behind the reader's end, keeps no axiom. No condition. -/
import Derived.Test.YtpohehialkgigaaAU
namespace Go.Proofs.Ytpohehialkgigaa
open Go.RowKit
def dirtyL (lv st en : Int) : List Dl := [baseD, ⟨2, lv, 3, 4, 6, [didC 1 1 99]⟩, ⟨3, 3, st, 3, en, [didC 3 1 99]⟩]
theorem did_wf {kind key v : Int} (h0 : (Lit.int .i64 kind).wf = true) (h1 : (Lit.int .i64 key).wf = true) (h2 : (Lit.int .i64 v).wf = true) : (didC kind key v).wf := by
  unfold didC
  split
  · exact ⟨rfl, h1, rfl⟩
  · exact ⟨h0, h1, h2⟩
theorem did_few (kind key v : Int) : (didC kind key v).pairs.length ≤ 1000000 := by unfold didC; split <;> exact Nat.zero_le _
theorem dirty_good {lv st en : Int} (h : (st = 3 ∧ en = 9) ∨ (st = 4 ∧ en = 0)) : Good (dirtyL lv st en) where
  few := Nat.le_of_ble_eq_true rfl
  wf d hd := by
    simp only [dirtyL, List.mem_cons, List.not_mem_nil, or_false] at hd
    rcases hd with rfl | rfl | rfl
    · refine ⟨rfl, rfl, fun c hc => ?_, Nat.le_of_ble_eq_true rfl⟩
      simp only [baseD, List.mem_cons, List.not_mem_nil, or_false] at hc
      rcases hc with rfl | rfl <;> exact did_wf rfl rfl rfl
    · refine ⟨rfl, rfl, fun c hc => ?_, Nat.le_of_ble_eq_true rfl⟩
      simp only [List.mem_cons, List.not_mem_nil, or_false] at hc
      subst hc
      exact did_wf rfl rfl rfl
    · refine ⟨rfl, by rcases h with ⟨_, rfl⟩ | ⟨_, rfl⟩ <;> rfl, fun c hc => ?_, Nat.le_of_ble_eq_true rfl⟩
      simp only [List.mem_cons, List.not_mem_nil, or_false] at hc
      subst hc
      exact did_wf rfl rfl rfl
  apart := by
    rcases h with ⟨rfl, rfl⟩ | ⟨rfl, rfl⟩ <;> simp [dirtyL, baseD]
  pairs d hd c hc := by
    simp only [dirtyL, List.mem_cons, List.not_mem_nil, or_false] at hd
    rcases hd with rfl | rfl | rfl
    · simp only [baseD, List.mem_cons, List.not_mem_nil, or_false] at hc
      rcases hc with rfl | rfl <;> exact did_few _ _ _
    · simp only [List.mem_cons, List.not_mem_nil, or_false] at hc
      subst hc
      exact did_few _ _ _
    · simp only [List.mem_cons, List.not_mem_nil, or_false] at hc
      subst hc
      exact did_few _ _ _
theorem di_h1a : holdsD (dirtyL 1 3 9) = (false, 2) := by kernel_rfl
theorem di_s1a : snapshotD (dirtyL 1 3 9) 2 = false := by kernel_rfl
theorem di_e1a : serialD (dirtyL 1 3 9) 2 = false := by kernel_rfl
theorem di_p1a : repeatableD (dirtyL 1 3 9) 2 = false := by kernel_rfl
theorem di_h1b : holdsD (dirtyL 1 4 0) = (false, 2) := by kernel_rfl
theorem di_s1b : snapshotD (dirtyL 1 4 0) 2 = false := by kernel_rfl
theorem di_e1b : serialD (dirtyL 1 4 0) 2 = false := by kernel_rfl
theorem di_p1b : repeatableD (dirtyL 1 4 0) 2 = false := by kernel_rfl
theorem di_h2a : holdsD (dirtyL 2 3 9) = (false, 2) := by kernel_rfl
theorem di_s2a : snapshotD (dirtyL 2 3 9) 2 = false := by kernel_rfl
theorem di_e2a : serialD (dirtyL 2 3 9) 2 = false := by kernel_rfl
theorem di_p2a : repeatableD (dirtyL 2 3 9) 2 = false := by kernel_rfl
theorem di_h2b : holdsD (dirtyL 2 4 0) = (false, 2) := by kernel_rfl
theorem di_s2b : snapshotD (dirtyL 2 4 0) 2 = false := by kernel_rfl
theorem di_e2b : serialD (dirtyL 2 4 0) 2 = false := by kernel_rfl
theorem di_p2b : repeatableD (dirtyL 2 4 0) 2 = false := by kernel_rfl
theorem di_h3a : holdsD (dirtyL 3 3 9) = (false, 2) := by kernel_rfl
theorem di_s3a : snapshotD (dirtyL 3 3 9) 2 = false := by kernel_rfl
theorem di_e3a : serialD (dirtyL 3 3 9) 2 = false := by kernel_rfl
theorem di_p3a : repeatableD (dirtyL 3 3 9) 2 = false := by kernel_rfl
theorem di_h3b : holdsD (dirtyL 3 4 0) = (false, 2) := by kernel_rfl
theorem di_s3b : snapshotD (dirtyL 3 4 0) 2 = false := by kernel_rfl
theorem di_e3b : serialD (dirtyL 3 4 0) 2 = false := by kernel_rfl
theorem di_p3b : repeatableD (dirtyL 3 4 0) 2 = false := by kernel_rfl
theorem level_of (a : Int) : ∃ n : Nat, bits .and .i64 a 255 = (n : Int) ∧ n < 256 := ⟨(a % 256).toNat, by rw [i64_and255]; omega, by omega⟩
set_option maxRecDepth 100000 in
set_option maxHeartbeats 12800000 in
theorem axiomDirty_walk {a0 : Int} {a1 : Bool} {w : World} (_w0 : (Lit.int .i64 a0).wf = true) :
    Calls Try.prog 5 #[.int .i64 a0, .bool a1] w fun e w' => e = .returned (.bool true) ∧ Below w.heap.size w w' := by
  obtain ⟨n, hn, hn2⟩ := level_of a0
  obtain ⟨lv, hlv⟩ : ∃ lv : Int, lv = ((n % 3 : Nat) : Int) + 1 := ⟨_, rfl⟩
  have hl3 : lv = 1 ∨ lv = 2 ∨ lv = 3 := by omega
  have HLV := Lib.hid hlv
  have HL3 := Lib.hid hl3
  clear hlv hl3
  go_enter Try.func5, Try.ntmps5
  go_upto_region 1 with fail
  go_cut [0] from 9 to 12 (fun s0 wx => s0 = .int .i64 lv ∧ wx = w)
  case first =>
    have hr : (n : Int) % 3 = ((n % 3 : Nat) : Int) := by simp
    have hr2 : n % 3 < 3 := Nat.mod_lt _ (by decide)
    generalize n % 3 = r at *
    go_wp2_with fail
    go_meet
    case rel => exact ⟨by rw [HLV.out], rfl⟩
  case rest =>
  obtain ⟨rfl, rfl⟩ := hcut
  rename World => wi
  clear hn hn2 HLV
  have HB := Lib.hid (Below.refl wi.heap.size wi)
  go_wp2_with fail
  refine (did_any 3 1 99 _).mono ?_
  rintro e w1 ⟨rfl, hb1⟩
  have HB := Lib.hid (bl_next HB.out hb1)
  clear hb1
  have hcn := calls_new w1 [(didC 3 1 99, .slice none 0 0)] (by
    intro c hc
    simp only [List.mem_cons, List.not_mem_nil, or_false] at hc
    rcases hc with rfl <;> exact did_pairs _ _ _ _)
  have HC1 : Hid (CallsAt (w1.alloc (callsObj [(didC 3 1 99, .slice none 0 0)])) (.slice (some ⟨w1.heap.size, 0, none⟩) 1 1) [didC 3 1 99]) := Lib.hid hcn
  clear hcn
  have HB := Lib.hid (bl_alloc HB.out (callsObj [(didC 3 1 99, .slice none 0 0)]))
  go_wp2_with (with_reducible show wpList Try.prog _ _ (Oper.mk _ (Op.buildSlice 23 1 _) _ _ _ _ :: _) _ _; refine build_call1 rfl (.tmp 13) rfl (didC 3 1 99) rfl ?_; simp only [Act.put, List.setIfInBounds_toArray, List.set_cons_zero, List.set_cons_succ])
  refine (deal_any 3 3 3 9 _ _ _ _).mono ?_
  rintro e w2 ⟨rfl, hb2⟩
  have HC1 := Lib.hid (HC1.out.later hb2)
  have HB := Lib.hid (bl_next HB.out hb2)
  clear hb2
  generalize w1.heap.size = gx at *
  cases a1
  · skip
    have hbk := blk_new w2 (.cells #[.int .i64 3, .int .i64 3, .int .i64 3, .int .u64 3, .int .u64 9, .slice (some ⟨gx, 0, none⟩) 1 1] 25 (0, 0))
    have hb9 := bl_alloc HB.out (.cells #[.int .i64 3, .int .i64 3, .int .i64 3, .int .u64 3, .int .u64 9, .slice (some ⟨gx, 0, none⟩) 1 1] 25 (0, 0))
    have hc9 := HC1.out.later (bl_alloc (Below.refl _ _) (.cells #[.int .i64 3, .int .i64 3, .int .i64 3, .int .u64 3, .int .u64 9, .slice (some ⟨gx, 0, none⟩) 1 1] 25 (0, 0)))
    go_upto_region 5 with fail
    generalize w2.alloc (.cells #[.int .i64 3, .int .i64 3, .int .i64 3, .int .u64 3, .int .u64 9, .slice (some ⟨gx, 0, none⟩) 1 1] 25 (0, 0)) = w5 at *
    generalize w2.heap.size = b5 at *
    have x0 := blk_cell hbk 0
    have x1 := blk_cell hbk 1
    have x2 := blk_cell hbk 2
    have x3 := blk_cell hbk 3
    have x4 := blk_cell hbk 4
    have x5 := blk_cell hbk 5
    simp at x0 x1 x2 x3 x4 x5
    have hbl := blk_lt hbk
    have HFL : Hid (∀ W, Below w5.heap.size w5 W → W.cell? ⟨b5, 0, none⟩ = some (.int .i64 3) ∧ W.cell? ⟨b5, 1, none⟩ = some (.int .i64 3) ∧ W.cell? ⟨b5, 2, none⟩ = some (.int .i64 3) ∧ W.cell? ⟨b5, 3, none⟩ = some (.int .u64 3) ∧ W.cell? ⟨b5, 4, none⟩ = some (.int .u64 9) ∧ W.cell? ⟨b5, 5, none⟩ = some (.slice (some ⟨gx, 0, none⟩) 1 1)) := Lib.hid fun W hW => ⟨(hW.cell (p := ⟨b5, 0, none⟩) hbl).trans x0, (hW.cell (p := ⟨b5, 1, none⟩) hbl).trans x1, (hW.cell (p := ⟨b5, 2, none⟩) hbl).trans x2, (hW.cell (p := ⟨b5, 3, none⟩) hbl).trans x3, (hW.cell (p := ⟨b5, 4, none⟩) hbl).trans x4, (hW.cell (p := ⟨b5, 5, none⟩) hbl).trans x5⟩
    have HDR : Hid (Below w5.heap.size w5 w5.drew) := Lib.hid (below_drewN' (Below.refl _ _) 1)
    have HBA : Hid (∀ W, Below w5.heap.size w5 W → Calls Try.prog 11 #[] W fun e w' => ∃ g, e = .returned (.agg #[.int .i64 1, .int .i64 3, .int .i64 3, .int .u64 1, .int .u64 2, .slice (some ⟨g, 0, none⟩) 2 2]) ∧ CallsAt w' (.slice (some ⟨g, 0, none⟩) 2 2) baseD.ops ∧ Below w5.heap.size w5 w') := Lib.hid fun W hW => (base_any W).mono fun _ _ ⟨g, h1, h2, h3⟩ => ⟨g, h1, h2, bl_next hW h3⟩
    have HDI : Hid (∀ W, Below w5.heap.size w5 W → Calls Try.prog 13 #[.int .i64 1, .int .i64 1, .int .i64 99] W fun e w' => e = .returned (.agg #[.int .i64 1, .int .i64 1, .int .i64 0, .int .i64 0, .int .i64 0, .int .i64 99, .slice none 0 0, .int .i64 0, .int .i64 0]) ∧ Below W.heap.size W w' ∧ Below w5.heap.size w5 w') := Lib.hid fun W hW => (did_any 1 1 99 W).mono fun _ _ ⟨h1, h2⟩ => ⟨h1, h2, bl_next hW h2⟩
    have HDE : Hid (∀ W g, Below w5.heap.size w5 W → Calls Try.prog 12 #[.int .i64 2, .int .i64 lv, .int .u64 4, .int .u64 6, .slice (some ⟨g, 0, none⟩) 1 1] W fun e w' => e = .returned (.agg #[.int .i64 2, .int .i64 lv, .int .i64 3, .int .u64 4, .int .u64 6, .slice (some ⟨g, 0, none⟩) 1 1]) ∧ Below W.heap.size W w' ∧ Below w5.heap.size w5 w') := Lib.hid fun W g hW => (deal_any 2 lv 4 6 (some ⟨g, 0, none⟩) 1 1 W).mono fun _ _ ⟨h1, h2⟩ => ⟨h1, h2, bl_next hW h2⟩
    have HB9 := Lib.hid hb9
    have HC9 := Lib.hid hc9
    clear hb9 hc9 hbk hbl x0 x1 x2 x3 x4 x5 HB HC1
    go_region_held3 (fun W => W.cell? ⟨b5, 0, none⟩ = some (.int .i64 3) ∧ W.cell? ⟨b5, 1, none⟩ = some (.int .i64 3) ∧ W.cell? ⟨b5, 2, none⟩ = some (.int .i64 3) ∧ W.cell? ⟨b5, 3, none⟩ = some (.int .u64 3) ∧ W.cell? ⟨b5, 4, none⟩ = some (.int .u64 9) ∧ W.cell? ⟨b5, 5, none⟩ = some (.slice (some ⟨gx, 0, none⟩) 1 1))
      (first | exact HFL.out _ (by assumption) | exact HFL.out _ HDR.out | exact HFL.out _ (bl_alloc (by assumption) _))
      (first
        | (((with_reducible refine (HBA.out _ ?_).mono ?_); (first | assumption | exact HDR.out); rintro e w6 ⟨g0, rfl, hc0, hb6⟩))
        | (((with_reducible refine (HDI.out _ ?_).mono ?_); (first | assumption | exact HDR.out); rintro e w7 ⟨rfl, hb7, hb7a⟩))
        | (((with_reducible refine (HDE.out _ _ ?_).mono ?_); (exact bl_alloc (by assumption) _); rintro e w8 ⟨rfl, hb8, hb8a⟩)))
    have hq1 := (calls_block (w := w7.alloc (.cells #[.int .i64 1, .int .i64 1, .int .i64 0, .int .i64 0, .int .i64 0, .int .i64 99, .slice none 0 0, .int .i64 0, .int .i64 0] 35 (0, 0))) (T := 35) (l := [(didC 1 1 99, .slice none 0 0)]) (blk_new w7 _) (by
      intro c hc
      simp only [List.mem_cons, List.not_mem_nil, or_false] at hc
      subst hc
      exact did_pairs _ _ _ _)).later hb8
    have hq0 := ((hc0.later hb7).later (bl_alloc (Below.refl _ _) (.cells #[.int .i64 1, .int .i64 1, .int .i64 0, .int .i64 0, .int .i64 0, .int .i64 99, .slice none 0 0, .int .i64 0, .int .i64 0] 35 (0, 0)))).later hb8
    have hq2 := HC9.out.later hb8a
    have hdd := deals_block (w := w8.alloc (.cells #[.int .i64 1, .int .i64 3, .int .i64 3, .int .u64 1, .int .u64 2, .slice (some ⟨g0, 0, none⟩) 2 2, .int .i64 2, .int .i64 lv, .int .i64 3, .int .u64 4, .int .u64 6, .slice (some ⟨w7.heap.size, 0, none⟩) 1 1, .int .i64 3, .int .i64 3, .int .i64 3, .int .u64 3, .int .u64 9, .slice (some ⟨gx, 0, none⟩) 1 1] 25 (0, 0))) (T := 25) (l := [(baseD, .slice (some ⟨g0, 0, none⟩) 2 2), (⟨2, lv, 3, 4, 6, [didC 1 1 99]⟩, .slice (some ⟨w7.heap.size, 0, none⟩) 1 1), (⟨3, 3, 3, 3, 9, [didC 3 1 99]⟩, .slice (some ⟨gx, 0, none⟩) 1 1)]) (blk_new w8 _) (by
      intro c hc
      simp only [List.mem_cons, List.not_mem_nil, or_false] at hc
      rcases hc with rfl | rfl | rfl
      · exact hq0.later (bl_alloc (Below.refl _ _) _)
      · exact hq1.later (bl_alloc (Below.refl _ _) _)
      · exact hq2.later (bl_alloc (Below.refl _ _) _))
    have HD1 : Hid (DealsAt (w8.alloc (.cells #[.int .i64 1, .int .i64 3, .int .i64 3, .int .u64 1, .int .u64 2, .slice (some ⟨g0, 0, none⟩) 2 2, .int .i64 2, .int .i64 lv, .int .i64 3, .int .u64 4, .int .u64 6, .slice (some ⟨w7.heap.size, 0, none⟩) 1 1, .int .i64 3, .int .i64 3, .int .i64 3, .int .u64 3, .int .u64 9, .slice (some ⟨gx, 0, none⟩) 1 1] 25 (0, 0))) (.slice (some ⟨w8.heap.size, 0, none⟩) 3 3) (dirtyL lv 3 9)) := Lib.hid hdd
    have HB := Lib.hid (bl_next HB9.out (bl_alloc hb8a (.cells #[.int .i64 1, .int .i64 3, .int .i64 3, .int .u64 1, .int .u64 2, .slice (some ⟨g0, 0, none⟩) 2 2, .int .i64 2, .int .i64 lv, .int .i64 3, .int .u64 4, .int .u64 6, .slice (some ⟨w7.heap.size, 0, none⟩) 1 1, .int .i64 3, .int .i64 3, .int .i64 3, .int .u64 3, .int .u64 9, .slice (some ⟨gx, 0, none⟩) 1 1] 25 (0, 0))))
    have HG := Lib.hid (dirty_good (lv := lv) (st := 3) (en := 9) (by decide))
    clear hq0 hq1 hq2 hdd hb6 hb7 hb7a hb8 hb8a hc0 HBA HDI HDE HFL HDR HC9 HB9
    generalize w8.alloc (.cells #[.int .i64 1, .int .i64 3, .int .i64 3, .int .u64 1, .int .u64 2, .slice (some ⟨g0, 0, none⟩) 2 2, .int .i64 2, .int .i64 lv, .int .i64 3, .int .u64 4, .int .u64 6, .slice (some ⟨w7.heap.size, 0, none⟩) 1 1, .int .i64 3, .int .i64 3, .int .i64 3, .int .u64 3, .int .u64 9, .slice (some ⟨gx, 0, none⟩) 1 1] 25 (0, 0)) = wd at *
    generalize w8.heap.size = gd at *
    rcases HL3.out with rfl | rfl | rfl
    · skip
      have hs := holds_all HD1.out HG.out
      rw [di_h1a] at hs
      have HS := Lib.hid hs
      clear hs
      go_wp2_with fail
      refine HS.out.mono ?_
      rintro e w21 ⟨rfl, hb21⟩
      have HD1 := Lib.hid (HD1.out.later hb21)
      have HB := Lib.hid (bl_next HB.out hb21)
      clear hb21 HS
      have hs := snapshot_any (id := 2) HD1.out HG.out
      rw [di_s1a] at hs
      have HS := Lib.hid hs
      clear hs
      go_wp2_with fail
      refine HS.out.mono ?_
      rintro e w22 ⟨rfl, hb22⟩
      have HD1 := Lib.hid (HD1.out.later hb22)
      have HB := Lib.hid (bl_next HB.out hb22)
      clear hb22 HS
      have hs := serial_any (id := 2) HD1.out HG.out
      rw [di_e1a] at hs
      have HS := Lib.hid hs
      clear hs
      go_wp2_with fail
      refine HS.out.mono ?_
      rintro e w23 ⟨rfl, hb23⟩
      have HD1 := Lib.hid (HD1.out.later hb23)
      have HB := Lib.hid (bl_next HB.out hb23)
      clear hb23 HS
      have hs := repeatable_any (id := 2) HD1.out HG.out
      rw [di_p1a] at hs
      have HS := Lib.hid hs
      clear hs
      go_wp2_with fail
      refine HS.out.mono ?_
      rintro e w24 ⟨rfl, hb24⟩
      have HD1 := Lib.hid (HD1.out.later hb24)
      have HB := Lib.hid (bl_next HB.out hb24)
      clear hb24 HS
      go_wp2_with fail
      refine (awake_any _).mono ?_
      rintro e w99 ⟨rfl, hb99⟩
      have HB := Lib.hid (bl_next HB.out hb99)
      clear hb99
      go_wp2_with fail
      go_ret
      exact ⟨rfl, HB.out⟩
    · skip
      have hs := holds_all HD1.out HG.out
      rw [di_h2a] at hs
      have HS := Lib.hid hs
      clear hs
      go_wp2_with fail
      refine HS.out.mono ?_
      rintro e w21 ⟨rfl, hb21⟩
      have HD1 := Lib.hid (HD1.out.later hb21)
      have HB := Lib.hid (bl_next HB.out hb21)
      clear hb21 HS
      have hs := snapshot_any (id := 2) HD1.out HG.out
      rw [di_s2a] at hs
      have HS := Lib.hid hs
      clear hs
      go_wp2_with fail
      refine HS.out.mono ?_
      rintro e w22 ⟨rfl, hb22⟩
      have HD1 := Lib.hid (HD1.out.later hb22)
      have HB := Lib.hid (bl_next HB.out hb22)
      clear hb22 HS
      have hs := serial_any (id := 2) HD1.out HG.out
      rw [di_e2a] at hs
      have HS := Lib.hid hs
      clear hs
      go_wp2_with fail
      refine HS.out.mono ?_
      rintro e w23 ⟨rfl, hb23⟩
      have HD1 := Lib.hid (HD1.out.later hb23)
      have HB := Lib.hid (bl_next HB.out hb23)
      clear hb23 HS
      have hs := repeatable_any (id := 2) HD1.out HG.out
      rw [di_p2a] at hs
      have HS := Lib.hid hs
      clear hs
      go_wp2_with fail
      refine HS.out.mono ?_
      rintro e w24 ⟨rfl, hb24⟩
      have HD1 := Lib.hid (HD1.out.later hb24)
      have HB := Lib.hid (bl_next HB.out hb24)
      clear hb24 HS
      go_wp2_with fail
      refine (awake_any _).mono ?_
      rintro e w99 ⟨rfl, hb99⟩
      have HB := Lib.hid (bl_next HB.out hb99)
      clear hb99
      go_wp2_with fail
      go_ret
      exact ⟨rfl, HB.out⟩
    · skip
      have hs := holds_all HD1.out HG.out
      rw [di_h3a] at hs
      have HS := Lib.hid hs
      clear hs
      go_wp2_with fail
      refine HS.out.mono ?_
      rintro e w21 ⟨rfl, hb21⟩
      have HD1 := Lib.hid (HD1.out.later hb21)
      have HB := Lib.hid (bl_next HB.out hb21)
      clear hb21 HS
      have hs := snapshot_any (id := 2) HD1.out HG.out
      rw [di_s3a] at hs
      have HS := Lib.hid hs
      clear hs
      go_wp2_with fail
      refine HS.out.mono ?_
      rintro e w22 ⟨rfl, hb22⟩
      have HD1 := Lib.hid (HD1.out.later hb22)
      have HB := Lib.hid (bl_next HB.out hb22)
      clear hb22 HS
      have hs := serial_any (id := 2) HD1.out HG.out
      rw [di_e3a] at hs
      have HS := Lib.hid hs
      clear hs
      go_wp2_with fail
      refine HS.out.mono ?_
      rintro e w23 ⟨rfl, hb23⟩
      have HD1 := Lib.hid (HD1.out.later hb23)
      have HB := Lib.hid (bl_next HB.out hb23)
      clear hb23 HS
      have hs := repeatable_any (id := 2) HD1.out HG.out
      rw [di_p3a] at hs
      have HS := Lib.hid hs
      clear hs
      go_wp2_with fail
      refine HS.out.mono ?_
      rintro e w24 ⟨rfl, hb24⟩
      have HD1 := Lib.hid (HD1.out.later hb24)
      have HB := Lib.hid (bl_next HB.out hb24)
      clear hb24 HS
      go_wp2_with fail
      refine (awake_any _).mono ?_
      rintro e w99 ⟨rfl, hb99⟩
      have HB := Lib.hid (bl_next HB.out hb99)
      clear hb99
      go_wp2_with fail
      go_ret
      exact ⟨rfl, HB.out⟩
  · skip
    have hbk := blk_new w2 (.cells #[.int .i64 3, .int .i64 3, .int .i64 4, .int .u64 3, .int .u64 0, .slice (some ⟨gx, 0, none⟩) 1 1] 25 (0, 0))
    have hb9 := bl_alloc HB.out (.cells #[.int .i64 3, .int .i64 3, .int .i64 4, .int .u64 3, .int .u64 0, .slice (some ⟨gx, 0, none⟩) 1 1] 25 (0, 0))
    have hc9 := HC1.out.later (bl_alloc (Below.refl _ _) (.cells #[.int .i64 3, .int .i64 3, .int .i64 4, .int .u64 3, .int .u64 0, .slice (some ⟨gx, 0, none⟩) 1 1] 25 (0, 0)))
    go_upto_region 5 with fail
    generalize w2.alloc (.cells #[.int .i64 3, .int .i64 3, .int .i64 4, .int .u64 3, .int .u64 0, .slice (some ⟨gx, 0, none⟩) 1 1] 25 (0, 0)) = w5 at *
    generalize w2.heap.size = b5 at *
    have x0 := blk_cell hbk 0
    have x1 := blk_cell hbk 1
    have x2 := blk_cell hbk 2
    have x3 := blk_cell hbk 3
    have x4 := blk_cell hbk 4
    have x5 := blk_cell hbk 5
    simp at x0 x1 x2 x3 x4 x5
    have hbl := blk_lt hbk
    have HFL : Hid (∀ W, Below w5.heap.size w5 W → W.cell? ⟨b5, 0, none⟩ = some (.int .i64 3) ∧ W.cell? ⟨b5, 1, none⟩ = some (.int .i64 3) ∧ W.cell? ⟨b5, 2, none⟩ = some (.int .i64 4) ∧ W.cell? ⟨b5, 3, none⟩ = some (.int .u64 3) ∧ W.cell? ⟨b5, 4, none⟩ = some (.int .u64 0) ∧ W.cell? ⟨b5, 5, none⟩ = some (.slice (some ⟨gx, 0, none⟩) 1 1)) := Lib.hid fun W hW => ⟨(hW.cell (p := ⟨b5, 0, none⟩) hbl).trans x0, (hW.cell (p := ⟨b5, 1, none⟩) hbl).trans x1, (hW.cell (p := ⟨b5, 2, none⟩) hbl).trans x2, (hW.cell (p := ⟨b5, 3, none⟩) hbl).trans x3, (hW.cell (p := ⟨b5, 4, none⟩) hbl).trans x4, (hW.cell (p := ⟨b5, 5, none⟩) hbl).trans x5⟩
    have HDR : Hid (Below w5.heap.size w5 w5.drew) := Lib.hid (below_drewN' (Below.refl _ _) 1)
    have HBA : Hid (∀ W, Below w5.heap.size w5 W → Calls Try.prog 11 #[] W fun e w' => ∃ g, e = .returned (.agg #[.int .i64 1, .int .i64 3, .int .i64 3, .int .u64 1, .int .u64 2, .slice (some ⟨g, 0, none⟩) 2 2]) ∧ CallsAt w' (.slice (some ⟨g, 0, none⟩) 2 2) baseD.ops ∧ Below w5.heap.size w5 w') := Lib.hid fun W hW => (base_any W).mono fun _ _ ⟨g, h1, h2, h3⟩ => ⟨g, h1, h2, bl_next hW h3⟩
    have HDI : Hid (∀ W, Below w5.heap.size w5 W → Calls Try.prog 13 #[.int .i64 1, .int .i64 1, .int .i64 99] W fun e w' => e = .returned (.agg #[.int .i64 1, .int .i64 1, .int .i64 0, .int .i64 0, .int .i64 0, .int .i64 99, .slice none 0 0, .int .i64 0, .int .i64 0]) ∧ Below W.heap.size W w' ∧ Below w5.heap.size w5 w') := Lib.hid fun W hW => (did_any 1 1 99 W).mono fun _ _ ⟨h1, h2⟩ => ⟨h1, h2, bl_next hW h2⟩
    have HDE : Hid (∀ W g, Below w5.heap.size w5 W → Calls Try.prog 12 #[.int .i64 2, .int .i64 lv, .int .u64 4, .int .u64 6, .slice (some ⟨g, 0, none⟩) 1 1] W fun e w' => e = .returned (.agg #[.int .i64 2, .int .i64 lv, .int .i64 3, .int .u64 4, .int .u64 6, .slice (some ⟨g, 0, none⟩) 1 1]) ∧ Below W.heap.size W w' ∧ Below w5.heap.size w5 w') := Lib.hid fun W g hW => (deal_any 2 lv 4 6 (some ⟨g, 0, none⟩) 1 1 W).mono fun _ _ ⟨h1, h2⟩ => ⟨h1, h2, bl_next hW h2⟩
    have HB9 := Lib.hid hb9
    have HC9 := Lib.hid hc9
    clear hb9 hc9 hbk hbl x0 x1 x2 x3 x4 x5 HB HC1
    go_region_held3 (fun W => W.cell? ⟨b5, 0, none⟩ = some (.int .i64 3) ∧ W.cell? ⟨b5, 1, none⟩ = some (.int .i64 3) ∧ W.cell? ⟨b5, 2, none⟩ = some (.int .i64 4) ∧ W.cell? ⟨b5, 3, none⟩ = some (.int .u64 3) ∧ W.cell? ⟨b5, 4, none⟩ = some (.int .u64 0) ∧ W.cell? ⟨b5, 5, none⟩ = some (.slice (some ⟨gx, 0, none⟩) 1 1))
      (first | exact HFL.out _ (by assumption) | exact HFL.out _ HDR.out | exact HFL.out _ (bl_alloc (by assumption) _))
      (first
        | (((with_reducible refine (HBA.out _ ?_).mono ?_); (first | assumption | exact HDR.out); rintro e w6 ⟨g0, rfl, hc0, hb6⟩))
        | (((with_reducible refine (HDI.out _ ?_).mono ?_); (first | assumption | exact HDR.out); rintro e w7 ⟨rfl, hb7, hb7a⟩))
        | (((with_reducible refine (HDE.out _ _ ?_).mono ?_); (exact bl_alloc (by assumption) _); rintro e w8 ⟨rfl, hb8, hb8a⟩)))
    have hq1 := (calls_block (w := w7.alloc (.cells #[.int .i64 1, .int .i64 1, .int .i64 0, .int .i64 0, .int .i64 0, .int .i64 99, .slice none 0 0, .int .i64 0, .int .i64 0] 35 (0, 0))) (T := 35) (l := [(didC 1 1 99, .slice none 0 0)]) (blk_new w7 _) (by
      intro c hc
      simp only [List.mem_cons, List.not_mem_nil, or_false] at hc
      subst hc
      exact did_pairs _ _ _ _)).later hb8
    have hq0 := ((hc0.later hb7).later (bl_alloc (Below.refl _ _) (.cells #[.int .i64 1, .int .i64 1, .int .i64 0, .int .i64 0, .int .i64 0, .int .i64 99, .slice none 0 0, .int .i64 0, .int .i64 0] 35 (0, 0)))).later hb8
    have hq2 := HC9.out.later hb8a
    have hdd := deals_block (w := w8.alloc (.cells #[.int .i64 1, .int .i64 3, .int .i64 3, .int .u64 1, .int .u64 2, .slice (some ⟨g0, 0, none⟩) 2 2, .int .i64 2, .int .i64 lv, .int .i64 3, .int .u64 4, .int .u64 6, .slice (some ⟨w7.heap.size, 0, none⟩) 1 1, .int .i64 3, .int .i64 3, .int .i64 4, .int .u64 3, .int .u64 0, .slice (some ⟨gx, 0, none⟩) 1 1] 25 (0, 0))) (T := 25) (l := [(baseD, .slice (some ⟨g0, 0, none⟩) 2 2), (⟨2, lv, 3, 4, 6, [didC 1 1 99]⟩, .slice (some ⟨w7.heap.size, 0, none⟩) 1 1), (⟨3, 3, 4, 3, 0, [didC 3 1 99]⟩, .slice (some ⟨gx, 0, none⟩) 1 1)]) (blk_new w8 _) (by
      intro c hc
      simp only [List.mem_cons, List.not_mem_nil, or_false] at hc
      rcases hc with rfl | rfl | rfl
      · exact hq0.later (bl_alloc (Below.refl _ _) _)
      · exact hq1.later (bl_alloc (Below.refl _ _) _)
      · exact hq2.later (bl_alloc (Below.refl _ _) _))
    have HD1 : Hid (DealsAt (w8.alloc (.cells #[.int .i64 1, .int .i64 3, .int .i64 3, .int .u64 1, .int .u64 2, .slice (some ⟨g0, 0, none⟩) 2 2, .int .i64 2, .int .i64 lv, .int .i64 3, .int .u64 4, .int .u64 6, .slice (some ⟨w7.heap.size, 0, none⟩) 1 1, .int .i64 3, .int .i64 3, .int .i64 4, .int .u64 3, .int .u64 0, .slice (some ⟨gx, 0, none⟩) 1 1] 25 (0, 0))) (.slice (some ⟨w8.heap.size, 0, none⟩) 3 3) (dirtyL lv 4 0)) := Lib.hid hdd
    have HB := Lib.hid (bl_next HB9.out (bl_alloc hb8a (.cells #[.int .i64 1, .int .i64 3, .int .i64 3, .int .u64 1, .int .u64 2, .slice (some ⟨g0, 0, none⟩) 2 2, .int .i64 2, .int .i64 lv, .int .i64 3, .int .u64 4, .int .u64 6, .slice (some ⟨w7.heap.size, 0, none⟩) 1 1, .int .i64 3, .int .i64 3, .int .i64 4, .int .u64 3, .int .u64 0, .slice (some ⟨gx, 0, none⟩) 1 1] 25 (0, 0))))
    have HG := Lib.hid (dirty_good (lv := lv) (st := 4) (en := 0) (by decide))
    clear hq0 hq1 hq2 hdd hb6 hb7 hb7a hb8 hb8a hc0 HBA HDI HDE HFL HDR HC9 HB9
    generalize w8.alloc (.cells #[.int .i64 1, .int .i64 3, .int .i64 3, .int .u64 1, .int .u64 2, .slice (some ⟨g0, 0, none⟩) 2 2, .int .i64 2, .int .i64 lv, .int .i64 3, .int .u64 4, .int .u64 6, .slice (some ⟨w7.heap.size, 0, none⟩) 1 1, .int .i64 3, .int .i64 3, .int .i64 4, .int .u64 3, .int .u64 0, .slice (some ⟨gx, 0, none⟩) 1 1] 25 (0, 0)) = wd at *
    generalize w8.heap.size = gd at *
    rcases HL3.out with rfl | rfl | rfl
    · skip
      have hs := holds_all HD1.out HG.out
      rw [di_h1b] at hs
      have HS := Lib.hid hs
      clear hs
      go_wp2_with fail
      refine HS.out.mono ?_
      rintro e w21 ⟨rfl, hb21⟩
      have HD1 := Lib.hid (HD1.out.later hb21)
      have HB := Lib.hid (bl_next HB.out hb21)
      clear hb21 HS
      have hs := snapshot_any (id := 2) HD1.out HG.out
      rw [di_s1b] at hs
      have HS := Lib.hid hs
      clear hs
      go_wp2_with fail
      refine HS.out.mono ?_
      rintro e w22 ⟨rfl, hb22⟩
      have HD1 := Lib.hid (HD1.out.later hb22)
      have HB := Lib.hid (bl_next HB.out hb22)
      clear hb22 HS
      have hs := serial_any (id := 2) HD1.out HG.out
      rw [di_e1b] at hs
      have HS := Lib.hid hs
      clear hs
      go_wp2_with fail
      refine HS.out.mono ?_
      rintro e w23 ⟨rfl, hb23⟩
      have HD1 := Lib.hid (HD1.out.later hb23)
      have HB := Lib.hid (bl_next HB.out hb23)
      clear hb23 HS
      have hs := repeatable_any (id := 2) HD1.out HG.out
      rw [di_p1b] at hs
      have HS := Lib.hid hs
      clear hs
      go_wp2_with fail
      refine HS.out.mono ?_
      rintro e w24 ⟨rfl, hb24⟩
      have HD1 := Lib.hid (HD1.out.later hb24)
      have HB := Lib.hid (bl_next HB.out hb24)
      clear hb24 HS
      go_wp2_with fail
      refine (awake_any _).mono ?_
      rintro e w99 ⟨rfl, hb99⟩
      have HB := Lib.hid (bl_next HB.out hb99)
      clear hb99
      go_wp2_with fail
      go_ret
      exact ⟨rfl, HB.out⟩
    · skip
      have hs := holds_all HD1.out HG.out
      rw [di_h2b] at hs
      have HS := Lib.hid hs
      clear hs
      go_wp2_with fail
      refine HS.out.mono ?_
      rintro e w21 ⟨rfl, hb21⟩
      have HD1 := Lib.hid (HD1.out.later hb21)
      have HB := Lib.hid (bl_next HB.out hb21)
      clear hb21 HS
      have hs := snapshot_any (id := 2) HD1.out HG.out
      rw [di_s2b] at hs
      have HS := Lib.hid hs
      clear hs
      go_wp2_with fail
      refine HS.out.mono ?_
      rintro e w22 ⟨rfl, hb22⟩
      have HD1 := Lib.hid (HD1.out.later hb22)
      have HB := Lib.hid (bl_next HB.out hb22)
      clear hb22 HS
      have hs := serial_any (id := 2) HD1.out HG.out
      rw [di_e2b] at hs
      have HS := Lib.hid hs
      clear hs
      go_wp2_with fail
      refine HS.out.mono ?_
      rintro e w23 ⟨rfl, hb23⟩
      have HD1 := Lib.hid (HD1.out.later hb23)
      have HB := Lib.hid (bl_next HB.out hb23)
      clear hb23 HS
      have hs := repeatable_any (id := 2) HD1.out HG.out
      rw [di_p2b] at hs
      have HS := Lib.hid hs
      clear hs
      go_wp2_with fail
      refine HS.out.mono ?_
      rintro e w24 ⟨rfl, hb24⟩
      have HD1 := Lib.hid (HD1.out.later hb24)
      have HB := Lib.hid (bl_next HB.out hb24)
      clear hb24 HS
      go_wp2_with fail
      refine (awake_any _).mono ?_
      rintro e w99 ⟨rfl, hb99⟩
      have HB := Lib.hid (bl_next HB.out hb99)
      clear hb99
      go_wp2_with fail
      go_ret
      exact ⟨rfl, HB.out⟩
    · skip
      have hs := holds_all HD1.out HG.out
      rw [di_h3b] at hs
      have HS := Lib.hid hs
      clear hs
      go_wp2_with fail
      refine HS.out.mono ?_
      rintro e w21 ⟨rfl, hb21⟩
      have HD1 := Lib.hid (HD1.out.later hb21)
      have HB := Lib.hid (bl_next HB.out hb21)
      clear hb21 HS
      have hs := snapshot_any (id := 2) HD1.out HG.out
      rw [di_s3b] at hs
      have HS := Lib.hid hs
      clear hs
      go_wp2_with fail
      refine HS.out.mono ?_
      rintro e w22 ⟨rfl, hb22⟩
      have HD1 := Lib.hid (HD1.out.later hb22)
      have HB := Lib.hid (bl_next HB.out hb22)
      clear hb22 HS
      have hs := serial_any (id := 2) HD1.out HG.out
      rw [di_e3b] at hs
      have HS := Lib.hid hs
      clear hs
      go_wp2_with fail
      refine HS.out.mono ?_
      rintro e w23 ⟨rfl, hb23⟩
      have HD1 := Lib.hid (HD1.out.later hb23)
      have HB := Lib.hid (bl_next HB.out hb23)
      clear hb23 HS
      have hs := repeatable_any (id := 2) HD1.out HG.out
      rw [di_p3b] at hs
      have HS := Lib.hid hs
      clear hs
      go_wp2_with fail
      refine HS.out.mono ?_
      rintro e w24 ⟨rfl, hb24⟩
      have HD1 := Lib.hid (HD1.out.later hb24)
      have HB := Lib.hid (bl_next HB.out hb24)
      clear hb24 HS
      go_wp2_with fail
      refine (awake_any _).mono ?_
      rintro e w99 ⟨rfl, hb99⟩
      have HB := Lib.hid (bl_next HB.out hb99)
      clear hb99
      go_wp2_with fail
      go_ret
      exact ⟨rfl, HB.out⟩
end Go.Proofs.Ytpohehialkgigaa
