/- AxiomPhantom holds: a range that was read, into which another one put a key ahead of the reader's end, holds by the reader's begin, and not by its end. No condition. -/
import Derived.Test.YtpohehialkgigaaAU
namespace Go.Proofs.Ytpohehialkgigaa
open Go.RowKit
def scanC : Cl := ⟨5, 0, 63, 0, 0, 0, [(1, 10), (2, 20)], 0, 0⟩
def phantomL (lv k : Int) : List Dl := [baseD, ⟨2, lv, 3, 3, 6, [scanC]⟩, ⟨3, 3, 3, 4, 5, [didC 2 k 7]⟩]
theorem did_wf {kind key v : Int} (h0 : (Lit.int .i64 kind).wf = true) (h1 : (Lit.int .i64 key).wf = true) (h2 : (Lit.int .i64 v).wf = true) : (didC kind key v).wf := by
  unfold didC
  split
  · exact ⟨rfl, h1, rfl⟩
  · exact ⟨h0, h1, h2⟩
theorem did_few (kind key v : Int) : (didC kind key v).pairs.length ≤ 1000000 := by unfold didC; split <;> exact Nat.zero_le _
theorem phantom_good {lv k : Int} (hk : (Lit.int .i64 k).wf = true) : Good (phantomL lv k) where
  few := Nat.le_of_ble_eq_true rfl
  wf d hd := by
    simp only [phantomL, List.mem_cons, List.not_mem_nil, or_false] at hd
    rcases hd with rfl | rfl | rfl
    · refine ⟨rfl, rfl, fun c hc => ?_, Nat.le_of_ble_eq_true rfl⟩
      simp only [baseD, List.mem_cons, List.not_mem_nil, or_false] at hc
      rcases hc with rfl | rfl <;> exact did_wf rfl rfl rfl
    · refine ⟨rfl, rfl, fun c hc => ?_, Nat.le_of_ble_eq_true rfl⟩
      simp only [List.mem_cons, List.not_mem_nil, or_false] at hc
      subst hc
      exact ⟨rfl, rfl, rfl⟩
    · refine ⟨rfl, rfl, fun c hc => ?_, Nat.le_of_ble_eq_true rfl⟩
      simp only [List.mem_cons, List.not_mem_nil, or_false] at hc
      subst hc
      exact did_wf rfl hk rfl
  apart := by simp [phantomL, baseD]
  pairs d hd c hc := by
    simp only [phantomL, List.mem_cons, List.not_mem_nil, or_false] at hd
    rcases hd with rfl | rfl | rfl
    · simp only [baseD, List.mem_cons, List.not_mem_nil, or_false] at hc
      rcases hc with rfl | rfl <;> exact did_few _ _ _
    · simp only [List.mem_cons, List.not_mem_nil, or_false] at hc
      subst hc
      exact Nat.le_of_ble_eq_true rfl
    · simp only [List.mem_cons, List.not_mem_nil, or_false] at hc
      subst hc
      exact did_few _ _ _
/-- What is told of the three, key by key. -/
def phTold (lv k : Int) : Bool := (holdsD (phantomL lv k) == (if lv = 3 then (false, 2) else (true, 0))) && snapshotD (phantomL lv k) 2 && !serialD (phantomL lv k) 2 && repeatableD (phantomL lv k) 2 && serialD (phantomL lv k) 3
theorem ph_all : ((List.range 3).all fun i => (List.range 32).all fun j => phTold ((i : Int) + 1) ((j : Int) + 10)) = true := by kernel_rfl
theorem ph_at {i j : Nat} (hi : i < 3) (hj : j < 32) : phTold ((i : Int) + 1) ((j : Int) + 10) = true := by
  have := ph_all
  simp only [List.all_eq_true, List.mem_range] at this
  exact this i hi j hj
theorem level_of (a : Int) : ∃ n : Nat, bits .and .i64 a 255 = (n : Int) ∧ n < 256 := ⟨(a % 256).toNat, by rw [i64_and255]; omega, by omega⟩
theorem key_of (a : Int) : ∃ n : Nat, bits .and .i64 a 31 = (n : Int) ∧ n < 32 := ⟨(a % 32).toNat, by rw [i64_and31]; omega, by omega⟩
set_option maxRecDepth 100000 in
set_option maxHeartbeats 12800000 in
theorem axiomPhantom_walk {a0 a1 : Int} {w : World} (_w0 : (Lit.int .i64 a0).wf = true) (_w1 : (Lit.int .i64 a1).wf = true) :
    Calls Try.prog 4 #[.int .i64 a0, .int .i64 a1] w fun e w' => e = .returned (.bool true) ∧ Below w.heap.size w w' := by
  obtain ⟨n, hn, hn2⟩ := level_of a0
  obtain ⟨m, hm, hm2⟩ := key_of a1
  obtain ⟨lv, hlv⟩ : ∃ lv : Int, lv = ((n % 3 : Nat) : Int) + 1 := ⟨_, rfl⟩
  obtain ⟨k, hk⟩ : ∃ k : Int, k = (m : Int) + 10 := ⟨_, rfl⟩
  have htold : phTold lv k = true := by rw [hlv, hk]; exact ph_at (Nat.mod_lt _ (by decide)) hm2
  have hl3 : lv = 1 ∨ lv = 2 ∨ lv = 3 := by omega
  have WK : Hid ((Lit.int .i64 k).wf = true) := Lib.hid (WalkArith.wf_i64 (by omega))
  have HLV := Lib.hid hlv
  have HK := Lib.hid hk
  have HL3 := Lib.hid hl3
  have HT := Lib.hid htold
  clear hlv hl3 htold hk
  go_enter Try.func4, Try.ntmps4
  go_upto_region 1 with fail
  go_cut [0, 1] from 9 to 15 (fun s0 s1 wx => s0 = .int .i64 lv ∧ s1 = .int .i64 k ∧ wx = w)
  case first =>
    have hr : (n : Int) % 3 = ((n % 3 : Nat) : Int) := by simp
    have hr2 : n % 3 < 3 := Nat.mod_lt _ (by decide)
    generalize n % 3 = r at *
    go_wp2_with fail
    go_meet
    case rel => exact ⟨by rw [HLV.out], by rw [HK.out], rfl⟩
  case rest =>
  obtain ⟨rfl, rfl, rfl⟩ := hcut
  rename World => wi
  clear hn hn2 HLV hm hm2 HK
  have HB := Lib.hid (Below.refl wi.heap.size wi)
  go_upto_region 3 with fail
  have hp5 : PairsAt ((wi.alloc (.cells #[.int .i64 1, .int .i64 10, .int .i64 2, .int .i64 20] 42 (0, 0))).alloc (.cells #[.int .i64 5, .int .i64 0, .int .i64 63, .int .i64 0, .int .i64 0, .int .i64 0, .slice (some ⟨wi.heap.size, 0, none⟩) 2 2, .int .i64 0, .int .i64 0] 35 (0, 0))) (.slice (some ⟨wi.heap.size, 0, none⟩) 2 2) [(1, 10), (2, 20)] := by
    have hk := blk_alloc (p := .cells #[.int .i64 5, .int .i64 0, .int .i64 63, .int .i64 0, .int .i64 0, .int .i64 0, .slice (some ⟨wi.heap.size, 0, none⟩) 2 2, .int .i64 0, .int .i64 0] 35 (0, 0)) (blk_new wi (.cells #[.int .i64 1, .int .i64 10, .int .i64 2, .int .i64 20] 42 (0, 0)))
    refine .inr ⟨wi.heap.size, 0, 2, rfl, by simp, blk_lt hk, fun i hi => ?_⟩
    have hi2 : i < 2 := hi
    rw [blk_cell hk, blk_cell hk]
    rcases Nat.lt_succ_iff_lt_or_eq.1 hi2 with h | rfl
    · obtain rfl : i = 0 := by omega
      exact ⟨rfl, rfl⟩
    · exact ⟨rfl, rfl⟩
  have hbk : ((wi.alloc (.cells #[.int .i64 1, .int .i64 10, .int .i64 2, .int .i64 20] 42 (0, 0))).alloc (.cells #[.int .i64 5, .int .i64 0, .int .i64 63, .int .i64 0, .int .i64 0, .int .i64 0, .slice (some ⟨wi.heap.size, 0, none⟩) 2 2, .int .i64 0, .int .i64 0] 35 (0, 0))).heap[wi.heap.size + 1]? = some (.cells #[.int .i64 5, .int .i64 0, .int .i64 63, .int .i64 0, .int .i64 0, .int .i64 0, .slice (some ⟨wi.heap.size, 0, none⟩) 2 2, .int .i64 0, .int .i64 0] 35 (0, 0)) := blk_at (by simp)
  have hb9 := bl_alloc (bl_alloc HB.out (.cells #[.int .i64 1, .int .i64 10, .int .i64 2, .int .i64 20] 42 (0, 0))) (.cells #[.int .i64 5, .int .i64 0, .int .i64 63, .int .i64 0, .int .i64 0, .int .i64 0, .slice (some ⟨wi.heap.size, 0, none⟩) 2 2, .int .i64 0, .int .i64 0] 35 (0, 0))
  generalize (wi.alloc (.cells #[.int .i64 1, .int .i64 10, .int .i64 2, .int .i64 20] 42 (0, 0))).alloc (.cells #[.int .i64 5, .int .i64 0, .int .i64 63, .int .i64 0, .int .i64 0, .int .i64 0, .slice (some ⟨wi.heap.size, 0, none⟩) 2 2, .int .i64 0, .int .i64 0] 35 (0, 0)) = w5 at *
  have hbl := blk_lt hbk
  have x0 := blk_cell hbk 0
  have x1 := blk_cell hbk 1
  have x2 := blk_cell hbk 2
  have x3 := blk_cell hbk 3
  have x4 := blk_cell hbk 4
  have x5 := blk_cell hbk 5
  have x6 := blk_cell hbk 6
  have x7 := blk_cell hbk 7
  have x8 := blk_cell hbk 8
  simp at x0 x1 x2 x3 x4 x5 x6 x7 x8
  have HB9 := Lib.hid hb9
  clear hb9 HB
  generalize wi.heap.size + 1 = b5 at *
  obtain ⟨gp, hgp⟩ : ∃ gp, wi.heap.size = gp := ⟨_, rfl⟩
  rw [hgp] at hp5 x6 ⊢
  clear hgp hbk
  have HP5 := Lib.hid hp5
  clear hp5
  have HFL : Hid (∀ W, Below w5.heap.size w5 W → W.cell? ⟨b5, 0, none⟩ = some (.int .i64 5) ∧ W.cell? ⟨b5, 1, none⟩ = some (.int .i64 0) ∧ W.cell? ⟨b5, 2, none⟩ = some (.int .i64 63) ∧ W.cell? ⟨b5, 3, none⟩ = some (.int .i64 0) ∧ W.cell? ⟨b5, 4, none⟩ = some (.int .i64 0) ∧ W.cell? ⟨b5, 5, none⟩ = some (.int .i64 0) ∧ W.cell? ⟨b5, 6, none⟩ = some (.slice (some ⟨gp, 0, none⟩) 2 2) ∧ W.cell? ⟨b5, 7, none⟩ = some (.int .i64 0) ∧ W.cell? ⟨b5, 8, none⟩ = some (.int .i64 0)) := Lib.hid fun W hW => ⟨(hW.cell (p := ⟨b5, 0, none⟩) hbl).trans x0, (hW.cell (p := ⟨b5, 1, none⟩) hbl).trans x1, (hW.cell (p := ⟨b5, 2, none⟩) hbl).trans x2, (hW.cell (p := ⟨b5, 3, none⟩) hbl).trans x3, (hW.cell (p := ⟨b5, 4, none⟩) hbl).trans x4, (hW.cell (p := ⟨b5, 5, none⟩) hbl).trans x5, (hW.cell (p := ⟨b5, 6, none⟩) hbl).trans x6, (hW.cell (p := ⟨b5, 7, none⟩) hbl).trans x7, (hW.cell (p := ⟨b5, 8, none⟩) hbl).trans x8⟩
  have HDR : Hid (Below w5.heap.size w5 w5.drew) := Lib.hid (below_drewN' (Below.refl _ _) 1)
  have HBA : Hid (∀ W, Below w5.heap.size w5 W → Calls Try.prog 11 #[] W fun e w' => ∃ g, e = .returned (.agg #[.int .i64 1, .int .i64 3, .int .i64 3, .int .u64 1, .int .u64 2, .slice (some ⟨g, 0, none⟩) 2 2]) ∧ CallsAt w' (.slice (some ⟨g, 0, none⟩) 2 2) baseD.ops ∧ Below W.heap.size W w' ∧ Below w5.heap.size w5 w') := Lib.hid fun W hW => (base_any W).mono fun _ _ ⟨g, h1, h2, h3⟩ => ⟨g, h1, h2, h3, bl_next hW h3⟩
  have HDI : Hid (∀ W, Below w5.heap.size w5 W → Calls Try.prog 13 #[.int .i64 2, .int .i64 k, .int .i64 7] W fun e w' => e = .returned (.agg #[.int .i64 2, .int .i64 k, .int .i64 0, .int .i64 7, .int .i64 0, .int .i64 0, .slice none 0 0, .int .i64 0, .int .i64 0]) ∧ Below W.heap.size W w' ∧ Below w5.heap.size w5 w') := Lib.hid fun W hW => (did_any 2 k 7 W).mono fun _ _ ⟨h1, h2⟩ => ⟨h1, h2, bl_next hW h2⟩
  have HD1 : Hid (∀ W g, Below w5.heap.size w5 W → Calls Try.prog 12 #[.int .i64 2, .int .i64 lv, .int .u64 3, .int .u64 6, .slice (some ⟨g, 0, none⟩) 1 1] W fun e w' => e = .returned (.agg #[.int .i64 2, .int .i64 lv, .int .i64 3, .int .u64 3, .int .u64 6, .slice (some ⟨g, 0, none⟩) 1 1]) ∧ Below W.heap.size W w' ∧ Below w5.heap.size w5 w') := Lib.hid fun W g hW => (deal_any 2 lv 3 6 (some ⟨g, 0, none⟩) 1 1 W).mono fun _ _ ⟨h1, h2⟩ => ⟨h1, h2, bl_next hW h2⟩
  have HD2 : Hid (∀ W g, Below w5.heap.size w5 W → Calls Try.prog 12 #[.int .i64 3, .int .i64 3, .int .u64 4, .int .u64 5, .slice (some ⟨g, 0, none⟩) 1 1] W fun e w' => e = .returned (.agg #[.int .i64 3, .int .i64 3, .int .i64 3, .int .u64 4, .int .u64 5, .slice (some ⟨g, 0, none⟩) 1 1]) ∧ Below W.heap.size W w' ∧ Below w5.heap.size w5 w') := Lib.hid fun W g hW => (deal_any 3 3 4 5 (some ⟨g, 0, none⟩) 1 1 W).mono fun _ _ ⟨h1, h2⟩ => ⟨h1, h2, bl_next hW h2⟩
  clear hbl x0 x1 x2 x3 x4 x5 x6 x7 x8
  go_region_held3 (fun W => W.cell? ⟨b5, 0, none⟩ = some (.int .i64 5) ∧ W.cell? ⟨b5, 1, none⟩ = some (.int .i64 0) ∧ W.cell? ⟨b5, 2, none⟩ = some (.int .i64 63) ∧ W.cell? ⟨b5, 3, none⟩ = some (.int .i64 0) ∧ W.cell? ⟨b5, 4, none⟩ = some (.int .i64 0) ∧ W.cell? ⟨b5, 5, none⟩ = some (.int .i64 0) ∧ W.cell? ⟨b5, 6, none⟩ = some (.slice (some ⟨gp, 0, none⟩) 2 2) ∧ W.cell? ⟨b5, 7, none⟩ = some (.int .i64 0) ∧ W.cell? ⟨b5, 8, none⟩ = some (.int .i64 0))
    (first | exact HFL.out _ (by assumption) | exact HFL.out _ HDR.out | exact HFL.out _ (bl_alloc (by assumption) _) | exact HFL.out _ (bl_alloc HDR.out _))
    (first
      | (((with_reducible refine (HBA.out _ ?_).mono ?_); (first | assumption | exact HDR.out | exact bl_alloc HDR.out _); rintro e w6 ⟨g0, rfl, hc0, hb6, hb6a⟩))
      | (((with_reducible refine (HD1.out _ _ ?_).mono ?_); (first | assumption | exact bl_alloc (by assumption) _); rintro e w7 ⟨rfl, hb7, hb7a⟩))
      | (((with_reducible refine (HDI.out _ ?_).mono ?_); (first | assumption | exact bl_alloc (by assumption) _); rintro e w8 ⟨rfl, hb8, hb8a⟩))
      | (((with_reducible refine (HD2.out _ _ ?_).mono ?_); (first | assumption | exact bl_alloc (by assumption) _); rintro e w9 ⟨rfl, hb9, hb9a⟩)))
  · skip
    have hs0 : PairsAt (w6.alloc (.cells #[.int .i64 5, .int .i64 0, .int .i64 63, .int .i64 0, .int .i64 0, .int .i64 0, .slice (some ⟨gp, 0, none⟩) 2 2, .int .i64 0, .int .i64 0] 35 (0, 0))) (.slice (some ⟨gp, 0, none⟩) 2 2) scanC.pairs := HP5.out.later (bl_alloc (hb6a) _)
    have hs1 := calls_block (w := w6.alloc (.cells #[.int .i64 5, .int .i64 0, .int .i64 63, .int .i64 0, .int .i64 0, .int .i64 0, .slice (some ⟨gp, 0, none⟩) 2 2, .int .i64 0, .int .i64 0] 35 (0, 0))) (T := 35) (l := [(scanC, .slice (some ⟨gp, 0, none⟩) 2 2)]) (blk_new w6 _) (by
      intro c hc
      simp only [List.mem_cons, List.not_mem_nil, or_false] at hc
      subst hc
      exact hs0)
    have hq1 := (hs1.later hb7).later hb8
    have hq0 := ((hc0.later (bl_alloc (Below.refl _ _) (.cells #[.int .i64 5, .int .i64 0, .int .i64 63, .int .i64 0, .int .i64 0, .int .i64 0, .slice (some ⟨gp, 0, none⟩) 2 2, .int .i64 0, .int .i64 0] 35 (0, 0)))).later hb7).later hb8
    have hd1 := calls_block (w := w8.alloc (.cells #[.int .i64 2, .int .i64 k, .int .i64 0, .int .i64 7, .int .i64 0, .int .i64 0, .slice none 0 0, .int .i64 0, .int .i64 0] 35 (0, 0))) (T := 35) (l := [(didC 2 k 7, .slice none 0 0)]) (blk_new w8 _) (by
      intro c hc
      simp only [List.mem_cons, List.not_mem_nil, or_false] at hc
      subst hc
      exact did_pairs _ _ _ _)
    have hr0 := (hq0.later (bl_alloc (Below.refl _ _) (.cells #[.int .i64 2, .int .i64 k, .int .i64 0, .int .i64 7, .int .i64 0, .int .i64 0, .slice none 0 0, .int .i64 0, .int .i64 0] 35 (0, 0)))).later hb9
    have hr1 := (hq1.later (bl_alloc (Below.refl _ _) (.cells #[.int .i64 2, .int .i64 k, .int .i64 0, .int .i64 7, .int .i64 0, .int .i64 0, .slice none 0 0, .int .i64 0, .int .i64 0] 35 (0, 0)))).later hb9
    have hr2 := hd1.later hb9
    have hdd := deals_block (w := w9.alloc (.cells #[.int .i64 1, .int .i64 3, .int .i64 3, .int .u64 1, .int .u64 2, .slice (some ⟨g0, 0, none⟩) 2 2, .int .i64 2, .int .i64 lv, .int .i64 3, .int .u64 3, .int .u64 6, .slice (some ⟨w6.heap.size, 0, none⟩) 1 1, .int .i64 3, .int .i64 3, .int .i64 3, .int .u64 4, .int .u64 5, .slice (some ⟨w8.heap.size, 0, none⟩) 1 1] 25 (0, 0))) (T := 25) (l := [(baseD, .slice (some ⟨g0, 0, none⟩) 2 2), (⟨2, lv, 3, 3, 6, [scanC]⟩, .slice (some ⟨w6.heap.size, 0, none⟩) 1 1), (⟨3, 3, 3, 4, 5, [didC 2 k 7]⟩, .slice (some ⟨w8.heap.size, 0, none⟩) 1 1)]) (blk_new w9 _) (by
      intro c hc
      simp only [List.mem_cons, List.not_mem_nil, or_false] at hc
      rcases hc with rfl | rfl | rfl
      · exact hr0.later (bl_alloc (Below.refl _ _) _)
      · exact hr1.later (bl_alloc (Below.refl _ _) _)
      · exact hr2.later (bl_alloc (Below.refl _ _) _))
    have HX : Hid (DealsAt (w9.alloc (.cells #[.int .i64 1, .int .i64 3, .int .i64 3, .int .u64 1, .int .u64 2, .slice (some ⟨g0, 0, none⟩) 2 2, .int .i64 2, .int .i64 lv, .int .i64 3, .int .u64 3, .int .u64 6, .slice (some ⟨w6.heap.size, 0, none⟩) 1 1, .int .i64 3, .int .i64 3, .int .i64 3, .int .u64 4, .int .u64 5, .slice (some ⟨w8.heap.size, 0, none⟩) 1 1] 25 (0, 0))) (.slice (some ⟨w9.heap.size, 0, none⟩) 3 3) (phantomL lv k)) := Lib.hid hdd
    have HB := Lib.hid (bl_next HB9.out (bl_alloc hb9a (.cells #[.int .i64 1, .int .i64 3, .int .i64 3, .int .u64 1, .int .u64 2, .slice (some ⟨g0, 0, none⟩) 2 2, .int .i64 2, .int .i64 lv, .int .i64 3, .int .u64 3, .int .u64 6, .slice (some ⟨w6.heap.size, 0, none⟩) 1 1, .int .i64 3, .int .i64 3, .int .i64 3, .int .u64 4, .int .u64 5, .slice (some ⟨w8.heap.size, 0, none⟩) 1 1] 25 (0, 0))))
    have HG := Lib.hid (phantom_good (lv := lv) WK.out)
    clear hs0 hs1 hq1 hq0 hd1 hr0 hr1 hr2 hdd hb6 hb6a hb7 hb7a hb8 hb8a hb9 hb9a hc0 HBA HD1 HDI HD2 HFL HDR HP5 HB9
    generalize w9.alloc (.cells #[.int .i64 1, .int .i64 3, .int .i64 3, .int .u64 1, .int .u64 2, .slice (some ⟨g0, 0, none⟩) 2 2, .int .i64 2, .int .i64 lv, .int .i64 3, .int .u64 3, .int .u64 6, .slice (some ⟨w6.heap.size, 0, none⟩) 1 1, .int .i64 3, .int .i64 3, .int .i64 3, .int .u64 4, .int .u64 5, .slice (some ⟨w8.heap.size, 0, none⟩) 1 1] 25 (0, 0)) = wd at *
    generalize w9.heap.size = gd at *
    have htt := HT.out
    unfold phTold at htt
    simp only [Bool.and_eq_true, Bool.not_eq_true', beq_iff_eq] at htt
    obtain ⟨⟨⟨⟨t1, t2⟩, t3⟩, t4⟩, t5⟩ := htt
    have T1 := Lib.hid t1
    have T2 := Lib.hid t2
    have T3 := Lib.hid t3
    have T4 := Lib.hid t4
    have T5 := Lib.hid t5
    clear t1 t2 t3 t4 t5
    rcases HL3.out with rfl | rfl | rfl
    · skip
      have T1' : holdsD (phantomL 1 k) = (true, 0) := T1.out
      have T1 := Lib.hid T1'
      clear T1'
      have hs := holds_all HX.out HG.out
      rw [T1.out] at hs
      have HS := Lib.hid hs
      clear hs
      go_wp2_with fail
      refine HS.out.mono ?_
      rintro e w21 ⟨rfl, hb21⟩
      have HX := Lib.hid (HX.out.later hb21)
      have HB := Lib.hid (bl_next HB.out hb21)
      clear hb21 HS
      have hs := snapshot_any (id := 2) HX.out HG.out
      rw [T2.out] at hs
      have HS := Lib.hid hs
      clear hs
      go_wp2_with fail
      refine HS.out.mono ?_
      rintro e w22 ⟨rfl, hb22⟩
      have HX := Lib.hid (HX.out.later hb22)
      have HB := Lib.hid (bl_next HB.out hb22)
      clear hb22 HS
      have hs := serial_any (id := 2) HX.out HG.out
      rw [T3.out] at hs
      have HS := Lib.hid hs
      clear hs
      go_wp2_with fail
      refine HS.out.mono ?_
      rintro e w23 ⟨rfl, hb23⟩
      have HX := Lib.hid (HX.out.later hb23)
      have HB := Lib.hid (bl_next HB.out hb23)
      clear hb23 HS
      have hs := repeatable_any (id := 2) HX.out HG.out
      rw [T4.out] at hs
      have HS := Lib.hid hs
      clear hs
      go_wp2_with fail
      refine HS.out.mono ?_
      rintro e w24 ⟨rfl, hb24⟩
      have HX := Lib.hid (HX.out.later hb24)
      have HB := Lib.hid (bl_next HB.out hb24)
      clear hb24 HS
      have hs := serial_any (id := 3) HX.out HG.out
      rw [T5.out] at hs
      have HS := Lib.hid hs
      clear hs
      go_wp2_with fail
      refine HS.out.mono ?_
      rintro e w25 ⟨rfl, hb25⟩
      have HX := Lib.hid (HX.out.later hb25)
      have HB := Lib.hid (bl_next HB.out hb25)
      clear hb25 HS
      go_wp2_with fail
      refine (awake_any _).mono ?_
      rintro e w99 ⟨rfl, hb99⟩
      have HB := Lib.hid (bl_next HB.out hb99)
      clear hb99
      go_wp2_with fail
      go_ret
      exact ⟨rfl, HB.out⟩
    · skip
      have T1' : holdsD (phantomL 2 k) = (true, 0) := T1.out
      have T1 := Lib.hid T1'
      clear T1'
      have hs := holds_all HX.out HG.out
      rw [T1.out] at hs
      have HS := Lib.hid hs
      clear hs
      go_wp2_with fail
      refine HS.out.mono ?_
      rintro e w21 ⟨rfl, hb21⟩
      have HX := Lib.hid (HX.out.later hb21)
      have HB := Lib.hid (bl_next HB.out hb21)
      clear hb21 HS
      have hs := snapshot_any (id := 2) HX.out HG.out
      rw [T2.out] at hs
      have HS := Lib.hid hs
      clear hs
      go_wp2_with fail
      refine HS.out.mono ?_
      rintro e w22 ⟨rfl, hb22⟩
      have HX := Lib.hid (HX.out.later hb22)
      have HB := Lib.hid (bl_next HB.out hb22)
      clear hb22 HS
      have hs := serial_any (id := 2) HX.out HG.out
      rw [T3.out] at hs
      have HS := Lib.hid hs
      clear hs
      go_wp2_with fail
      refine HS.out.mono ?_
      rintro e w23 ⟨rfl, hb23⟩
      have HX := Lib.hid (HX.out.later hb23)
      have HB := Lib.hid (bl_next HB.out hb23)
      clear hb23 HS
      have hs := repeatable_any (id := 2) HX.out HG.out
      rw [T4.out] at hs
      have HS := Lib.hid hs
      clear hs
      go_wp2_with fail
      refine HS.out.mono ?_
      rintro e w24 ⟨rfl, hb24⟩
      have HX := Lib.hid (HX.out.later hb24)
      have HB := Lib.hid (bl_next HB.out hb24)
      clear hb24 HS
      have hs := serial_any (id := 3) HX.out HG.out
      rw [T5.out] at hs
      have HS := Lib.hid hs
      clear hs
      go_wp2_with fail
      refine HS.out.mono ?_
      rintro e w25 ⟨rfl, hb25⟩
      have HX := Lib.hid (HX.out.later hb25)
      have HB := Lib.hid (bl_next HB.out hb25)
      clear hb25 HS
      go_wp2_with fail
      refine (awake_any _).mono ?_
      rintro e w99 ⟨rfl, hb99⟩
      have HB := Lib.hid (bl_next HB.out hb99)
      clear hb99
      go_wp2_with fail
      go_ret
      exact ⟨rfl, HB.out⟩
    · skip
      have T1' : holdsD (phantomL 3 k) = (false, 2) := T1.out
      have T1 := Lib.hid T1'
      clear T1'
      have hs := holds_all HX.out HG.out
      rw [T1.out] at hs
      have HS := Lib.hid hs
      clear hs
      go_wp2_with fail
      refine HS.out.mono ?_
      rintro e w21 ⟨rfl, hb21⟩
      have HX := Lib.hid (HX.out.later hb21)
      have HB := Lib.hid (bl_next HB.out hb21)
      clear hb21 HS
      have hs := snapshot_any (id := 2) HX.out HG.out
      rw [T2.out] at hs
      have HS := Lib.hid hs
      clear hs
      go_wp2_with fail
      refine HS.out.mono ?_
      rintro e w22 ⟨rfl, hb22⟩
      have HX := Lib.hid (HX.out.later hb22)
      have HB := Lib.hid (bl_next HB.out hb22)
      clear hb22 HS
      have hs := serial_any (id := 2) HX.out HG.out
      rw [T3.out] at hs
      have HS := Lib.hid hs
      clear hs
      go_wp2_with fail
      refine HS.out.mono ?_
      rintro e w23 ⟨rfl, hb23⟩
      have HX := Lib.hid (HX.out.later hb23)
      have HB := Lib.hid (bl_next HB.out hb23)
      clear hb23 HS
      have hs := repeatable_any (id := 2) HX.out HG.out
      rw [T4.out] at hs
      have HS := Lib.hid hs
      clear hs
      go_wp2_with fail
      refine HS.out.mono ?_
      rintro e w24 ⟨rfl, hb24⟩
      have HX := Lib.hid (HX.out.later hb24)
      have HB := Lib.hid (bl_next HB.out hb24)
      clear hb24 HS
      have hs := serial_any (id := 3) HX.out HG.out
      rw [T5.out] at hs
      have HS := Lib.hid hs
      clear hs
      go_wp2_with fail
      refine HS.out.mono ?_
      rintro e w25 ⟨rfl, hb25⟩
      have HX := Lib.hid (HX.out.later hb25)
      have HB := Lib.hid (bl_next HB.out hb25)
      clear hb25 HS
      go_wp2_with fail
      refine (awake_any _).mono ?_
      rintro e w99 ⟨rfl, hb99⟩
      have HB := Lib.hid (bl_next HB.out hb99)
      clear hb99
      go_wp2_with fail
      go_ret
      exact ⟨rfl, HB.out⟩
  · skip
    have hs0 : PairsAt (w5.drew.alloc (.cells #[.int .i64 5, .int .i64 0, .int .i64 63, .int .i64 0, .int .i64 0, .int .i64 0, .slice (some ⟨gp, 0, none⟩) 2 2, .int .i64 0, .int .i64 0] 35 (0, 0))) (.slice (some ⟨gp, 0, none⟩) 2 2) scanC.pairs := HP5.out.later (bl_alloc (HDR.out) _)
    have hs1 := calls_block (w := w5.drew.alloc (.cells #[.int .i64 5, .int .i64 0, .int .i64 63, .int .i64 0, .int .i64 0, .int .i64 0, .slice (some ⟨gp, 0, none⟩) 2 2, .int .i64 0, .int .i64 0] 35 (0, 0))) (T := 35) (l := [(scanC, .slice (some ⟨gp, 0, none⟩) 2 2)]) (blk_new w5.drew _) (by
      intro c hc
      simp only [List.mem_cons, List.not_mem_nil, or_false] at hc
      subst hc
      exact hs0)
    have hq1 := ((hs1.later hb6).later hb7).later hb8
    have hq0 := (hc0.later hb7).later hb8
    have hd1 := calls_block (w := w8.alloc (.cells #[.int .i64 2, .int .i64 k, .int .i64 0, .int .i64 7, .int .i64 0, .int .i64 0, .slice none 0 0, .int .i64 0, .int .i64 0] 35 (0, 0))) (T := 35) (l := [(didC 2 k 7, .slice none 0 0)]) (blk_new w8 _) (by
      intro c hc
      simp only [List.mem_cons, List.not_mem_nil, or_false] at hc
      subst hc
      exact did_pairs _ _ _ _)
    have hr0 := (hq0.later (bl_alloc (Below.refl _ _) (.cells #[.int .i64 2, .int .i64 k, .int .i64 0, .int .i64 7, .int .i64 0, .int .i64 0, .slice none 0 0, .int .i64 0, .int .i64 0] 35 (0, 0)))).later hb9
    have hr1 := (hq1.later (bl_alloc (Below.refl _ _) (.cells #[.int .i64 2, .int .i64 k, .int .i64 0, .int .i64 7, .int .i64 0, .int .i64 0, .slice none 0 0, .int .i64 0, .int .i64 0] 35 (0, 0)))).later hb9
    have hr2 := hd1.later hb9
    have hdd := deals_block (w := w9.alloc (.cells #[.int .i64 1, .int .i64 3, .int .i64 3, .int .u64 1, .int .u64 2, .slice (some ⟨g0, 0, none⟩) 2 2, .int .i64 2, .int .i64 lv, .int .i64 3, .int .u64 3, .int .u64 6, .slice (some ⟨w5.heap.size, 0, none⟩) 1 1, .int .i64 3, .int .i64 3, .int .i64 3, .int .u64 4, .int .u64 5, .slice (some ⟨w8.heap.size, 0, none⟩) 1 1] 25 (0, 0))) (T := 25) (l := [(baseD, .slice (some ⟨g0, 0, none⟩) 2 2), (⟨2, lv, 3, 3, 6, [scanC]⟩, .slice (some ⟨w5.heap.size, 0, none⟩) 1 1), (⟨3, 3, 3, 4, 5, [didC 2 k 7]⟩, .slice (some ⟨w8.heap.size, 0, none⟩) 1 1)]) (blk_new w9 _) (by
      intro c hc
      simp only [List.mem_cons, List.not_mem_nil, or_false] at hc
      rcases hc with rfl | rfl | rfl
      · exact hr0.later (bl_alloc (Below.refl _ _) _)
      · exact hr1.later (bl_alloc (Below.refl _ _) _)
      · exact hr2.later (bl_alloc (Below.refl _ _) _))
    have HX : Hid (DealsAt (w9.alloc (.cells #[.int .i64 1, .int .i64 3, .int .i64 3, .int .u64 1, .int .u64 2, .slice (some ⟨g0, 0, none⟩) 2 2, .int .i64 2, .int .i64 lv, .int .i64 3, .int .u64 3, .int .u64 6, .slice (some ⟨w5.heap.size, 0, none⟩) 1 1, .int .i64 3, .int .i64 3, .int .i64 3, .int .u64 4, .int .u64 5, .slice (some ⟨w8.heap.size, 0, none⟩) 1 1] 25 (0, 0))) (.slice (some ⟨w9.heap.size, 0, none⟩) 3 3) (phantomL lv k)) := Lib.hid hdd
    have HB := Lib.hid (bl_next HB9.out (bl_alloc hb9a (.cells #[.int .i64 1, .int .i64 3, .int .i64 3, .int .u64 1, .int .u64 2, .slice (some ⟨g0, 0, none⟩) 2 2, .int .i64 2, .int .i64 lv, .int .i64 3, .int .u64 3, .int .u64 6, .slice (some ⟨w5.heap.size, 0, none⟩) 1 1, .int .i64 3, .int .i64 3, .int .i64 3, .int .u64 4, .int .u64 5, .slice (some ⟨w8.heap.size, 0, none⟩) 1 1] 25 (0, 0))))
    have HG := Lib.hid (phantom_good (lv := lv) WK.out)
    clear hs0 hs1 hq1 hq0 hd1 hr0 hr1 hr2 hdd hb6 hb6a hb7 hb7a hb8 hb8a hb9 hb9a hc0 HBA HD1 HDI HD2 HFL HDR HP5 HB9
    generalize w9.alloc (.cells #[.int .i64 1, .int .i64 3, .int .i64 3, .int .u64 1, .int .u64 2, .slice (some ⟨g0, 0, none⟩) 2 2, .int .i64 2, .int .i64 lv, .int .i64 3, .int .u64 3, .int .u64 6, .slice (some ⟨w5.heap.size, 0, none⟩) 1 1, .int .i64 3, .int .i64 3, .int .i64 3, .int .u64 4, .int .u64 5, .slice (some ⟨w8.heap.size, 0, none⟩) 1 1] 25 (0, 0)) = wd at *
    generalize w9.heap.size = gd at *
    have htt := HT.out
    unfold phTold at htt
    simp only [Bool.and_eq_true, Bool.not_eq_true', beq_iff_eq] at htt
    obtain ⟨⟨⟨⟨t1, t2⟩, t3⟩, t4⟩, t5⟩ := htt
    have T1 := Lib.hid t1
    have T2 := Lib.hid t2
    have T3 := Lib.hid t3
    have T4 := Lib.hid t4
    have T5 := Lib.hid t5
    clear t1 t2 t3 t4 t5
    rcases HL3.out with rfl | rfl | rfl
    · skip
      have T1' : holdsD (phantomL 1 k) = (true, 0) := T1.out
      have T1 := Lib.hid T1'
      clear T1'
      have hs := holds_all HX.out HG.out
      rw [T1.out] at hs
      have HS := Lib.hid hs
      clear hs
      go_wp2_with fail
      refine HS.out.mono ?_
      rintro e w21 ⟨rfl, hb21⟩
      have HX := Lib.hid (HX.out.later hb21)
      have HB := Lib.hid (bl_next HB.out hb21)
      clear hb21 HS
      have hs := snapshot_any (id := 2) HX.out HG.out
      rw [T2.out] at hs
      have HS := Lib.hid hs
      clear hs
      go_wp2_with fail
      refine HS.out.mono ?_
      rintro e w22 ⟨rfl, hb22⟩
      have HX := Lib.hid (HX.out.later hb22)
      have HB := Lib.hid (bl_next HB.out hb22)
      clear hb22 HS
      have hs := serial_any (id := 2) HX.out HG.out
      rw [T3.out] at hs
      have HS := Lib.hid hs
      clear hs
      go_wp2_with fail
      refine HS.out.mono ?_
      rintro e w23 ⟨rfl, hb23⟩
      have HX := Lib.hid (HX.out.later hb23)
      have HB := Lib.hid (bl_next HB.out hb23)
      clear hb23 HS
      have hs := repeatable_any (id := 2) HX.out HG.out
      rw [T4.out] at hs
      have HS := Lib.hid hs
      clear hs
      go_wp2_with fail
      refine HS.out.mono ?_
      rintro e w24 ⟨rfl, hb24⟩
      have HX := Lib.hid (HX.out.later hb24)
      have HB := Lib.hid (bl_next HB.out hb24)
      clear hb24 HS
      have hs := serial_any (id := 3) HX.out HG.out
      rw [T5.out] at hs
      have HS := Lib.hid hs
      clear hs
      go_wp2_with fail
      refine HS.out.mono ?_
      rintro e w25 ⟨rfl, hb25⟩
      have HX := Lib.hid (HX.out.later hb25)
      have HB := Lib.hid (bl_next HB.out hb25)
      clear hb25 HS
      go_wp2_with fail
      refine (awake_any _).mono ?_
      rintro e w99 ⟨rfl, hb99⟩
      have HB := Lib.hid (bl_next HB.out hb99)
      clear hb99
      go_wp2_with fail
      go_ret
      exact ⟨rfl, HB.out⟩
    · skip
      have T1' : holdsD (phantomL 2 k) = (true, 0) := T1.out
      have T1 := Lib.hid T1'
      clear T1'
      have hs := holds_all HX.out HG.out
      rw [T1.out] at hs
      have HS := Lib.hid hs
      clear hs
      go_wp2_with fail
      refine HS.out.mono ?_
      rintro e w21 ⟨rfl, hb21⟩
      have HX := Lib.hid (HX.out.later hb21)
      have HB := Lib.hid (bl_next HB.out hb21)
      clear hb21 HS
      have hs := snapshot_any (id := 2) HX.out HG.out
      rw [T2.out] at hs
      have HS := Lib.hid hs
      clear hs
      go_wp2_with fail
      refine HS.out.mono ?_
      rintro e w22 ⟨rfl, hb22⟩
      have HX := Lib.hid (HX.out.later hb22)
      have HB := Lib.hid (bl_next HB.out hb22)
      clear hb22 HS
      have hs := serial_any (id := 2) HX.out HG.out
      rw [T3.out] at hs
      have HS := Lib.hid hs
      clear hs
      go_wp2_with fail
      refine HS.out.mono ?_
      rintro e w23 ⟨rfl, hb23⟩
      have HX := Lib.hid (HX.out.later hb23)
      have HB := Lib.hid (bl_next HB.out hb23)
      clear hb23 HS
      have hs := repeatable_any (id := 2) HX.out HG.out
      rw [T4.out] at hs
      have HS := Lib.hid hs
      clear hs
      go_wp2_with fail
      refine HS.out.mono ?_
      rintro e w24 ⟨rfl, hb24⟩
      have HX := Lib.hid (HX.out.later hb24)
      have HB := Lib.hid (bl_next HB.out hb24)
      clear hb24 HS
      have hs := serial_any (id := 3) HX.out HG.out
      rw [T5.out] at hs
      have HS := Lib.hid hs
      clear hs
      go_wp2_with fail
      refine HS.out.mono ?_
      rintro e w25 ⟨rfl, hb25⟩
      have HX := Lib.hid (HX.out.later hb25)
      have HB := Lib.hid (bl_next HB.out hb25)
      clear hb25 HS
      go_wp2_with fail
      refine (awake_any _).mono ?_
      rintro e w99 ⟨rfl, hb99⟩
      have HB := Lib.hid (bl_next HB.out hb99)
      clear hb99
      go_wp2_with fail
      go_ret
      exact ⟨rfl, HB.out⟩
    · skip
      have T1' : holdsD (phantomL 3 k) = (false, 2) := T1.out
      have T1 := Lib.hid T1'
      clear T1'
      have hs := holds_all HX.out HG.out
      rw [T1.out] at hs
      have HS := Lib.hid hs
      clear hs
      go_wp2_with fail
      refine HS.out.mono ?_
      rintro e w21 ⟨rfl, hb21⟩
      have HX := Lib.hid (HX.out.later hb21)
      have HB := Lib.hid (bl_next HB.out hb21)
      clear hb21 HS
      have hs := snapshot_any (id := 2) HX.out HG.out
      rw [T2.out] at hs
      have HS := Lib.hid hs
      clear hs
      go_wp2_with fail
      refine HS.out.mono ?_
      rintro e w22 ⟨rfl, hb22⟩
      have HX := Lib.hid (HX.out.later hb22)
      have HB := Lib.hid (bl_next HB.out hb22)
      clear hb22 HS
      have hs := serial_any (id := 2) HX.out HG.out
      rw [T3.out] at hs
      have HS := Lib.hid hs
      clear hs
      go_wp2_with fail
      refine HS.out.mono ?_
      rintro e w23 ⟨rfl, hb23⟩
      have HX := Lib.hid (HX.out.later hb23)
      have HB := Lib.hid (bl_next HB.out hb23)
      clear hb23 HS
      have hs := repeatable_any (id := 2) HX.out HG.out
      rw [T4.out] at hs
      have HS := Lib.hid hs
      clear hs
      go_wp2_with fail
      refine HS.out.mono ?_
      rintro e w24 ⟨rfl, hb24⟩
      have HX := Lib.hid (HX.out.later hb24)
      have HB := Lib.hid (bl_next HB.out hb24)
      clear hb24 HS
      have hs := serial_any (id := 3) HX.out HG.out
      rw [T5.out] at hs
      have HS := Lib.hid hs
      clear hs
      go_wp2_with fail
      refine HS.out.mono ?_
      rintro e w25 ⟨rfl, hb25⟩
      have HX := Lib.hid (HX.out.later hb25)
      have HB := Lib.hid (bl_next HB.out hb25)
      clear hb25 HS
      go_wp2_with fail
      refine (awake_any _).mono ?_
      rintro e w99 ⟨rfl, hb99⟩
      have HB := Lib.hid (bl_next HB.out hb99)
      clear hb99
      go_wp2_with fail
      go_ret
      exact ⟨rfl, HB.out⟩
end Go.Proofs.Ytpohehialkgigaa
