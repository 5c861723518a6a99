/- AxiomOwn holds: what one wrote itself is laid over what it sees: by each level, in reads, ranges, and what there is to insert, update and delete. No condition. -/
import Derived.Test.YtpohehialkgigaaAV
namespace Go.Proofs.Ytpohehialkgigaa
open Go.RowKit
theorem level_of (a : Int) : ∃ n : Nat, bits .and .i64 a 255 = (n : Int) ∧ n < 256 := ⟨(a % 256).toNat, by rw [i64_and255]; omega, by omega⟩
theorem value_of (a : Int) : ∃ n : Nat, bits .and .i64 a 65535 = (n : Int) ∧ n < 65536 := ⟨(a % 65536).toNat, by rw [i64_and65535]; omega, by omega⟩
set_option maxRecDepth 100000 in
set_option maxHeartbeats 12800000 in
theorem axiomOwn_walk {a0 a1 : Int} {w : World} (_w0 : (Lit.int .i64 a0).wf = true) (_w1 : (Lit.int .i64 a1).wf = true) :
    Calls Try.prog 6 #[.int .i64 a0, .int .i64 a1] w fun e w' => e = .returned (.bool true) ∧ Below w.heap.size w w' := by
  obtain ⟨n, hn, hn2⟩ := level_of a0
  obtain ⟨m, hm, hm2⟩ := value_of a1
  obtain ⟨lv, hlv⟩ : ∃ lv : Int, lv = ((n % 3 : Nat) : Int) + 1 := ⟨_, rfl⟩
  obtain ⟨v, hv⟩ : ∃ v : Int, v = (m : Int) := ⟨_, rfl⟩
  have hl3 : lv = 1 ∨ lv = 2 ∨ lv = 3 := by omega
  have WV : Hid ((Lit.int .i64 v).wf = true) := Lib.hid (WalkArith.wf_i64 (by omega))
  have HLV := Lib.hid hlv
  have HV := Lib.hid hv
  have HL3 := Lib.hid hl3
  clear hlv hl3 hv
  go_enter Try.func6, Try.ntmps6
  go_upto_region 1 with fail
  go_cut [0, 1] from 11 to 16 (fun s0 s1 wx => s0 = .int .i64 lv ∧ s1 = .int .i64 v ∧ wx = w)
  case first =>
    have hr : (n : Int) % 3 = ((n % 3 : Nat) : Int) := by simp
    have hr2 : n % 3 < 3 := Nat.mod_lt _ (by decide)
    generalize n % 3 = r at *
    go_wp2_with fail
    go_meet
    case rel => exact ⟨by rw [HLV.out], by rw [HV.out], rfl⟩
  case rest =>
  obtain ⟨rfl, rfl, rfl⟩ := hcut
  rename World => wi
  clear hn hn2 HLV hm hm2 HV
  have HB := Lib.hid (Below.refl wi.heap.size wi)
  go_wp2_with fail
  refine (did_any 3 1 v _).mono ?_
  rintro e w1 ⟨rfl, hb1⟩
  have HB := Lib.hid (bl_next HB.out hb1)
  clear hb1
  go_wp2_with fail
  refine (did_any 1 1 v _).mono ?_
  rintro e w2 ⟨rfl, hb2⟩
  have HB := Lib.hid (bl_next HB.out hb2)
  clear hb2
  go_wp2_with fail
  refine (did_any 4 1 0 _).mono ?_
  rintro e w3 ⟨rfl, hb3⟩
  have HB := Lib.hid (bl_next HB.out hb3)
  clear hb3
  go_wp2_with fail
  refine (none_any 1 1 11 _).mono ?_
  rintro e w4 ⟨rfl, hb4⟩
  have HB := Lib.hid (bl_next HB.out hb4)
  clear hb4
  go_wp2_with fail
  refine (none_any 3 1 11 _).mono ?_
  rintro e w5 ⟨rfl, hb5⟩
  have HB := Lib.hid (bl_next HB.out hb5)
  clear hb5
  go_wp2_with fail
  refine (did_any 2 1 v _).mono ?_
  rintro e w6 ⟨rfl, hb6⟩
  have HB := Lib.hid (bl_next HB.out hb6)
  clear hb6
  go_wp2_with fail
  refine (none_any 2 1 12 _).mono ?_
  rintro e w7 ⟨rfl, hb7⟩
  have HB := Lib.hid (bl_next HB.out hb7)
  clear hb7
  have H7 : Hid (wi.heap.size ≤ w7.heap.size) := Lib.hid HB.out.size
  have HB := Lib.hid (bl_alloc (bl_alloc HB.out (.cells #[.int .i64 1, .int .i64 v, .int .i64 2, .int .i64 20] 42 (0, 0))) (callsObj [(didC 3 1 v, .slice none 0 0), (didC 1 1 v, .slice none 0 0), (didC 4 1 0, .slice none 0 0), (noneC 1 1 11, .slice none 0 0), (noneC 3 1 11, .slice none 0 0), (didC 2 1 v, .slice none 0 0), (noneC 2 1 12, .slice none 0 0), (ownScan v, .slice (some ⟨w7.heap.size, 0, none⟩) 2 2)]))
  go_wp2_with (with_reducible show wpList Try.prog _ _ (Oper.mk _ (Op.buildSlice 23 8 _) _ _ _ _ :: _) _ _; refine build_call8 rfl (.tmp 19) (.tmp 21) (.tmp 22) (.tmp 24) (.tmp 26) (.tmp 28) (.tmp 30) (.tmp 37) rfl (didC 3 1 v) (didC 1 1 v) (didC 4 1 0) (noneC 1 1 11) (noneC 3 1 11) (didC 2 1 v) (noneC 2 1 12) (ownScan v) rfl rfl rfl rfl rfl rfl rfl rfl ?_; simp only [Act.put, List.setIfInBounds_toArray, List.set_cons_zero, List.set_cons_succ])
  have hk8 : ((w7.alloc (.cells #[.int .i64 1, .int .i64 v, .int .i64 2, .int .i64 20] 42 (0, 0))).alloc (callsObj [(didC 3 1 v, .slice none 0 0), (didC 1 1 v, .slice none 0 0), (didC 4 1 0, .slice none 0 0), (noneC 1 1 11, .slice none 0 0), (noneC 3 1 11, .slice none 0 0), (didC 2 1 v, .slice none 0 0), (noneC 2 1 12, .slice none 0 0), (ownScan v, .slice (some ⟨w7.heap.size, 0, none⟩) 2 2)])).heap[w7.heap.size + 1]? = some (callsObj [(didC 3 1 v, .slice none 0 0), (didC 1 1 v, .slice none 0 0), (didC 4 1 0, .slice none 0 0), (noneC 1 1 11, .slice none 0 0), (noneC 3 1 11, .slice none 0 0), (didC 2 1 v, .slice none 0 0), (noneC 2 1 12, .slice none 0 0), (ownScan v, .slice (some ⟨w7.heap.size, 0, none⟩) 2 2)]) := blk_at (by simp)
  have hkp : ((w7.alloc (.cells #[.int .i64 1, .int .i64 v, .int .i64 2, .int .i64 20] 42 (0, 0))).alloc (callsObj [(didC 3 1 v, .slice none 0 0), (didC 1 1 v, .slice none 0 0), (didC 4 1 0, .slice none 0 0), (noneC 1 1 11, .slice none 0 0), (noneC 3 1 11, .slice none 0 0), (didC 2 1 v, .slice none 0 0), (noneC 2 1 12, .slice none 0 0), (ownScan v, .slice (some ⟨w7.heap.size, 0, none⟩) 2 2)])).heap[w7.heap.size]? = some (.cells #[.int .i64 1, .int .i64 v, .int .i64 2, .int .i64 20] 42 (0, 0)) := blk_alloc (blk_new w7 _)
  have hne : w7.heap.size ≠ w7.heap.size + 1 := Nat.ne_of_lt (Nat.lt_succ_self _)
  have hg8 : wi.heap.size ≤ w7.heap.size + 1 := Nat.le_succ_of_le H7.out
  generalize (w7.alloc (.cells #[.int .i64 1, .int .i64 v, .int .i64 2, .int .i64 20] 42 (0, 0))).alloc (callsObj [(didC 3 1 v, .slice none 0 0), (didC 1 1 v, .slice none 0 0), (didC 4 1 0, .slice none 0 0), (noneC 1 1 11, .slice none 0 0), (noneC 3 1 11, .slice none 0 0), (didC 2 1 v, .slice none 0 0), (noneC 2 1 12, .slice none 0 0), (ownScan v, .slice (some ⟨w7.heap.size, 0, none⟩) 2 2)]) = wa at *
  generalize w7.heap.size + 1 = g8 at *
  generalize w7.heap.size = gp at *
  refine (deal_any 2 lv 3 4 _ _ _ _).mono ?_
  rintro e w8 ⟨rfl, hb8⟩
  have hk8b := blk_alloc (p := .cells #[.int .i64 2, .int .i64 lv, .int .i64 3, .int .u64 3, .int .u64 4, .slice (some ⟨g8, 0, none⟩) 8 8] 25 (0, 0)) (below_keep hb8 hk8)
  have hkpb := blk_alloc (p := .cells #[.int .i64 2, .int .i64 lv, .int .i64 3, .int .u64 3, .int .u64 4, .slice (some ⟨g8, 0, none⟩) 8 8] 25 (0, 0)) (below_keep hb8 hkp)
  have hk6 := blk_new w8 (.cells #[.int .i64 2, .int .i64 lv, .int .i64 3, .int .u64 3, .int .u64 4, .slice (some ⟨g8, 0, none⟩) 8 8] 25 (0, 0))
  have hne6 : w8.heap.size ≠ g8 := Nat.ne_of_gt (blk_lt (below_keep hb8 hk8))
  have hbb := bl_alloc (bl_next HB.out hb8) (.cells #[.int .i64 2, .int .i64 lv, .int .i64 3, .int .u64 3, .int .u64 4, .slice (some ⟨g8, 0, none⟩) 8 8] 25 (0, 0))
  clear hk8 hkp hb8
  go_upto_region 4 with fail
  generalize w8.alloc (.cells #[.int .i64 2, .int .i64 lv, .int .i64 3, .int .u64 3, .int .u64 4, .slice (some ⟨g8, 0, none⟩) 8 8] 25 (0, 0)) = wb at *
  generalize w8.heap.size = b6 at *
  have x5 := blk_cell hk6 5
  simp at x5
  have z21 : wb.cell? ⟨g8, 21, none⟩ = some (.int .i64 0) := by rw [blk_cell hk8b]; rfl
  have f21 : wb.frozen? ⟨g8, 21, none⟩ = false := blk_free hk8b 21
  have HK8 := Lib.hid hk8b
  have HKP := Lib.hid hkpb
  have HK6 := Lib.hid hk6
  have HNE := Lib.hid hne
  have HN6 := Lib.hid hne6
  have HBB := Lib.hid hbb
  have HG8 := Lib.hid hg8
  clear hk8b hkpb hk6 hne hne6 hbb hg8 HB H7
  go_upto_region 5 with fail
  have hk9 : (wb.setCell ⟨g8, 21, none⟩ (.int .i64 0)).heap[g8]? = some (callsObj [(didC 3 1 v, .slice none 0 0), (didC 1 1 v, .slice none 0 0), (didC 4 1 0, .slice none 0 0), (noneC 1 1 11, .slice none 0 0), (noneC 3 1 11, .slice none 0 0), (didC 2 1 v, .slice none 0 0), (noneC 2 1 12, .slice none 0 0), (ownScan v, .slice (some ⟨gp, 0, none⟩) 2 2)]) := (blk_set (i := 21) (u := .int .i64 0) HK8.out).trans (congrArg some (by kernel_rfl))
  have hkp9 := blk_other (p := ⟨g8, 21, none⟩) (u := .int .i64 0) HKP.out HNE.out
  have hk69 := blk_other (p := ⟨g8, 21, none⟩) (u := .int .i64 0) HK6.out HN6.out
  have hbc : Below wi.heap.size wi (wb.setCell ⟨g8, 21, none⟩ (.int .i64 0)) := ((Mod.of_below (F := fun i => wi.heap.size ≤ i) HBB.out).setCell (p := ⟨g8, 21, none⟩) (.inl HG8.out) _).below (fun _ h => h) (Nat.le_refl _)
  have hcalls := calls_block (w := wb.setCell ⟨g8, 21, none⟩ (.int .i64 0)) (T := 35) (l := [(didC 3 1 v, .slice none 0 0), (didC 1 1 v, .slice none 0 0), (didC 4 1 0, .slice none 0 0), (noneC 1 1 11, .slice none 0 0), (noneC 3 1 11, .slice none 0 0), (didC 2 1 v, .slice none 0 0), (noneC 2 1 12, .slice none 0 0), (ownScan v, .slice (some ⟨gp, 0, none⟩) 2 2)]) hk9 (by
    intro c hc
    simp only [List.mem_cons, List.not_mem_nil, or_false] at hc
    rcases hc with rfl | rfl | rfl | rfl | rfl | rfl | rfl | rfl
    · exact did_pairs _ _ _ _
    · exact did_pairs _ _ _ _
    · exact did_pairs _ _ _ _
    · exact .inl ⟨rfl, _, _, rfl, fun _ => rfl⟩
    · exact .inl ⟨rfl, _, _, rfl, fun _ => rfl⟩
    · exact did_pairs _ _ _ _
    · exact .inl ⟨rfl, _, _, rfl, fun _ => rfl⟩
    · exact pairs_block hkp9)
  clear x5 z21 f21 hk9 hkp9 HK8 HKP HK6 HBB
  generalize wb.setCell ⟨g8, 21, none⟩ (.int .i64 0) = w5 at *
  have HC9 : Hid (CallsAt w5 (.slice (some ⟨g8, 0, none⟩) 8 8) (ownOps v)) := Lib.hid hcalls
  have HB9 := Lib.hid hbc
  clear hcalls hbc
  have x0 := blk_cell hk69 0
  have x1 := blk_cell hk69 1
  have x2 := blk_cell hk69 2
  have x3 := blk_cell hk69 3
  have x4 := blk_cell hk69 4
  have x5 := blk_cell hk69 5
  simp at x0 x1 x2 x3 x4 x5
  have hbl := blk_lt hk69
  have HFL : Hid (∀ W, Below w5.heap.size w5 W → W.cell? ⟨b6, 0, none⟩ = some (.int .i64 2) ∧ W.cell? ⟨b6, 1, none⟩ = some (.int .i64 lv) ∧ W.cell? ⟨b6, 2, none⟩ = some (.int .i64 3) ∧ W.cell? ⟨b6, 3, none⟩ = some (.int .u64 3) ∧ W.cell? ⟨b6, 4, none⟩ = some (.int .u64 4) ∧ W.cell? ⟨b6, 5, none⟩ = some (.slice (some ⟨g8, 0, none⟩) 8 8)) := Lib.hid fun W hW => ⟨(hW.cell (p := ⟨b6, 0, none⟩) hbl).trans x0, (hW.cell (p := ⟨b6, 1, none⟩) hbl).trans x1, (hW.cell (p := ⟨b6, 2, none⟩) hbl).trans x2, (hW.cell (p := ⟨b6, 3, none⟩) hbl).trans x3, (hW.cell (p := ⟨b6, 4, none⟩) hbl).trans x4, (hW.cell (p := ⟨b6, 5, none⟩) hbl).trans x5⟩
  have HDR : Hid (Below w5.heap.size w5 w5.drew) := Lib.hid (below_drewN' (Below.refl _ _) 1)
  have HBA : Hid (∀ W, Below w5.heap.size w5 W → Calls Try.prog 11 #[] W fun e w' => ∃ g, e = .returned (.agg #[.int .i64 1, .int .i64 3, .int .i64 3, .int .u64 1, .int .u64 2, .slice (some ⟨g, 0, none⟩) 2 2]) ∧ CallsAt w' (.slice (some ⟨g, 0, none⟩) 2 2) baseD.ops ∧ Below w5.heap.size w5 w') := Lib.hid fun W hW => (base_any W).mono fun _ _ ⟨g, h1, h2, h3⟩ => ⟨g, h1, h2, bl_next hW h3⟩
  clear hbl hk69 x0 x1 x2 x3 x4 x5 HN6 HNE HG8
  go_region_held3 (fun W => W.cell? ⟨b6, 0, none⟩ = some (.int .i64 2) ∧ W.cell? ⟨b6, 1, none⟩ = some (.int .i64 lv) ∧ W.cell? ⟨b6, 2, none⟩ = some (.int .i64 3) ∧ W.cell? ⟨b6, 3, none⟩ = some (.int .u64 3) ∧ W.cell? ⟨b6, 4, none⟩ = some (.int .u64 4) ∧ W.cell? ⟨b6, 5, none⟩ = some (.slice (some ⟨g8, 0, none⟩) 8 8))
    (first | exact HFL.out _ (by assumption) | exact HFL.out _ HDR.out | exact HFL.out _ (bl_alloc (by assumption) _))
    (((with_reducible refine (HBA.out _ ?_).mono ?_); (first | assumption | exact HDR.out); rintro e w9 ⟨g0, rfl, hc0, hb9⟩))
  have hq2 := HC9.out.later hb9
  have hdd := deals_block (w := w9.alloc (.cells #[.int .i64 1, .int .i64 3, .int .i64 3, .int .u64 1, .int .u64 2, .slice (some ⟨g0, 0, none⟩) 2 2, .int .i64 2, .int .i64 lv, .int .i64 3, .int .u64 3, .int .u64 4, .slice (some ⟨g8, 0, none⟩) 8 8] 25 (0, 0))) (T := 25) (l := [(baseD, .slice (some ⟨g0, 0, none⟩) 2 2), (ownD lv v, .slice (some ⟨g8, 0, none⟩) 8 8)]) (blk_new w9 _) (by
    intro c hc
    simp only [List.mem_cons, List.not_mem_nil, or_false] at hc
    rcases hc with rfl | rfl
    · exact hc0.later (bl_alloc (Below.refl _ _) _)
    · exact hq2.later (bl_alloc (Below.refl _ _) _))
  have HX : Hid (DealsAt (w9.alloc (.cells #[.int .i64 1, .int .i64 3, .int .i64 3, .int .u64 1, .int .u64 2, .slice (some ⟨g0, 0, none⟩) 2 2, .int .i64 2, .int .i64 lv, .int .i64 3, .int .u64 3, .int .u64 4, .slice (some ⟨g8, 0, none⟩) 8 8] 25 (0, 0))) (.slice (some ⟨w9.heap.size, 0, none⟩) 2 2) (ownL lv v)) := Lib.hid hdd
  have HB := Lib.hid (bl_next HB9.out (bl_alloc hb9 (.cells #[.int .i64 1, .int .i64 3, .int .i64 3, .int .u64 1, .int .u64 2, .slice (some ⟨g0, 0, none⟩) 2 2, .int .i64 2, .int .i64 lv, .int .i64 3, .int .u64 3, .int .u64 4, .slice (some ⟨g8, 0, none⟩) 8 8] 25 (0, 0))))
  have HG := Lib.hid (own_good (lv := lv) WV.out)
  clear hq2 hdd hb9 hc0 HBA HFL HDR HC9 HB9
  generalize w9.alloc (.cells #[.int .i64 1, .int .i64 3, .int .i64 3, .int .u64 1, .int .u64 2, .slice (some ⟨g0, 0, none⟩) 2 2, .int .i64 2, .int .i64 lv, .int .i64 3, .int .u64 3, .int .u64 4, .slice (some ⟨g8, 0, none⟩) 8 8] 25 (0, 0)) = wd at *
  generalize w9.heap.size = gd at *
  have hs := holds_all HX.out HG.out
  rw [own_holds v HL3.out] at hs
  have HS := Lib.hid hs
  clear hs
  go_wp2_with fail
  refine HS.out.mono ?_
  rintro e w21 ⟨rfl, hb21⟩
  have HX := Lib.hid (HX.out.later hb21)
  have HB := Lib.hid (bl_next HB.out hb21)
  clear hb21 HS
  have hs := state_any (when := 9) HX.out HG.out
  rw [own_state] at hs
  have HS := Lib.hid hs
  clear hs
  go_wp2_with fail
  refine HS.out.mono ?_
  rintro e w30 ⟨u, rfl, hu, hb30⟩
  have HX := Lib.hid (HX.out.later hb30)
  have HB := Lib.hid (bl_next HB.out hb30)
  clear hb30 HS
  rcases hu with ⟨h, _⟩ | ⟨bu, ou, cu, rfl, -, hbu, hcu⟩
  · cases h
  have hs := serial_any (id := 2) HX.out HG.out
  rw [own_serial] at hs
  have HS := Lib.hid hs
  have HBU := Lib.hid hbu
  have HCU := Lib.hid hcu
  clear hs hbu hcu
  dsimp only [List.length_cons, List.length_nil]
  go_wp2_with fail
  refine HS.out.mono ?_
  rintro e w31 ⟨rfl, hb31⟩
  have x0 := (hb31.cell (p := ⟨bu, ou + 0 * 2, none⟩) HBU.out).trans (HCU.out 0 (Nat.zero_lt_succ _)).1
  have x1 := (hb31.cell (p := ⟨bu, ou + 0 * 2 + 1, none⟩) HBU.out).trans (HCU.out 0 (Nat.zero_lt_succ _)).2
  simp at x0 x1
  have HB := Lib.hid (bl_next HB.out hb31)
  clear hb31 HS HX HCU
  go_wp2_with fail
  refine (awake_any _).mono ?_
  rintro e w99 ⟨rfl, hb99⟩
  have HB := Lib.hid (bl_next HB.out hb99)
  clear hb99
  go_wp2_with fail
  go_ret
  exact ⟨rfl, HB.out⟩
end Go.Proofs.Ytpohehialkgigaa
