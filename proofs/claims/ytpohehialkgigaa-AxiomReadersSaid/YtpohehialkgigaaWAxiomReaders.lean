/- AxiomReaders holds: one that only read, and committed, changes nothing of what is there, nor of what others keep. No condition. -/
import Derived.Test.YtpohehialkgigaaLC
import Derived.Test.YtpohehialkgigaaLD
import Derived.Test.YtpohehialkgigaaF8
namespace Go.Proofs.Ytpohehialkgigaa
open Go.RowKit
theorem level_of (a : Int) : ∃ n : Nat, bits .and .i64 a 255 = (n : Int) ∧ n < 256 := ⟨(a % 256).toNat, by rw [i64_and255]; omega, by omega⟩
theorem st_low_63 {s : St} (h : s.low) : s.low := h
set_option maxRecDepth 100000 in
set_option maxHeartbeats 12800000 in
theorem axiomReaders_walk {a0 a1 : Option Addr} {len0 cap0 len1 cap1 : Nat} {a2 : Int} {L : List (List OpR)} {gs : List Int} {w : World} (_n0 : L.length = len0) (r0 : OpsAt w (.slice a0 len0 cap0) L) (w0 : ∀ l ∈ L, ∀ o ∈ l, (Lit.int .i64 o.kind).wf = true ∧ (Lit.int .i64 o.val).wf = true)
    (_n1 : gs.length = len1) (r1 : RowAt .i64 w (.slice a1 len1 cap1) gs) (_w1 : ∀ x ∈ gs, (Lit.int .i64 x).wf = true) (_w2 : (Lit.int .i64 a2).wf = true) :
    Calls Try.prog 7 #[.slice a0 len0 cap0, .slice a1 len1 cap1, .int .i64 a2] w fun e w' => e = .returned (.bool true) ∧ Below w.heap.size w w' := by
  have HSE := Lib.hid (serially_any r0 r1 w0)
  clear r0 r1 w0
  obtain ⟨n, hn, hn2⟩ := level_of a2
  obtain ⟨lv, hlv⟩ : ∃ lv : Int, lv = ((n % 3 : Nat) : Int) + 1 := ⟨_, rfl⟩
  have hl3 : lv = 1 ∨ lv = 2 ∨ lv = 3 := by omega
  have HLV := Lib.hid hlv
  have HL3 := Lib.hid hl3
  clear hlv hl3
  go_enter Try.func7, Try.ntmps7
  go_wp2_with fail
  refine HSE.out.mono ?_
  rintro e w1 ⟨v, l, k, c, s, rfl, hd, hs, hk, hb⟩
  have HD := Lib.hid hd
  have HS := Lib.hid hs
  have HK := Lib.hid hk
  have HB := Lib.hid hb
  have HG := Lib.hid (hs.good hk)
  obtain ⟨va, vc, rfl, -⟩ := hd.form
  clear hd hs hk hb HSE
  go_upto_region 2 with fail
  go_cut [2] from 21 to 24 (fun s2 wx => s2 = .int .i64 lv ∧ wx = w1)
  case first =>
    have hr : (n : Int) % 3 = ((n % 3 : Nat) : Int) := by simp
    have hr2 : n % 3 < 3 := Nat.mod_lt _ (by decide)
    generalize n % 3 = r at *
    go_wp2_with fail
    go_meet
    case rel => exact ⟨by rw [HLV.out], rfl⟩
  case rest =>
  obtain ⟨rfl, rfl⟩ := hcut
  clear hn hn2 HLV
  obtain ⟨w2, rfl⟩ : ∃ x, x = wc := ⟨_, rfl⟩
  go_upto_if 27 with fail
  go_cut [8] from 27 to 34 (fun s8 wx => ∃ e : Int, s8 = .int .u64 e ∧ wx = w2 ∧ 0 ≤ e ∧ e ≤ 1000 ∧ Hid (∀ d ∈ l, d.en ≤ e))
  case first =>
    by_cases hl : 0 < l.length
    · obtain ⟨j, hj⟩ : ∃ j, l.length = j + 1 := ⟨l.length - 1, by omega⟩
      obtain ⟨b, off, cap, ov, hv, hb, hcs, -⟩ := HD.out.at_ (i := j) (by omega)
      simp only [Value.slice.injEq, true_and] at hv
      obtain ⟨rfl, rfl⟩ := hv
      have c4 := hcs 4 (by decide)
      have hla := last_le (Ser.rising HS.out.ser)
      have hmem := getD_mem (l := l) (i := j) (by omega)
      rw [show l.length - 1 = j by omega] at hla
      have hab := Ser.above HS.out.ser _ hmem
      have hup := HS.out.en _ hmem
      have hck := HS.out.clock
      have hk := HK.out
      generalize l.getD j dl0 = d at *
      simp only [Dl.cells, List.getElem?_cons_zero, List.getElem?_cons_succ] at c4
      have hln : l.length ≤ 19 := HG.out.few
      have i0 : (0 : Int) ≤ (j : Int) := by omega
      have i1 : (j : Int) < (l.length : Int) := by omega
      have i2 : (l.length : Int) - 1 = (j : Int) := by omega
      have i3 : IntKind.i64.wrap (j : Int) = (j : Int) := IntWalk.i64_in _ (by omega)
      have i4 : (0 : Int) < (l.length : Int) := by omega
      have HLA := Lib.hid hla
      have e0 : 0 ≤ d.en := by omega
      have e1 : d.en ≤ 1000 := by omega
      clear hcs hla hmem hab hup hck hk
      have HJ := Lib.hid hj
      clear hj
      go_wp2_with fail
      go_meet
      case rel => exact ⟨d.en, rfl, rfl, e0, e1, HLA⟩
    · have hl0 : l = [] := List.length_eq_zero_iff.1 (by omega)
      have i4 : ¬ (0 : Int) < (l.length : Int) := by omega
      have HL0 := Lib.hid hl0
      clear hl hl0
      go_wp2_with fail
      go_meet
      case rel => exact ⟨1, rfl, rfl, by omega, by omega, Lib.hid (by rw [HL0.out]; simp)⟩
  case rest =>
  obtain ⟨e, rfl, rfl, he0, he1, HE⟩ := hcut
  obtain ⟨w2, rfl⟩ : ∃ x, x = wc := ⟨_, rfl⟩
  have hst := state_any (when := 1073741824) HD.out HG.out
  rw [HS.out.state (fun d hd => by have := HE.out d hd; omega)] at hst
  have HST := Lib.hid hst
  clear hst
  go_upto_region 6 with fail
  go_wp2_with fail
  refine HST.out.mono ?_
  rintro e' w3 ⟨pv, rfl, hp, hb3⟩
  obtain ⟨pa, pc, rfl, -⟩ := hp.form
  have HB := Lib.hid (bl_next HB.out hb3)
  have HD := Lib.hid (HD.out.later hb3)
  have HP := Lib.hid hp
  clear hb3 hp HST
  have k1 : IntKind.u64.wrap (e + 1) = e + 1 := IntWalk.u64_in _ (by omega)
  have k2 : IntKind.u64.wrap (e + 2) = e + 2 := IntWalk.u64_in _ (by omega)
  have hcn := calls_new w3 [(scanR s, .slice pa s.length pc)] (by
    intro c hc
    simp only [List.mem_cons, List.not_mem_nil, or_false] at hc
    subst hc
    exact HP.out)
  have HB := Lib.hid (bl_alloc HB.out (callsObj [(scanR s, .slice pa s.length pc)]))
  have HD := Lib.hid (HD.out.later (bl_alloc (Below.refl _ _) (callsObj [(scanR s, .slice pa s.length pc)])))
  have HP := Lib.hid (HP.out.later (bl_alloc (Below.refl _ _) (callsObj [(scanR s, .slice pa s.length pc)])))
  have HC : Hid (CallsAt (w3.alloc (callsObj [(scanR s, .slice pa s.length pc)])) (.slice (some ⟨w3.heap.size, 0, none⟩) 1 1) [scanR s]) := Lib.hid hcn
  clear hcn
  go_wp2_with (with_reducible show wpList Try.prog _ _ (Oper.mk _ (Op.buildSlice 23 1 _) _ _ _ _ :: _) _ _; refine build_call1 rfl (.tmp 45) rfl (scanR s) rfl ?_; simp only [Act.put, List.setIfInBounds_toArray, List.set_cons_zero, List.set_cons_succ])
  generalize w3.alloc (callsObj [(scanR s, .slice pa s.length pc)]) = w4 at *
  generalize w3.heap.size = gc at *
  refine (deal_any 50 lv (e + 1) (e + 2) _ _ _ _).mono ?_
  rintro e' w5 ⟨rfl, hb5⟩
  have HB := Lib.hid (bl_next HB.out hb5)
  have HD := Lib.hid (HD.out.later hb5)
  have HP := Lib.hid (HP.out.later hb5)
  have HC := Lib.hid (HC.out.later hb5)
  clear hb5
  go_upto_region 8 with fail
  have hk := blk_new w5 (.cells #[.int .i64 50, .int .i64 lv, .int .i64 3, .int .u64 (e + 1), .int .u64 (e + 2), .slice (some ⟨gc, 0, none⟩) 1 1] 25 (0, 0))
  have HB := Lib.hid (bl_alloc HB.out (.cells #[.int .i64 50, .int .i64 lv, .int .i64 3, .int .u64 (e + 1), .int .u64 (e + 2), .slice (some ⟨gc, 0, none⟩) 1 1] 25 (0, 0)))
  have HD := Lib.hid (HD.out.later (bl_alloc (Below.refl _ _) (.cells #[.int .i64 50, .int .i64 lv, .int .i64 3, .int .u64 (e + 1), .int .u64 (e + 2), .slice (some ⟨gc, 0, none⟩) 1 1] 25 (0, 0))))
  have HP := Lib.hid (HP.out.later (bl_alloc (Below.refl _ _) (.cells #[.int .i64 50, .int .i64 lv, .int .i64 3, .int .u64 (e + 1), .int .u64 (e + 2), .slice (some ⟨gc, 0, none⟩) 1 1] 25 (0, 0))))
  have HC := Lib.hid (HC.out.later (bl_alloc (Below.refl _ _) (.cells #[.int .i64 50, .int .i64 lv, .int .i64 3, .int .u64 (e + 1), .int .u64 (e + 2), .slice (some ⟨gc, 0, none⟩) 1 1] 25 (0, 0))))
  generalize w5.alloc (.cells #[.int .i64 50, .int .i64 lv, .int .i64 3, .int .u64 (e + 1), .int .u64 (e + 2), .slice (some ⟨gc, 0, none⟩) 1 1] 25 (0, 0)) = w6 at *
  generalize w5.heap.size = gd at *
  obtain ⟨ds, hds, hcalls, hsrc⟩ := HD.out.src
  have x0 := blk_cell hk 0
  have x1 := blk_cell hk 1
  have x2 := blk_cell hk 2
  have x3 := blk_cell hk 3
  have x4 := blk_cell hk 4
  have x5 := blk_cell hk 5
  simp only [List.getElem?_toArray, List.getElem?_cons_zero, List.getElem?_cons_succ] at x0 x1 x2 x3 x4 x5
  have hbl := blk_lt hk
  have HFL : Hid (∀ W, Below w6.heap.size w6 W → W.cell? ⟨gd, 0, none⟩ = some (.int .i64 50) ∧ W.cell? ⟨gd, 1, none⟩ = some (.int .i64 lv) ∧ W.cell? ⟨gd, 2, none⟩ = some (.int .i64 3) ∧ W.cell? ⟨gd, 3, none⟩ = some (.int .u64 (e + 1)) ∧ W.cell? ⟨gd, 4, none⟩ = some (.int .u64 (e + 2)) ∧ W.cell? ⟨gd, 5, none⟩ = some (.slice (some ⟨gc, 0, none⟩) 1 1)) := Lib.hid fun W hW => ⟨(hW.cell (p := ⟨gd, 0, none⟩) hbl).trans x0, (hW.cell (p := ⟨gd, 1, none⟩) hbl).trans x1, (hW.cell (p := ⟨gd, 2, none⟩) hbl).trans x2, (hW.cell (p := ⟨gd, 3, none⟩) hbl).trans x3, (hW.cell (p := ⟨gd, 4, none⟩) hbl).trans x4, (hW.cell (p := ⟨gd, 5, none⟩) hbl).trans x5⟩
  have HSRC : Hid (∀ W, Below w6.heap.size w6 W → SrcAt W (.slice va l.length vc) l.length 6 (ds.flatMap fun c => c.1.cells c.2)) := Lib.hid fun W hW => hsrc.later hW
  have HONE := Lib.hid (deals_one hcalls)
  have HCS := Lib.hid hcalls
  have HDS := Lib.hid hds
  clear hk hcalls hsrc hds x0 x1 x2 x3 x4 x5 hbl k1 k2
  go_cut [11] from 48 to 53 (fun s11 wx => Hid (DealsAt wx s11 (l ++ [readerD lv e s])) ∧ Hid (Below w6.heap.size w6 wx))
  case first =>
    go_region_held3 (fun W => W.cell? ⟨gd, 0, none⟩ = some (.int .i64 50) ∧ W.cell? ⟨gd, 1, none⟩ = some (.int .i64 lv) ∧ W.cell? ⟨gd, 2, none⟩ = some (.int .i64 3) ∧ W.cell? ⟨gd, 3, none⟩ = some (.int .u64 (e + 1)) ∧ W.cell? ⟨gd, 4, none⟩ = some (.int .u64 (e + 2)) ∧ W.cell? ⟨gd, 5, none⟩ = some (.slice (some ⟨gc, 0, none⟩) 1 1))
      (exact HFL.out _ (by repeat (first | assumption | exact Below.refl _ _ | refine Below.drew ?_ | refine bl_alloc ?_ _)))
      (first
        | (refine step_append (zero := dealZero) (size := 6) (base := w6.heap.size) (n := 0) (m := l.length) (xs := []) (ys := ds.flatMap fun c => c.1.cells c.2) rfl (.tmp 48) (.tmp 49) rfl Try.underlying37 info_deal3 rfl (by decide) (Nat.le_of_ble_eq_true rfl) rfl ?_ rfl ?_ HONE.out ?_ ?_ ?_; exact made_deals (by first | exact blk_at (by simp) | exact blk_alloc (blk_at (by simp))) (by simp <;> omega); exact HSRC.out _ (by repeat (first | assumption | exact Below.refl _ _ | refine Below.drew ?_ | refine bl_alloc ?_ _)); (have := HG.out.few; omega); (simp <;> omega); intro v7 w7 h7; rw [Nat.zero_add] at h7; replace h7 : Appended _ _ _ _ _ (Value.slice (some ⟨_, 0, none⟩) 0 0) _ _ _ := h7; obtain ⟨a7, c7, rfl⟩ := h7.val; have hb7 := NewDeals.below (w1 := w6) (made_deals (by first | exact blk_at (by simp) | exact blk_alloc (blk_at (by simp))) (by simp <;> omega)) h7 (by repeat (first | assumption | exact Below.refl _ _ | refine Below.drew ?_ | refine bl_alloc ?_ _)) (by simp <;> omega))
        | (refine step_append (zero := dealZero) (size := 6) (base := w6.heap.size) (n := l.length) (m := 1) (xs := [] ++ ds.flatMap fun c => c.1.cells c.2) (ys := (readerD lv e s).cells (.slice (some ⟨gc, 0, none⟩) 1 1)) rfl (.tmp 50) (.tmp 52) rfl Try.underlying37 info_deal3 rfl (by decide) (Nat.le_of_ble_eq_true rfl) rfl ?_ rfl ?_ (deal_one _ _ _ _) ?_ ?_ ?_; (first | exact h7.own | exact World.ownsRow.alloc h7.own _); (first | exact SrcAt.block (blk_at (by simp)) rfl | exact SrcAt.block (h7.keep (by first | exact blk_at (by simp) | exact blk_alloc (blk_at (by simp))) (by simp [Value.ownBlock])) rfl); (have := HG.out.few; omega); (have := hb7.size; simp; omega); intro v8 w8 h8; obtain ⟨a8, c8, rfl⟩ := h8.val; have hb8 := NewDeals.below (w1 := w6) (by first | exact h7.own | exact World.ownsRow.alloc h7.own _) h8 (by repeat (first | assumption | exact Below.refl _ _ | refine Below.drew ?_ | refine bl_alloc ?_ _)) (by have := hb7.size; simp; omega)))
    all_goals
      have hn8 := NewDeals.app (l := ds) (d := readerD lv e s) (ov := .slice (some ⟨gc, 0, none⟩) 1 1) h8 (by have h := congrArg List.length HDS.out; simp at h; omega) rfl
      have hat := hn8.at_ (fun x hx => by
        rcases List.mem_append.1 hx with hx | hx
        · exact (HCS.out x hx).later hb8
        · simp only [List.mem_singleton] at hx
          subst hx
          exact HC.out.later hb8)
      rw [List.map_append, HDS.out] at hat
      have HAT := Lib.hid hat
      have HB8 := Lib.hid hb8
      clear hat hn8 hb8 h8 hb7 h7
      go_wp2_with fail
      go_meet
      case rel => exact ⟨HAT, HB8⟩
  case rest =>
  obtain ⟨hm8, hb8⟩ := hcut
  obtain ⟨w8, rfl⟩ : ∃ x, x = wc := ⟨_, rfl⟩
  obtain ⟨ma, mc, rfl, -⟩ := hm8.out.form
  have HM := hm8
  have HB := Lib.hid (bl_next HB.out hb8.out)
  have HD := Lib.hid (HD.out.later hb8.out)
  have HP := Lib.hid (HP.out.later hb8.out)
  have HGM := Lib.hid (reader_good (lv := lv) HS.out HK.out he0 he1 HE.out)
  have hrf := reader_facts (lv := lv) HS.out HK.out he0 he1 HE.out HL3.out
  have HSL := Lib.hid (HS.out.few_state HK.out)
  clear hb8 hm8 HFL HSRC HONE HCS HDS HC HE
  generalize l ++ [readerD lv e s] = M at *
  obtain ⟨f1, f2, f3, f4, f5, f6⟩ := hrf
  have hs := holds_all HD.out HG.out
  have HF2 := Lib.hid f2
  have HF3 := Lib.hid f3
  have HF4 := Lib.hid f4
  have HF5 := Lib.hid f5
  have HF6 := Lib.hid f6
  have HH := Lib.hid hs
  have HF1 := Lib.hid f1
  clear hs f1 f2 f3 f4 f5 f6
  obtain ⟨hx, hy, hxy⟩ : ∃ x y, holdsD l = (x, y) := ⟨_, _, rfl⟩
  rw [hxy] at HH HF1
  clear hxy
  go_upto_region 9 with fail
  go_wp2_with fail
  refine HH.out.mono ?_
  rintro e' w9 ⟨rfl, hb9⟩
  have HB := Lib.hid (bl_next HB.out hb9)
  have HD := Lib.hid (HD.out.later hb9)
  have HM := Lib.hid (HM.out.later hb9)
  have HP := Lib.hid (HP.out.later hb9)
  have hs := holds_all HM.out HGM.out
  rw [HF1.out] at hs
  have HS9 := Lib.hid hs
  clear hb9 hs HH HF1
  go_wp2_with fail
  refine HS9.out.mono ?_
  rintro e' w10 ⟨rfl, hb9⟩
  have HB := Lib.hid (bl_next HB.out hb9)
  have HD := Lib.hid (HD.out.later hb9)
  have HM := Lib.hid (HM.out.later hb9)
  have HP := Lib.hid (HP.out.later hb9)
  have hs := state_any (when := 1073741824) HM.out HGM.out
  rw [HF2.out] at hs
  have HS10 := Lib.hid hs
  clear hb9 hs HS9 HF2
  go_wp2_with fail
  refine HS10.out.mono ?_
  rintro e' w11 ⟨qv, rfl, hq, hb9⟩
  obtain ⟨qa, qc, rfl, -⟩ := hq.form
  have HB := Lib.hid (bl_next HB.out hb9)
  have HD := Lib.hid (HD.out.later hb9)
  have HM := Lib.hid (HM.out.later hb9)
  have HP := Lib.hid (HP.out.later hb9)
  have HQ := Lib.hid hq
  have HW1 := Lib.hid (writers_any HD.out (by have := HG.out.few; omega) HG.out.wf)
  clear hb9 hq HS10
  go_wp2_with fail
  refine HW1.out.mono ?_
  rintro e' w12 ⟨rfl, hb9⟩
  have HB := Lib.hid (bl_next HB.out hb9)
  have HM := Lib.hid (HM.out.later hb9)
  have HP := Lib.hid (HP.out.later hb9)
  have HQ := Lib.hid (HQ.out.later hb9)
  have hs := writers_any HM.out (by have := HGM.out.few; omega) HGM.out.wf
  rw [HF3.out] at hs
  have HW2 := Lib.hid hs
  clear hb9 hs HW1 HF3
  go_wp2_with fail
  refine HW2.out.mono ?_
  rintro e' w13 ⟨rfl, hb9⟩
  have HB := Lib.hid (bl_next HB.out hb9)
  have HM := Lib.hid (HM.out.later hb9)
  have HP := Lib.hid (HP.out.later hb9)
  have HQ := Lib.hid (HQ.out.later hb9)
  clear hb9 HW2
  go_wp2_with fail
  go_loopg [17] s.length (fun kx jv wx => ∃ j : Nat, jv = .int .i64 j ∧ j ≤ s.length ∧ s.length - j ≤ kx ∧ Hid (Below w13.heap.size w13 wx))
  case atStart => exact ⟨0, rfl, Nat.zero_le _, by omega, Lib.hid (Below.refl _ _)⟩
  case round =>
    obtain ⟨j, rfl, hj, hjk, HX⟩ := hrel
    have j0 : (0 : Int) ≤ (j : Int) := by omega
    have hsl := HSL.out
    by_cases hlt : j < s.length
    · have j1 : (j : Int) < (s.length : Int) := by omega
      have hjw : IntKind.i64.wrap ((j : Int) + 1) = (j : Int) + 1 := IntWalk.i64_in _ (by omega)
      rcases HP.out.later HX.out with ⟨h0, _⟩ | ⟨bp, op, cp, hv, -, -, hcp⟩
      · rw [h0] at hlt
        exact absurd hlt (Nat.not_lt_zero j)
      simp only [Value.slice.injEq, true_and] at hv
      obtain ⟨rfl, rfl⟩ := hv
      rcases HQ.out.later HX.out with ⟨h0, _⟩ | ⟨bq, oq, cq, hv, -, -, hcq⟩
      · rw [h0] at hlt
        exact absurd hlt (Nat.not_lt_zero j)
      simp only [Value.slice.injEq, true_and] at hv
      obtain ⟨rfl, rfl⟩ := hv
      have p0 := (hcp j hlt).1
      have p1 := (hcp j hlt).2
      have q0 := (hcq j hlt).1
      have q1 := (hcq j hlt).2
      clear hcp hcq hsl
      generalize s.getD j (0, 0) = y at *
      obtain ⟨y1, y2⟩ := y
      dsimp only at p0 p1 q0 q1
      go_upto_region 17 with fail
      go_region
      all_goals
        go_wp2_with fail
        go_roundg (s.length - (j + 1))
        case rel => exact ⟨j + 1, by go_num, by omega, by omega, Lib.hid (by first | exact HX.out | exact HX.out.drew | exact below_drewN' HX.out _)⟩
        case measure => omega
    · have j1 : ¬ (j : Int) < (s.length : Int) := by omega
      have hs := snapshot_any (id := 50) (HM.out.later HX.out) HGM.out
      rw [HF4.out] at hs
      have HC1 := Lib.hid hs
      have HB := Lib.hid (bl_next HB.out HX.out)
      have HM := Lib.hid (HM.out.later HX.out)
      clear hs hsl hlt HF4
      go_wp2_with fail
      refine HC1.out.mono ?_
      rintro e' w14 ⟨rfl, hb9⟩
      have HB := Lib.hid (bl_next HB.out hb9)
      have HM := Lib.hid (HM.out.later hb9)
      have hs := serial_any (id := 50) HM.out HGM.out
      rw [HF5.out] at hs
      have HC2 := Lib.hid hs
      clear hb9 hs HC1 HF5
      go_wp2_with fail
      refine HC2.out.mono ?_
      rintro e' w15 ⟨rfl, hb9⟩
      have HB := Lib.hid (bl_next HB.out hb9)
      have HM := Lib.hid (HM.out.later hb9)
      have hs := repeatable_any (id := 50) HM.out HGM.out
      rw [HF6.out] at hs
      have HC3 := Lib.hid hs
      clear hb9 hs HC2 HF6
      go_wp2_with fail
      refine HC3.out.mono ?_
      rintro e' w16 ⟨rfl, hb9⟩
      have HB := Lib.hid (bl_next HB.out hb9)
      clear hb9 HC3
      go_wp2_with fail
      refine (awake_any _).mono ?_
      rintro e' w99 ⟨rfl, hb99⟩
      have HB := Lib.hid (bl_next HB.out hb99)
      clear hb99
      go_wp2_with fail
      go_ret
      exact ⟨rfl, HB.out⟩
end Go.Proofs.Ytpohehialkgigaa
