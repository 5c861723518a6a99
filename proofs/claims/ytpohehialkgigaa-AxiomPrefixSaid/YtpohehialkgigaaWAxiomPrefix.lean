/- AxiomPrefix holds: what is there at a time is what those make who ended by then: later ones change nothing of it; one who was aborted never does. No condition. -/
import Derived.Test.YtpohehialkgigaaLC
import Derived.Test.YtpohehialkgigaaLE
import Derived.Test.YtpohehialkgigaaF8
namespace Go.Proofs.Ytpohehialkgigaa
open Go.RowKit
theorem level_of (a : Int) : ∃ n : Nat, bits .and .i64 a 255 = (n : Int) ∧ n < 256 := ⟨(a % 256).toNat, by rw [i64_and255]; omega, by omega⟩
theorem time_of (a : Int) : ∃ n : Nat, bits .and .u64 a 63 = (n : Int) ∧ n < 64 := ⟨(a % 64).toNat, by rw [u64_and63]; omega, by omega⟩
theorem early_next {l : List Dl} {at' : Int} {i : Nat} (hi : i < l.length) : (l.take (i + 1)).filter (fun d => decide (d.en ≤ at')) = (l.take i).filter (fun d => decide (d.en ≤ at')) ++ (if (l.getD i dl0).en ≤ at' then [l.getD i dl0] else []) := by
  rw [List.take_succ_eq_append_getElem hi, List.filter_append]
  have e : l.getD i dl0 = l[i] := by simp [List.getD_eq_getElem?_getD, hi]
  rw [e]
  congr 1
  by_cases h : l[i].en ≤ at' <;> simp [h]
theorem at_cut {l : List Dl} {i : Nat} (hi : i < l.length) : l = l.take i ++ l.getD i dl0 :: l.drop (i + 1) := by
  have e : l.getD i dl0 = l[i] := by simp [List.getD_eq_getElem?_getD, hi]
  rw [e]
  simp
set_option maxRecDepth 100000 in
set_option maxHeartbeats 12800000 in
theorem axiomPrefix_walk {a0 a1 : Option Addr} {len0 cap0 len1 cap1 : Nat} {a2 a3 : Int} {L : List (List OpR)} {gs : List Int} {w : World} (_n0 : L.length = len0) (r0 : OpsAt w (.slice a0 len0 cap0) L) (w0 : ∀ l ∈ L, ∀ o ∈ l, (Lit.int .i64 o.kind).wf = true ∧ (Lit.int .i64 o.val).wf = true)
    (_n1 : gs.length = len1) (r1 : RowAt .i64 w (.slice a1 len1 cap1) gs) (_w1 : ∀ x ∈ gs, (Lit.int .i64 x).wf = true) (_w2 : (Lit.int .u64 a2).wf = true) (_w3 : (Lit.int .i64 a3).wf = true) :
    Calls Try.prog 8 #[.slice a0 len0 cap0, .slice a1 len1 cap1, .int .u64 a2, .int .i64 a3] w fun e w' => e = .returned (.bool true) ∧ Below w.heap.size w w' := by
  have HSE := Lib.hid (serially_any r0 r1 w0)
  clear r0 r1 w0
  obtain ⟨t, ht, ht2⟩ := time_of a2
  go_enter Try.func8, Try.ntmps8
  go_wp2_with fail
  refine HSE.out.mono ?_
  rintro e w1 ⟨v, l, k, c, s, rfl, hd, hs, hk, hb⟩
  have HD := Lib.hid hd
  have HS := Lib.hid hs
  have HK := Lib.hid hk
  have HB := Lib.hid hb
  have HG := Lib.hid (hs.good hk)
  obtain ⟨va, vc, rfl, -⟩ := hd.form
  clear hd hs hk hb HSE
  go_upto_region 2 with fail
  go_cut [2] from 18 to 19 (fun s2 wx => s2 = .int .u64 t ∧ wx = w1)
  case first =>
    go_wp2_with fail
    go_meet
    case rel => exact ⟨rfl, rfl⟩
  case rest =>
  obtain ⟨rfl, rfl⟩ := hcut
  obtain ⟨w2, rfl⟩ : ∃ x, x = wc := ⟨_, rfl⟩
  clear ht
  go_wp2_with fail
  go_loopg [10, 11] l.length (fun kx ev iv wx => ∃ (i : Nat) (ds : List (Dl × Value)), iv = .int .i64 i ∧ i ≤ l.length ∧ l.length - i ≤ kx ∧ Hid (NewDeals w2.heap.size wx ev ds) ∧ Hid (ds.map (·.1) = (l.take i).filter (fun d => decide (d.en ≤ (t : Int)))) ∧ Hid (∀ x ∈ ds, CallsAt w2 x.2 x.1.ops) ∧ Hid (Below w2.heap.size w2 wx))
  case atStart => exact ⟨0, [], rfl, Nat.zero_le _, by omega, Lib.hid (NewDeals.nil _ _), Lib.hid rfl, Lib.hid (by simp), Lib.hid (Below.refl _ _)⟩
  case round =>
    obtain ⟨i, ds, rfl, hi, hik, HN, HM, HC, HX⟩ := hrel
    have i0 : (0 : Int) ≤ (i : Int) := by omega
    have hln : l.length ≤ 19 := HG.out.few
    by_cases hlt : i < l.length
    · have i1 : (i : Int) < (l.length : Int) := by omega
      have hiw : IntKind.i64.wrap ((i : Int) + 1) = (i : Int) + 1 := IntWalk.i64_in _ (by omega)
      obtain ⟨b, off, cap, ov, hv, hb, hcs, hcl⟩ := HD.out.at_ hlt
      simp only [Value.slice.injEq, true_and] at hv
      obtain ⟨rfl, rfl⟩ := hv
      obtain ⟨oa, oc, rfl, -⟩ := hcl.form
      have HEN := Lib.hid (early_next (at' := (t : Int)) hlt)
      have HDL : Hid (ds.length ≤ i) := Lib.hid (by
        have h1 := congrArg List.length HM.out
        have h2 := List.length_filter_le (fun d : Dl => decide (d.en ≤ (t : Int))) (l.take i)
        simp only [List.length_map, List.length_take] at h1 h2
        omega)
      have x0 := (HX.out.cell (p := ⟨b, off + i * 6 + 0, none⟩) hb).trans (hcs 0 (by decide))
      have x1 := (HX.out.cell (p := ⟨b, off + i * 6 + 1, none⟩) hb).trans (hcs 1 (by decide))
      have x2 := (HX.out.cell (p := ⟨b, off + i * 6 + 2, none⟩) hb).trans (hcs 2 (by decide))
      have x3 := (HX.out.cell (p := ⟨b, off + i * 6 + 3, none⟩) hb).trans (hcs 3 (by decide))
      have x4 := (HX.out.cell (p := ⟨b, off + i * 6 + 4, none⟩) hb).trans (hcs 4 (by decide))
      have x5 := (HX.out.cell (p := ⟨b, off + i * 6 + 5, none⟩) hb).trans (hcs 5 (by decide))
      have HCL := Lib.hid hcl
      clear hcs hcl
      generalize l.getD i dl0 = d at *
      simp only [Dl.cells, List.getElem?_cons_zero, List.getElem?_cons_succ, Nat.add_zero] at x0 x1 x2 x3 x4 x5
      by_cases hle : d.en ≤ (t : Int)
      · have HE2 := Lib.hid hle
        go_wp2_with (first
          | (with_reducible show wpList Try.prog _ _ (Oper.mk _ (Op.buildSlice 37 1 _) _ _ _ _ :: _) _ _; refine build_deal1 rfl (.tmp 37) rfl d rfl ?_; simp only [Act.put, List.setIfInBounds_toArray, List.set_cons_zero, List.set_cons_succ])
          | (at_builtin; refine walk_append_wide (zero := dealZero) (size := 6) (base := w2.heap.size) (n := ds.length) (m := 1) (xs := ds.flatMap fun c => c.1.cells c.2) (ys := d.cells (.slice oa d.ops.length oc)) rfl (.tmp 33) (.tmp 38) rfl Try.underlying37 info_deal3 rfl (by decide) (Nat.le_of_ble_eq_true rfl) rfl (World.ownsRow.alloc HN.out _) rfl (src_deal _ _) (deal_one _ _ _ _) (by have := HDL.out; omega) (by have := HX.out.size; simp; omega) ?_))
        intro v5 w5 h5
        have hb5 := NewDeals.below (w1 := w2) (World.ownsRow.alloc HN.out _) h5 (bl_alloc HX.out _) (by have := HX.out.size; simp; omega)
        have hn5 := NewDeals.app (l := ds) (d := d) (ov := .slice oa d.ops.length oc) h5 rfl rfl
        obtain ⟨va5, vc5, rfl⟩ := h5.val
        have HN5 := Lib.hid hn5
        have HX5 := Lib.hid hb5
        clear h5 hb5 hn5 x0 x1 x2 x3 x4 x5
        go_wp2_with fail
        go_roundg (l.length - (i + 1))
        case rel => exact ⟨i + 1, ds ++ [(d, .slice oa d.ops.length oc)], by go_num, by omega, by omega, HN5, Lib.hid (by rw [List.map_append, HM.out, HEN.out, if_pos HE2.out]; rfl), Lib.hid (fun x hx => by
          rcases List.mem_append.1 hx with hx | hx
          · exact HC.out x hx
          · simp only [List.mem_singleton] at hx
            subst hx
            exact HCL.out), HX5⟩
        case measure => omega
      · go_wp2_with fail
        go_roundg (l.length - (i + 1))
        case rel => exact ⟨i + 1, ds, by go_num, by omega, by omega, HN, Lib.hid (by rw [HEN.out, if_neg (Int.not_le.2 hle), List.append_nil]; exact HM.out), HC, HX⟩
        case measure => omega
    · have i1 : ¬ (i : Int) < (l.length : Int) := by omega
      have hE := HN.out.at_ (fun x hx => (HC.out x hx).later HX.out)
      rw [HM.out, List.take_of_length_le (by omega)] at hE
      have HE := Lib.hid hE
      have HGE := Lib.hid (HG.out.sub (List.filter_sublist (p := fun d : Dl => decide (d.en ≤ (t : Int))) (l := l)))
      have HPS := Lib.hid (prefix_state (l := l) (at' := (t : Int)) (big := 1073741824) (fun d hd => ⟨(Ser.above HS.out.ser d hd).2.2, by have h1 := HS.out.en d hd; have h2 := HS.out.clock; have h3 := HK.out; omega⟩))
      have HD := Lib.hid (HD.out.later HX.out)
      have HB := Lib.hid (HB.out.trans (HX.out.mono HB.out.size))
      obtain ⟨ea, ec, rfl, -⟩ := hE.form
      clear hE HN HM HC HX
      generalize l.filter (fun d => decide (d.en ≤ (t : Int))) = E at *
      have hs := state_any (when := (t : Int)) HD.out HG.out
      have HSA := Lib.hid hs
      clear hs
      go_wp2_with fail
      refine HSA.out.mono ?_
      rintro e' w3 ⟨pv, rfl, hp, hb9⟩
      obtain ⟨pa, pc, rfl, -⟩ := hp.form
      have HB := Lib.hid (bl_next HB.out hb9)
      have HD := Lib.hid (HD.out.later hb9)
      have HE := Lib.hid (HE.out.later hb9)
      have HP := Lib.hid hp
      have hs := state_any (when := 1073741824) HE.out HGE.out
      rw [← HPS.out] at hs
      have HSB := Lib.hid hs
      have HLP := Lib.hid (HG.out.atLen t (-1))
      clear hs hp hb9 HSA HPS
      generalize atD l (t : Int) (-1) = p at *
      go_wp2_with fail
      refine HSB.out.mono ?_
      rintro e' w4 ⟨qv, rfl, hq, hb9⟩
      obtain ⟨qa, qc, rfl, -⟩ := hq.form
      have HB := Lib.hid (bl_next HB.out hb9)
      have HD := Lib.hid (HD.out.later hb9)
      have hsp := same_pairs (HP.out.later hb9) hq (by have := HLP.out; omega) (by have := HLP.out; omega)
      rw [decide_eq_true rfl] at hsp
      have HSP := Lib.hid hsp
      clear hq hb9 hsp HSB HP HE HGE
      go_wp2_with fail
      refine HSP.out.mono ?_
      rintro e' w5 ⟨rfl, q, rfl⟩
      have HDR := Lib.hid (below_drewN' (Below.refl w4.heap.size w4) q)
      have HB := Lib.hid (bl_next HB.out HDR.out)
      have HD := Lib.hid (HD.out.later HDR.out)
      clear HSP HDR
      generalize w4.drewN q = w5 at *
      by_cases hl0 : l.length = 0
      · have HL0 := Lib.hid hl0
        clear hlt i1
        rw [hl0] at *
        go_wp2_with fail
        refine (awake_any _).mono ?_
        rintro e' w99 ⟨rfl, hb99⟩
        have HB := Lib.hid (bl_next HB.out hb99)
        clear hb99
        go_wp2_with fail
        go_ret
        exact ⟨rfl, HB.out⟩
      · obtain ⟨m, hm, hm2⟩ := level_of a3
        have q1 : ((l.length : Int) == 0) = false := by simpa using hl0
        have q2 : ¬ (l.length : Int) = 0 := by omega
        go_upto_region 13 with fail
        clear q1
        go_cut [12] from 51 to 55 (fun s12 wx => ∃ j : Nat, s12 = .int .i64 j ∧ j < l.length ∧ wx = w5)
        case first =>
          have hr : (m : Int) % (l.length : Int) = ((m % l.length : Nat) : Int) := by simp
          have ht : Int.tmod (m : Int) (l.length : Int) = ((m % l.length : Nat) : Int) := rfl
          have hr2 : m % l.length < l.length := Nat.mod_lt _ (by omega)
          have hr3 : IntKind.i64.wrap ((m % l.length : Nat) : Int) = ((m % l.length : Nat) : Int) := IntWalk.i64_in _ (by omega)
          generalize m % l.length = r at *
          go_wp2_with fail
          go_meet
          case rel => exact ⟨r, rfl, hr2, rfl⟩
        case rest =>
        obtain ⟨j, rfl, hjl, rfl⟩ := hcut
        obtain ⟨w6, rfl⟩ : ∃ x, x = wc := ⟨_, rfl⟩
        clear hm hm2 q2
        obtain ⟨b, off, cap, ov, hv, -, -, -⟩ := HD.out.at_ hjl
        simp only [Value.slice.injEq, true_and] at hv
        obtain ⟨rfl, rfl⟩ := hv
        obtain ⟨ds, hds, hcalls, hsrc⟩ := HD.out.src
        have hdl : ds.length = l.length := by rw [← hds]; simp
        have hcap : l.length ≤ vc := by
          obtain ⟨_, _, h1, h2⟩ := HD.out.form
          simp only [Value.slice.injEq, true_and] at h1
          rw [h1.2]
          exact h2
        have j0 : (0 : Int) ≤ (j : Int) := by omega
        have j1 : (j : Int) < (l.length : Int) := by omega
        have j2 : (j : Int) ≤ (vc : Int) := by omega
        have j3 : (j : Int) + 1 ≤ (l.length : Int) := by omega
        have j4 : (l.length : Int) ≤ (vc : Int) := by omega
        have j5 : (0 : Int) ≤ (j : Int) + 1 := by omega
        have jw : IntKind.i64.wrap ((j : Int) + 1) = (j : Int) + 1 := IntWalk.i64_in _ (by omega)
        have HSRC : Hid (∀ W, Below w6.heap.size w6 W → SrcAt W (.slice (some ⟨b, off, none⟩) l.length vc) l.length 6 (ds.flatMap fun c => c.1.cells c.2)) := Lib.hid fun W hW => hsrc.later hW
        have HONE := Lib.hid (deals_one hcalls)
        have HCS := Lib.hid hcalls
        have HDS := Lib.hid hds
        have HDL := Lib.hid hdl
        have HCP := Lib.hid hcap
        have HLN := Lib.hid hln
        clear hcalls hsrc hds hdl hcap
        go_upto_region 14 with fail
        go_cut [13] from 56 to 65 (fun s13 wx => Hid (DealsAt wx s13 (l.take j ++ l.drop (j + 1))) ∧ Hid (Below w6.heap.size w6 wx))
        case first =>
          go_region_law (first
            | (refine step_append (zero := dealZero) (size := 6) (base := w6.heap.size) (n := 0) (m := j) (xs := []) (ys := (ds.flatMap fun c => c.1.cells c.2).take (j * 6)) rfl (.tmp 56) (.tmp 59) rfl Try.underlying37 info_deal3 rfl (by decide) (Nat.le_of_ble_eq_true rfl) rfl ?_ rfl ?_ (fun y hy => HONE.out y (List.mem_of_mem_take hy)) ?_ ?_ ?_; exact made_deals (blk_at (by simp)) (by simp); exact (HSRC.out _ (by repeat (first | assumption | exact Below.refl _ _ | refine Below.drew ?_ | refine bl_alloc ?_ _))).take (by omega); (have := HLN.out; omega); (simp <;> omega); intro v7 w7 h7; rw [Nat.zero_add] at h7; replace h7 : Appended _ _ _ _ _ (Value.slice (some ⟨_, 0, none⟩) 0 0) _ _ _ := h7; obtain ⟨a7, c7, rfl⟩ := h7.val; have hb7 := NewDeals.below (w1 := w6) (made_deals (by exact blk_at (by simp)) (by simp <;> omega)) h7 (by repeat (first | assumption | exact Below.refl _ _ | refine Below.drew ?_ | refine bl_alloc ?_ _)) (by simp <;> omega))
            | (refine step_append (zero := dealZero) (size := 6) (base := w6.heap.size) (n := j) (m := l.length - (j + 1)) (xs := [] ++ (ds.flatMap fun c => c.1.cells c.2).take (j * 6)) (ys := (ds.flatMap fun c => c.1.cells c.2).drop ((j + 1) * 6)) rfl (.tmp 60) (.tmp 64) rfl Try.underlying37 info_deal3 rfl (by decide) (Nat.le_of_ble_eq_true rfl) rfl ?_ rfl ?_ (fun y hy => HONE.out y (List.mem_of_mem_drop hy)) ?_ ?_ ?_; exact h7.own; exact (HSRC.out _ (by repeat (first | assumption | exact Below.refl _ _ | refine Below.drew ?_ | refine bl_alloc ?_ _))).drop (by omega) HCP.out; (have := HLN.out; omega); (have := hb7.size; omega); intro v8 w8 h8; obtain ⟨a8, c8, rfl⟩ := h8.val; have hb8 := NewDeals.below (w1 := w6) h7.own h8 hb7 hb7.size))
          all_goals
            have hn8 : NewDeals w6.heap.size w8 (.slice a8 (j + (l.length - (j + 1))) c8) (ds.take j ++ ds.drop (j + 1)) := by
              have h := h8.own
              rw [List.nil_append, ← flat_take Dl.cells_len, ← flat_drop Dl.cells_len, ← List.flatMap_append] at h
              have hl := HDL.out
              unfold NewDeals
              rw [show (ds.take j ++ ds.drop (j + 1)).length = j + (l.length - (j + 1)) by simp; omega]
              exact h
            have hat := hn8.at_ (fun x hx => by
              rcases List.mem_append.1 hx with hx | hx
              · exact (HCS.out x (List.mem_of_mem_take hx)).later hb8
              · exact (HCS.out x (List.mem_of_mem_drop hx)).later hb8)
            rw [List.map_append, List.map_take, List.map_drop, HDS.out] at hat
            have HAT := Lib.hid hat
            have HB8 := Lib.hid hb8
            clear hat hn8 hb8 h8 hb7 h7
            generalize (if vc = j + 1 then (some (⟨b, off, none⟩ : Addr)) else some ⟨b, off + (j + 1) * 6, none⟩) = z at *
            go_wp2_with fail
            go_meet
            case rel => exact ⟨HAT, HB8⟩
        case rest =>
        obtain ⟨hm8, hb8⟩ := hcut
        obtain ⟨w8, rfl⟩ : ∃ x, x = wc := ⟨_, rfl⟩
        obtain ⟨ma, mn, mc, rfl⟩ : ∃ a n m, u13 = .slice a n m := by
          obtain ⟨a, m, h, -⟩ := hm8.out.form
          exact ⟨a, _, m, h⟩
        have HB := Lib.hid (bl_next HB.out hb8.out)
        have HSRC8 := Lib.hid (HSRC.out _ hb8.out)
        have HCS8 : Hid (∀ x ∈ ds, CallsAt w8 x.2 x.1.ops) := Lib.hid fun x hx => (HCS.out x hx).later hb8.out
        have HM := hm8
        clear hb8 hm8 HSRC HCS
        go_upto_region 15 with fail
        go_wp2_with (at_builtin; refine walk_append (zero := dealZero) (size := 6) (base := w8.heap.size) (n := 0) (m := l.length) (xs := []) (ys := ds.flatMap fun c => c.1.cells c.2) rfl (.tmp 66) (.tmp 67) rfl Try.underlying37 info_deal3 rfl (by decide) (Nat.le_of_ble_eq_true rfl) rfl (made_deals (blk_at (by simp)) (by simp)) rfl (HSRC8.out.later (bl_alloc (Below.refl _ _) _)) HONE.out (by have := HLN.out; omega) (by simp) ?_)
        intro v9 w9 h9
        have hb9 := NewDeals.below (w1 := w8) (made_deals (by exact blk_at (by simp)) (by simp)) h9 (bl_alloc (Below.refl _ _) _) (by simp)
        obtain ⟨g9, c9, rfl, hg9, hl9⟩ := own_block h9.own (by omega)
        have hn9 : NewDeals w8.heap.size w9 (.slice (some ⟨g9, 0, none⟩) l.length c9) ds := by
          unfold NewDeals
          rw [HDL.out]
          exact h9.own
        have hcut := at_cut hjl
        have hgd : (ds.getD j (dl0, undef)).1 = l.getD j dl0 := by
          have hl := HDL.out
          rw [← HDS.out]
          simp [List.getD_eq_getElem?_getD, show j < ds.length by omega]
        have hcl : CallsAt w8 (ds.getD j (dl0, undef)).2 (l.getD j dl0).ops := by
          rw [← hgd]
          refine HCS8.out _ ?_
          have hl := HDL.out
          rw [List.getD_eq_getElem?_getD, List.getElem?_eq_getElem (by omega)]
          exact List.getElem_mem _
        have z2 := (hn9.cell HDL.out.symm (i := j) (q := 2) (by rw [HDL.out]; exact hjl) (by decide))
        have hset := hn9.set (i := j) (q := 2) (u := .int .i64 4) (y := ((l.getD j dl0).gone, (ds.getD j (dl0, undef)).2)) HDL.out.symm (by rw [HDL.out]; exact hjl) (by decide) (by rw [hgd]; rfl)
        have hid0 := (hset.cell (by rw [List.length_set]; exact HDL.out.symm) (i := j) (q := 0) (by rw [List.length_set, HDL.out]; exact hjl) (by decide)).1
        have hgs : ((ds.set j ((l.getD j dl0).gone, (ds.getD j (dl0, undef)).2)).getD j (dl0, undef)) = ((l.getD j dl0).gone, (ds.getD j (dl0, undef)).2) := by
          have hl := HDL.out
          simp [List.getD_eq_getElem?_getD, show j < ds.length by omega]
        rw [hgs] at hid0
        rw [hgd] at z2
        have hbs : Below w8.heap.size w8 (w9.setCell ⟨g9, j * 6 + 2, none⟩ (.int .i64 4)) := hb9.trans ((Mod.one (F := fun g => w8.heap.size ≤ g) (p := ⟨g9, j * 6 + 2, none⟩) w9 hg9 (.int .i64 4)).below (fun _ h => h) hb9.size)
        have hmap : (ds.set j ((l.getD j dl0).gone, (ds.getD j (dl0, undef)).2)).map (·.1) = l.take j ++ (l.getD j dl0).gone :: l.drop (j + 1) := by
          have hl := HDL.out
          rw [List.map_set, HDS.out, List.set_eq_take_append_cons_drop, if_pos hjl]
        have hxat := hset.at_ (fun x hx => by
          rcases List.mem_or_eq_of_mem_set hx with hx | rfl
          · exact (HCS8.out x hx).later hbs
          · exact hcl.later hbs)
        rw [hmap] at hxat
        have HM := Lib.hid (HM.out.later hbs)
        have HB := Lib.hid (bl_next HB.out hbs)
        have HX := Lib.hid hxat
        have hga := HG.out
        rw [hcut] at hga
        have HGX := Lib.hid hga.gone
        have HGM := Lib.hid (hga.sub ((List.Sublist.refl (l.take j)).append (List.sublist_cons_self _ _)))
        have hids : ∀ x ∈ l.take j ++ l.drop (j + 1), x.id ≠ (l.getD j dl0).id := fun x hx => by
          have hln := HS.out.len
          have hj := HS.out.ids j (by omega)
          rw [hj]
          rcases List.mem_append.1 hx with hx | hx
          · obtain ⟨i, hi, rfl⟩ := List.getElem_of_mem hx
            simp only [List.length_take] at hi
            have := HS.out.ids i (by omega)
            rw [List.getD_eq_getElem?_getD, List.getElem?_eq_getElem (by omega)] at this
            simp only [Option.getD_some] at this
            rw [List.getElem_take, this]
            omega
          · obtain ⟨i, hi, rfl⟩ := List.getElem_of_mem hx
            simp only [List.length_drop] at hi
            have := HS.out.ids (j + 1 + i) (by omega)
            rw [List.getD_eq_getElem?_getD, List.getElem?_eq_getElem (by omega)] at this
            simp only [Option.getD_some] at this
            rw [List.getElem_drop, this]
            omega
        have HSN := Lib.hid (gone_snap hids)
        have HST := Lib.hid (gone_state (l := l.take j) (m := l.drop (j + 1)) (d := l.getD j dl0) 1073741824)
        have HLM := Lib.hid (HGM.out.atLen 1073741824 (-1))
        have z2a := z2.1
        have z2b := z2.2
        have hml : (l.take j ++ l.drop (j + 1)).length = j + (l.length - (j + 1)) := by simp; omega
        clear hb9 h9 hn9 hset hxat hbs hga hids z2 hcl hgs hmap hgd hcut HCS8 HSRC8 HDS HDL HCP HONE
        generalize l.take j ++ l.drop (j + 1) = M at *
        generalize l.take j ++ (l.getD j dl0).gone :: l.drop (j + 1) = X at *
        generalize l.getD j dl0 = d at *
        simp only [Dl.cells, List.getElem?_cons_zero, List.getElem?_cons_succ] at z2a
        simp only [Dl.cells, Dl.gone, List.getElem?_cons_zero, List.getElem?_cons_succ, Nat.add_zero] at hid0
        go_upto_region 16 with fail
        go_upto_region 17 with fail
        have HI : Hid (g9 < (w9.setCell ⟨g9, j * 6 + 2, none⟩ (.int .i64 4)).heap.size) := Lib.hid (cell_lt hid0)
        generalize w9.setCell ⟨g9, j * 6 + 2, none⟩ (.int .i64 4) = w9 at *
        have hs := state_any (when := 1073741824) HX.out HGX.out
        rw [HST.out] at hs
        have HSA := Lib.hid hs
        have HI0 := Lib.hid hid0
        clear hs z2a z2b HST hid0
        go_wp2_with fail
        refine HSA.out.mono ?_
        rintro e' w10 ⟨pv, rfl, hp, hb9⟩
        obtain ⟨pa, pc, rfl, -⟩ := hp.form
        have HB := Lib.hid (bl_next HB.out hb9)
        have HX := Lib.hid (HX.out.later hb9)
        have HM := Lib.hid (HM.out.later hb9)
        have HP := Lib.hid hp
        have HI0 := Lib.hid ((hb9.cell (p := ⟨g9, j * 6, none⟩) HI.out).trans HI0.out)
        have HI := Lib.hid (Nat.lt_of_lt_of_le HI.out hb9.size)
        have hs := state_any (when := 1073741824) HM.out HGM.out
        have HSB := Lib.hid hs
        clear hs hp hb9 HSA
        generalize atD M 1073741824 (-1) = p at *
        go_wp2_with fail
        refine HSB.out.mono ?_
        rintro e' w11 ⟨qv, rfl, hq, hb9⟩
        obtain ⟨qa, qc, rfl, -⟩ := hq.form
        have HB := Lib.hid (bl_next HB.out hb9)
        have HX := Lib.hid (HX.out.later hb9)
        have HI0 := Lib.hid ((hb9.cell (p := ⟨g9, j * 6, none⟩) HI.out).trans HI0.out)
        have HI := Lib.hid (Nat.lt_of_lt_of_le HI.out hb9.size)
        have hsp := same_pairs (HP.out.later hb9) hq (by have := HLM.out; omega) (by have := HLM.out; omega)
        rw [decide_eq_true rfl] at hsp
        have HSP := Lib.hid hsp
        clear hq hb9 hsp HSB HP
        go_wp2_with fail
        refine HSP.out.mono ?_
        rintro e' w12 ⟨rfl, q, rfl⟩
        have HDR := Lib.hid (below_drewN' (Below.refl w11.heap.size w11) q)
        have HB := Lib.hid (bl_next HB.out HDR.out)
        have HX := Lib.hid (HX.out.later HDR.out)
        have hi0 := (HDR.out.cell (p := ⟨g9, j * 6, none⟩) HI.out).trans HI0.out
        clear HSP HDR HI HI0
        generalize w11.drewN q = w12 at *
        have hs := snapshot_any (id := d.id) HX.out HGX.out
        rw [HSN.out] at hs
        have HC1 := Lib.hid hs
        clear hs HSN
        go_wp2_with fail
        refine HC1.out.mono ?_
        rintro e' w13 ⟨rfl, hb9⟩
        have HB := Lib.hid (bl_next HB.out hb9)
        clear hb9 HC1 hi0
        go_wp2_with fail
        refine (awake_any _).mono ?_
        rintro e' w99 ⟨rfl, hb99⟩
        have HB := Lib.hid (bl_next HB.out hb99)
        clear hb99
        go_wp2_with fail
        go_ret
        exact ⟨rfl, HB.out⟩
end Go.Proofs.Ytpohehialkgigaa
