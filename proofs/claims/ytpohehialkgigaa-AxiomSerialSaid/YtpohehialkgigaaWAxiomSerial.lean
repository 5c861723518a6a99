/- AxiomSerial holds: Deals that were done one behind the other keep all axioms; told in any order they do; with one answer turned the one that told it does not. No condition. -/
import Derived.Test.YtpohehialkgigaaLC
import Derived.Test.YtpohehialkgigaaLG
import Derived.Test.YtpohehialkgigaaF8
namespace Go.Proofs.Ytpohehialkgigaa
open Go.RowKit
theorem level_of (a : Int) : ∃ n : Nat, bits .and .i64 a 255 = (n : Int) ∧ n < 256 := ⟨(a % 256).toNat, by rw [i64_and255]; omega, by omega⟩
theorem wrap64_ne (x : Int) : wrap64 (x + 1) ≠ x := by
  intro h
  unfold wrap64 at h
  omega
set_option maxRecDepth 100000 in
set_option maxHeartbeats 12800000 in
theorem axiomSerial_walk {a0 a1 : Option Addr} {len0 cap0 len1 cap1 : Nat} {a2 a3 : Int} {L : List (List OpR)} {gs : List Int} {w : World} (_n0 : L.length = len0) (r0 : OpsAt w (.slice a0 len0 cap0) L) (w0 : ∀ l ∈ L, ∀ o ∈ l, (Lit.int .i64 o.kind).wf = true ∧ (Lit.int .i64 o.val).wf = true)
    (_n1 : gs.length = len1) (r1 : RowAt .i64 w (.slice a1 len1 cap1) gs) (_w1 : ∀ x ∈ gs, (Lit.int .i64 x).wf = true) (_w2 : (Lit.int .i64 a2).wf = true) (_w3 : (Lit.int .i64 a3).wf = true) :
    Calls Try.prog 10 #[.slice a0 len0 cap0, .slice a1 len1 cap1, .int .i64 a2, .int .i64 a3] w fun e w' => e = .returned (.bool true) ∧ Below w.heap.size w w' := by
  have HSE := Lib.hid (serially_any r0 r1 w0)
  clear r0 r1 w0
  obtain ⟨T, hT, hT2⟩ := level_of a2
  go_enter Try.func10, Try.ntmps10
  go_wp2_with fail
  refine HSE.out.mono ?_
  rintro e w1 ⟨v, l, k, c, s, rfl, hd, hs, hk, hb⟩
  have HD := Lib.hid hd
  have HS := Lib.hid hs
  have HK := Lib.hid hk
  have HB := Lib.hid hb
  have HG := Lib.hid (hs.good hk)
  obtain ⟨va, vc, rfl, -⟩ := hd.form
  clear hd hs hk hb HSE
  go_wp2_with fail
  go_loopg [11, 12] l.length (fun kx mv iv wx => ∃ (i : Nat) (ds : List (Dl × Value)), iv = .int .i64 i ∧ i ≤ l.length ∧ l.length - i ≤ kx ∧ Hid (NewDeals w1.heap.size wx mv ds) ∧ Hid (ds.map (·.1) = rot l T i) ∧ Hid (∀ x ∈ ds, CallsAt w1 x.2 x.1.ops) ∧ Hid (Below w1.heap.size w1 wx))
  case atStart => exact ⟨0, [], rfl, Nat.zero_le _, by omega, Lib.hid (NewDeals.nil _ _), Lib.hid rfl, Lib.hid (by simp), Lib.hid (Below.refl _ _)⟩
  case round =>
    obtain ⟨i, ds, rfl, hi, hik, HN, HM, HC, HX⟩ := hrel
    have i0 : (0 : Int) ≤ (i : Int) := by omega
    have hln : l.length ≤ 19 := HG.out.few
    by_cases hlt : i < l.length
    · have i1 : (i : Int) < (l.length : Int) := by omega
      have hiw : IntKind.i64.wrap ((i : Int) + 1) = (i : Int) + 1 := IntWalk.i64_in _ (by omega)
      have hiT : IntKind.i64.wrap ((i : Int) + (T : Int)) = (i : Int) + (T : Int) := IntWalk.i64_in _ (by omega)
      have HRN := Lib.hid (rot_next l T i)
      have hr : ((i : Int) + (T : Int)) % (l.length : Int) = (((i + T) % l.length : Nat) : Int) := by simp
      have ht : Int.tmod ((i : Int) + (T : Int)) (l.length : Int) = (((i + T) % l.length : Nat) : Int) := rfl
      have hrl : (i + T) % l.length < l.length := Nat.mod_lt _ (by omega)
      have q2 : ¬ (l.length : Int) = 0 := by omega
      generalize (i + T) % l.length = r at *
      have r0 : (0 : Int) ≤ (r : Int) := by omega
      have r1 : (r : Int) < (l.length : Int) := by omega
      have hr3 : IntKind.i64.wrap (r : Int) = (r : Int) := IntWalk.i64_in _ (by omega)
      obtain ⟨b, off, cap, ov, hv, hb, hcs, hcl⟩ := HD.out.at_ hrl
      simp only [Value.slice.injEq, true_and] at hv
      obtain ⟨rfl, rfl⟩ := hv
      obtain ⟨oa, oc, rfl, -⟩ := hcl.form
      have HDL : Hid (ds.length = i) := Lib.hid (by
        have h1 := congrArg List.length HM.out
        simpa [rot] using h1)
      have x0 := (HX.out.cell (p := ⟨b, off + r * 6 + 0, none⟩) hb).trans (hcs 0 (by decide))
      have x1 := (HX.out.cell (p := ⟨b, off + r * 6 + 1, none⟩) hb).trans (hcs 1 (by decide))
      have x2 := (HX.out.cell (p := ⟨b, off + r * 6 + 2, none⟩) hb).trans (hcs 2 (by decide))
      have x3 := (HX.out.cell (p := ⟨b, off + r * 6 + 3, none⟩) hb).trans (hcs 3 (by decide))
      have x4 := (HX.out.cell (p := ⟨b, off + r * 6 + 4, none⟩) hb).trans (hcs 4 (by decide))
      have x5 := (HX.out.cell (p := ⟨b, off + r * 6 + 5, none⟩) hb).trans (hcs 5 (by decide))
      have HCL := Lib.hid hcl
      clear hcs hcl
      generalize l.getD r dl0 = d at *
      simp only [Dl.cells, List.getElem?_cons_zero, List.getElem?_cons_succ, Nat.add_zero] at x0 x1 x2 x3 x4 x5
      go_wp2_with (first
        | (with_reducible show wpList Try.prog _ _ (Oper.mk _ (Op.buildSlice 37 1 _) _ _ _ _ :: _) _ _; refine build_deal1 rfl (.tmp 45) rfl d rfl ?_; simp only [Act.put, List.setIfInBounds_toArray, List.set_cons_zero, List.set_cons_succ])
        | (at_builtin; refine walk_append_wide (zero := dealZero) (size := 6) (base := w1.heap.size) (n := ds.length) (m := 1) (xs := ds.flatMap fun c => c.1.cells c.2) (ys := d.cells (.slice oa d.ops.length oc)) rfl (.tmp 36) (.tmp 46) rfl Try.underlying37 info_deal3 rfl (by decide) (Nat.le_of_ble_eq_true rfl) rfl (World.ownsRow.alloc HN.out _) rfl (src_deal _ _) (deal_one _ _ _ _) (by have := HDL.out; omega) (by have := HX.out.size; simp; omega) ?_))
      intro v5 w5 h5
      have hb5 := NewDeals.below (w1 := w1) (World.ownsRow.alloc HN.out _) h5 (bl_alloc HX.out _) (by have := HX.out.size; simp; omega)
      have hn5 := NewDeals.app (l := ds) (d := d) (ov := .slice oa d.ops.length oc) h5 rfl rfl
      obtain ⟨va5, vc5, rfl⟩ := h5.val
      have HN5 := Lib.hid hn5
      have HX5 := Lib.hid hb5
      clear h5 hb5 hn5 x0 x1 x2 x3 x4 x5
      go_wp2_with fail
      go_roundg (l.length - (i + 1))
      case rel => exact ⟨i + 1, ds ++ [(d, .slice oa d.ops.length oc)], by go_num, by omega, by omega, HN5, Lib.hid (by rw [List.map_append, HM.out, HRN.out]; rfl), Lib.hid (fun x hx => by
        rcases List.mem_append.1 hx with hx | hx
        · exact HC.out x hx
        · simp only [List.mem_singleton] at hx
          subst hx
          exact HCL.out), HX5⟩
      case measure => omega
    · obtain ⟨gko, rfl⟩ : ∃ x, x = gk := ⟨_, rfl⟩
      obtain ⟨wro, rfl⟩ : ∃ x, x = wr := ⟨_, rfl⟩
      have i1 : ¬ (i : Int) < (l.length : Int) := by omega
      have hil : i = l.length := by omega
      have hE := HN.out.at_ (fun x hx => (HC.out x hx).later HX.out)
      rw [HM.out, hil] at hE
      have htd := told_any HS.out (rot_perm l T)
      have HGM := Lib.hid (HG.out.perm (rot_perm l T))
      obtain ⟨f1, f2, f3, f4⟩ := htd
      have HF4 := Lib.hid (f4 1073741824)
      have HM := Lib.hid hE
      have HD := Lib.hid (HD.out.later HX.out)
      have HB := Lib.hid (HB.out.trans (HX.out.mono HB.out.size))
      obtain ⟨ea, en, ec, rfl⟩ : ∃ a n m, u11 = .slice a n m := by
        obtain ⟨a, m, h, -⟩ := hE.form
        exact ⟨a, _, m, h⟩
      clear hE HN HC HX hil f4
      generalize rot l T l.length = M at *
      have HF2 := Lib.hid f2
      have HF3 := Lib.hid f3
      have hs := holds_all HM.out HGM.out
      rw [f1] at hs
      have HH := Lib.hid hs
      clear hs f1 f2 f3
      go_wp2_with fail
      refine HH.out.mono ?_
      rintro e' w2 ⟨rfl, hb9⟩
      have HB := Lib.hid (bl_next HB.out hb9)
      have HD := Lib.hid (HD.out.later hb9)
      have HM := Lib.hid (HM.out.later hb9)
      have hs := replay_all HM.out HGM.out
      rw [HF2.out] at hs
      have HR := Lib.hid hs
      clear hs hb9 HH HF2
      go_wp2_with fail
      refine HR.out.mono ?_
      rintro e' w3 ⟨rfl, hb9⟩
      have HB := Lib.hid (bl_next HB.out hb9)
      have HD := Lib.hid (HD.out.later hb9)
      have HM := Lib.hid (HM.out.later hb9)
      have hs := writers_any HM.out (by have := HGM.out.few; omega) HGM.out.wf
      rw [HF3.out] at hs
      have HW := Lib.hid hs
      clear hs hb9 HR HF3
      go_wp2_with fail
      refine HW.out.mono ?_
      rintro e' w4 ⟨rfl, hb9⟩
      have HB := Lib.hid (bl_next HB.out hb9)
      have HD := Lib.hid (HD.out.later hb9)
      have HM := Lib.hid (HM.out.later hb9)
      have hs := state_any (when := 1073741824) HM.out HGM.out
      rw [HF4.out] at hs
      have HSA := Lib.hid hs
      have HLP := Lib.hid (HG.out.atLen 1073741824 (-1))
      clear hs hb9 HW HF4
      go_wp2_with fail
      refine HSA.out.mono ?_
      rintro e' w5 ⟨pv, rfl, hp, hb9⟩
      obtain ⟨pa, pc, rfl, -⟩ := hp.form
      have HB := Lib.hid (bl_next HB.out hb9)
      have HD := Lib.hid (HD.out.later hb9)
      have HP := Lib.hid hp
      have hs := state_any (when := 1073741824) HD.out HG.out
      have HSB := Lib.hid hs
      clear hs hp hb9 HSA HM HGM
      generalize atD l 1073741824 (-1) = p at *
      go_wp2_with fail
      refine HSB.out.mono ?_
      rintro e' w6 ⟨qv, rfl, hq, hb9⟩
      obtain ⟨qa, qc, rfl, -⟩ := hq.form
      have HB := Lib.hid (bl_next HB.out hb9)
      have HD := Lib.hid (HD.out.later hb9)
      have hsp := same_pairs (HP.out.later hb9) hq (by have := HLP.out; omega) (by have := HLP.out; omega)
      rw [decide_eq_true rfl] at hsp
      have HSP := Lib.hid hsp
      clear hq hb9 hsp HSB HP HLP
      go_wp2_with fail
      refine HSP.out.mono ?_
      rintro e' w7 ⟨rfl, q, rfl⟩
      have HDR := Lib.hid (below_drewN' (Below.refl w6.heap.size w6) q)
      have HB := Lib.hid (bl_next HB.out HDR.out)
      have HD := Lib.hid (HD.out.later HDR.out)
      clear HSP HDR hlt i1 hi hik i0
      generalize w6.drewN q = w7 at *
      go_wp2_with fail
      go_loopg [17] l.length (fun kx iv wx => ∃ i : Nat, iv = .int .i64 i ∧ i ≤ l.length ∧ l.length - i ≤ kx ∧ Hid (Below w7.heap.size w7 wx))
      case atStart => exact ⟨0, rfl, Nat.zero_le _, by omega, Lib.hid (Below.refl _ _)⟩
      case round =>
        obtain ⟨i, rfl, hi, hik, HX⟩ := hrel
        have i0 : (0 : Int) ≤ (i : Int) := by omega
        by_cases hlt : i < l.length
        · have i1 : (i : Int) < (l.length : Int) := by omega
          have hiw : IntKind.i64.wrap ((i : Int) + 1) = (i : Int) + 1 := IntWalk.i64_in _ (by omega)
          obtain ⟨b, off, cap, ov, hv, hb, hcs, hcl⟩ := HD.out.at_ hlt
          simp only [Value.slice.injEq, true_and] at hv
          obtain ⟨rfl, rfl⟩ := hv
          obtain ⟨oa, oc, rfl, -⟩ := hcl.form
          have y0 := hcs 0 (by decide)
          have y5 := hcs 5 (by decide)
          have hfew := (HS.out.few _ (getD_mem hlt)).1
          simp only [Dl.cells, List.getElem?_cons_zero, List.getElem?_cons_succ, Nat.add_zero] at y0 y5
          have HY0 := Lib.hid y0
          have HY5 := Lib.hid y5
          have HCL := Lib.hid hcl
          have HBB := Lib.hid hb
          have HIL := Lib.hid hlt
          have hid := HS.out.ids i (by rw [← HS.out.len]; exact hlt)
          clear hcs hcl y0 y5 hb
          obtain ⟨gk2, rfl⟩ : ∃ x, x = gk := ⟨_, rfl⟩
          obtain ⟨wr2, rfl⟩ : ∃ x, x = wr := ⟨_, rfl⟩
          obtain ⟨idn, hidn⟩ : ∃ x, x = (l.getD i dl0).id := ⟨_, rfl⟩
          obtain ⟨ops, hops⟩ : ∃ x, x = (l.getD i dl0).ops := ⟨_, rfl⟩
          rw [← hidn] at HY0
          rw [← hops] at HY5 HCL hfew
          have HIDN := Lib.hid hidn
          have HOPS := Lib.hid hops
          clear hidn hops hid
          go_wp2_with fail
          go_loopg [18] ops.length (fun kx qv wx => ∃ q : Nat, qv = .int .i64 q ∧ q ≤ ops.length ∧ ops.length - q ≤ kx ∧ Hid (Below w7.heap.size w7 wx))
          case atStart => exact ⟨0, rfl, Nat.zero_le _, by omega, HX⟩
          case round =>
            obtain ⟨q, rfl, hq, hqk, HX2⟩ := hrel
            have q0 : (0 : Int) ≤ (q : Int) := by omega
            have y5 := (HX2.out.cell (p := ⟨b, off + i * 6 + 5, none⟩) HBB.out).trans HY5.out
            have y0 := (HX2.out.cell (p := ⟨b, off + i * 6, none⟩) HBB.out).trans HY0.out
            by_cases hqt : q < ops.length
            · have q1 : (q : Int) < (ops.length : Int) := by omega
              have hqw : IntKind.i64.wrap ((q : Int) + 1) = (q : Int) + 1 := IntWalk.i64_in _ (by omega)
              obtain ⟨cb, coff, ccap, pv, hcv, hcb, hccs, hps⟩ := HCL.out.at_ hqt
              simp only [Value.slice.injEq, true_and] at hcv
              obtain ⟨rfl, rfl⟩ := hcv
              have hpf := hps.form
              obtain ⟨cc, hcc⟩ : ∃ x, x = ops.getD q cl0 := ⟨_, rfl⟩
              rw [← hcc] at hccs hpf
              obtain ⟨kd, ky, hi2, vl, er, rv, ps, ovr, rs⟩ := cc
              dsimp only at hpf
              obtain ⟨ap, cp, rfl, -⟩ := hpf
              have z0 := (HX2.out.cell (p := ⟨cb, coff + q * 9 + 0, none⟩) hcb).trans (hccs 0 (by decide))
              have z1 := (HX2.out.cell (p := ⟨cb, coff + q * 9 + 1, none⟩) hcb).trans (hccs 1 (by decide))
              have z2 := (HX2.out.cell (p := ⟨cb, coff + q * 9 + 2, none⟩) hcb).trans (hccs 2 (by decide))
              have z3 := (HX2.out.cell (p := ⟨cb, coff + q * 9 + 3, none⟩) hcb).trans (hccs 3 (by decide))
              have z4 := (HX2.out.cell (p := ⟨cb, coff + q * 9 + 4, none⟩) hcb).trans (hccs 4 (by decide))
              have z5 := (HX2.out.cell (p := ⟨cb, coff + q * 9 + 5, none⟩) hcb).trans (hccs 5 (by decide))
              have z6 := (HX2.out.cell (p := ⟨cb, coff + q * 9 + 6, none⟩) hcb).trans (hccs 6 (by decide))
              have z7 := (HX2.out.cell (p := ⟨cb, coff + q * 9 + 7, none⟩) hcb).trans (hccs 7 (by decide))
              have z8 := (HX2.out.cell (p := ⟨cb, coff + q * 9 + 8, none⟩) hcb).trans (hccs 8 (by decide))
              simp only [Cl.cells, List.getElem?_cons_zero, List.getElem?_cons_succ, Nat.add_zero] at z0 z1 z2 z3 z4 z5 z6 z7 z8
              have HCC := Lib.hid hcc
              have HQT := Lib.hid hqt
              clear hccs hps hcc
              have hbx : Below wr.heap.size wr (wr.alloc (.cells #[.int .i64 kd, .int .i64 ky, .int .i64 hi2, .int .i64 vl, .int .i64 er, .int .i64 rv, .slice ap ps.length cp, .int .i64 ovr, .int .i64 rs] 35 (0, 0))) := bl_alloc (Below.refl _ _) _
              by_cases k1 : kd = 1
              · subst k1
                by_cases e0 : er = 0
                · subst e0
                  have iq : IntKind.i64.wrap ((i : Int) + (q : Int)) = (i : Int) + (q : Int) := IntWalk.i64_in _ (by have := HG.out.few; omega)
                  rcases Bool.eq_false_or_eq_true (bits .and .i64 (wrap64 ((i : Int) + (q : Int) + a3)) 3 != 0) with hy | hy
                  rotate_left
                  · have hkA := blk_new wr (.cells #[.int .i64 1, .int .i64 ky, .int .i64 hi2, .int .i64 vl, .int .i64 0, .int .i64 rv, .slice ap ps.length cp, .int .i64 ovr, .int .i64 rs] 35 (0, 0))
                    have HXA := Lib.hid (bl_alloc HX2.out (.cells #[.int .i64 1, .int .i64 ky, .int .i64 hi2, .int .i64 vl, .int .i64 0, .int .i64 rv, .slice ap ps.length cp, .int .i64 ovr, .int .i64 rs] 35 (0, 0)))
                    go_upto_region 20 with fail
                    generalize wr.alloc (.cells #[.int .i64 1, .int .i64 ky, .int .i64 hi2, .int .i64 vl, .int .i64 0, .int .i64 rv, .slice ap ps.length cp, .int .i64 ovr, .int .i64 rs] 35 (0, 0)) = wA at *
                    generalize wr.heap.size = gA at *
                    have y5 := (HXA.out.cell (p := ⟨b, off + i * 6 + 5, none⟩) HBB.out).trans HY5.out
                    have y5a : ∀ o, (wA.alloc o).cell? ⟨b, off + i * 6 + 5, none⟩ = _ := fun o => (World.cell?_alloc_lt wA o _ (cell_lt y5)).trans y5
                    have HDA := Lib.hid (HD.out.later HXA.out)
                    obtain ⟨cs, hcs, hpr, hsrc⟩ := (HCL.out.later HXA.out).src
                    obtain ⟨ds, hds, hcalls, hdsrc⟩ := HDA.out.src
                    have hdl : ds.length = l.length := by rw [← hds]; simp
                    have hcl : cs.length = ops.length := by rw [← hcs]; simp
                    have HCS := Lib.hid hcs
                    have HPR := Lib.hid hpr
                    have HSRC := Lib.hid hsrc
                    have HDS := Lib.hid hds
                    have HCALLS := Lib.hid hcalls
                    have HDSRC := Lib.hid hdsrc
                    have HONE := Lib.hid (calls_one hpr)
                    have HDONE := Lib.hid (deals_one hcalls)
                    have HDL := Lib.hid hdl
                    have HCLN := Lib.hid hcl
                    have HLN := Lib.hid HG.out.few
                    have HFW := Lib.hid hfew
                    clear hcs hpr hsrc hds hcalls hdsrc hdl hcl z0 z1 z2 z3 z4 z5 z6 z7 z8 hbx hy iq
                    go_wp2_with (at_builtin; refine walk_append_wide (zero := callZero) (size := 9) (base := wA.heap.size) (n := 0) (m := ops.length) (xs := []) (ys := cs.flatMap fun c => c.1.cells c.2) rfl (.tmp 119) (.tmp 124) rfl Try.underlying23 info_call3 rfl (by decide) (Nat.le_of_ble_eq_true rfl) rfl (made_calls (blk_at (by simp)) (by simp)) rfl (HSRC.out.later (bl_alloc (Below.refl _ _) _)) HONE.out (by have := HFW.out; omega) (by simp) ?_)
                    intro v8 w8 h8
                    have hb8 := NewCalls.below (w1 := wA) (made_calls (by exact blk_at (by simp)) (by simp)) h8 (bl_alloc (Below.refl _ _) _) (by simp)
                    obtain ⟨g8, c8, rfl, hg8, hl8⟩ := own_block h8.own (by have := HQT.out; omega)
                    have hn8 : NewCalls wA.heap.size w8 (.slice (some ⟨g8, 0, none⟩) ops.length c8) cs := by
                      have h := h8.own
                      unfold NewCalls
                      rw [HCLN.out]
                      simpa using h
                    have hgc : (cs.getD q (cl0, undef)).1 = ops.getD q cl0 := by
                      have hl := HCLN.out
                      have hq := HQT.out
                      rw [← HCS.out]
                      simp [List.getD_eq_getElem?_getD, show q < cs.length by omega]
                    have hgp : PairsAt wA (cs.getD q (cl0, undef)).2 (ops.getD q cl0).pairs := by
                      rw [← hgc]
                      refine HPR.out _ ?_
                      have hl := HCLN.out
                      have hq := HQT.out
                      rw [List.getD_eq_getElem?_getD, List.getElem?_eq_getElem (by omega)]
                      exact List.getElem_mem _
                    have u5 := (hn8.cell HCLN.out.symm (i := q) (q := 5) (by rw [HCLN.out]; exact HQT.out) (by decide))
                    rw [hgc, ← HCC.out] at u5
                    have u5a := u5.1
                    have u5b := u5.2
                    simp only [Cl.cells, List.getElem?_cons_zero, List.getElem?_cons_succ] at u5a
                    have rvc := (hb8.cell (p := ⟨gA, 5, none⟩) (blk_lt hkA)).trans (blk_cell hkA 5)
                    simp only [List.getElem?_toArray, List.getElem?_cons_zero, List.getElem?_cons_succ] at rvc
                    obtain ⟨vv, hvv⟩ : ∃ x, wrap64 (rv + 1) = x := ⟨_, rfl⟩
                    have hne : vv ≠ rv := fun e => wrap64_ne rv (hvv.trans e)
                    have hset := hn8.set (i := q) (q := 5) (u := .int .i64 vv) (y := ((ops.getD q cl0).turn vv, (cs.getD q (cl0, undef)).2)) HCLN.out.symm (by rw [HCLN.out]; exact HQT.out) (by decide) (by rw [hgc]; rfl)
                    have hb9 : Below wA.heap.size wA (w8.setCell ⟨g8, q * 9 + 5, none⟩ (.int .i64 vv)) := hb8.trans ((Mod.one (F := fun g => wA.heap.size ≤ g) (p := ⟨g8, q * 9 + 5, none⟩) w8 hg8 (.int .i64 vv)).below (fun _ h => h) hb8.size)
                    have hops := hset.at_ (fun x hx => by
                      rcases List.mem_or_eq_of_mem_set hx with hx | rfl
                      · exact (HPR.out x hx).later hb9
                      · exact hgp.later hb9)
                    rw [List.map_set, HCS.out] at hops
                    have HOPN := Lib.hid hops
                    have HB9 := Lib.hid hb9
                    have HVV := Lib.hid hvv
                    have HNE := Lib.hid hne
                    have HGC := Lib.hid hgc
                    clear h8 hb8 hg8 hl8 hn8 hgc hgp u5 hset hb9 hops hne HPR HSRC HONE
                    go_upto_region 21 with fail
                    go_upto_region 22 with fail
                    generalize w8.setCell ⟨g8, q * 9 + 5, none⟩ (.int .i64 vv) = w9 at *
                    have HDS9 := Lib.hid (HDSRC.out.later HB9.out)
                    clear u5a u5b rvc hvv y5a y5
                    go_wp2_with (at_builtin; refine walk_append (zero := dealZero) (size := 6) (base := w9.heap.size) (n := 0) (m := l.length) (xs := []) (ys := ds.flatMap fun c => c.1.cells c.2) rfl (.tmp 135) (.tmp 136) rfl Try.underlying37 info_deal3 rfl (by decide) (Nat.le_of_ble_eq_true rfl) rfl (made_deals (blk_at (by simp)) (by simp)) rfl (HDS9.out.later (bl_alloc (Below.refl _ _) _)) HDONE.out (by have := HLN.out; omega) (by simp) ?_)
                    intro v10 w10 h10
                    have hb10 := NewDeals.below (w1 := w9) (made_deals (by exact blk_at (by simp)) (by simp)) h10 (bl_alloc (Below.refl _ _) _) (by simp)
                    obtain ⟨g10, c10, rfl, hg10, hl10⟩ := own_block h10.own (by have := HIL.out; omega)
                    have hn10 : NewDeals w9.heap.size w10 (.slice (some ⟨g10, 0, none⟩) l.length c10) ds := by
                      have h := h10.own
                      unfold NewDeals
                      rw [HDL.out]
                      simpa using h
                    have hgd : (ds.getD i (dl0, undef)).1 = l.getD i dl0 := by
                      have hl := HDL.out
                      have hi := HIL.out
                      rw [← HDS.out]
                      simp [List.getD_eq_getElem?_getD, show i < ds.length by omega]
                    have t5 := (hn10.cell HDL.out.symm (i := i) (q := 5) (by rw [HDL.out]; exact HIL.out) (by decide))
                    rw [hgd] at t5
                    have t5a := t5.1
                    have t5b := t5.2
                    simp only [Dl.cells, List.getElem?_cons_zero, List.getElem?_cons_succ] at t5a
                    have hset := hn10.set (i := i) (q := 5) (u := .slice (some ⟨g8, 0, none⟩) ops.length c8) (y := ((l.getD i dl0).turn q vv, .slice (some ⟨g8, 0, none⟩) ops.length c8)) HDL.out.symm (by rw [HDL.out]; exact HIL.out) (by decide) (by rw [hgd]; rfl)
                    have hb11 : Below w9.heap.size w9 (w10.setCell ⟨g10, i * 6 + 5, none⟩ (.slice (some ⟨g8, 0, none⟩) ops.length c8)) := hb10.trans ((Mod.one (F := fun g => w9.heap.size ≤ g) (p := ⟨g10, i * 6 + 5, none⟩) w10 hg10 (.slice (some ⟨g8, 0, none⟩) ops.length c8)).below (fun _ h => h) hb10.size)
                    have hb12 := bl_next HB9.out hb11
                    have hat := hset.at_ (fun x hx => by
                      rcases List.mem_or_eq_of_mem_set hx with hx | rfl
                      · exact (HCALLS.out x hx).later hb12
                      · have h := HOPN.out.later hb11
                        show CallsAt _ _ ((l.getD i dl0).ops.set q (((l.getD i dl0).ops.getD q cl0).turn vv))
                        rw [← HOPS.out]
                        exact h)
                    rw [List.map_set, HDS.out, List.set_eq_take_append_cons_drop, if_pos HIL.out] at hat
                    have hki : ((l.getD i dl0).ops.getD q cl0).kind = 1 := by rw [← HOPS.out, ← HCC.out]
                    have hei : ((l.getD i dl0).ops.getD q cl0).e = 0 := by rw [← HOPS.out, ← HCC.out]
                    have hvi : vv ≠ ((l.getD i dl0).ops.getD q cl0).rv := by rw [← HOPS.out, ← HCC.out]; exact HNE.out
                    have hqi : q < (l.getD i dl0).ops.length := by rw [← HOPS.out]; exact HQT.out
                    have htt := turned_told HS.out HIL.out hqi hki hei hvi
                    have HTG := Lib.hid (turned_good (v := vv) HS.out HIL.out hqi HK.out)
                    rw [← HIDN.out] at htt
                    have HT1 := Lib.hid htt.1
                    have HT2 := Lib.hid htt.2
                    have HTT := Lib.hid hat
                    have HX12 := Lib.hid (bl_next HXA.out hb12)
                    clear h10 hb10 hg10 hl10 hn10 hgd t5 hset hb11 hb12 hat hki hei hvi hqi htt HOPN HDS9 HDONE HCALLS HDSRC HNE
                    generalize l.take i ++ (l.getD i dl0).turn q vv :: l.drop (i + 1) = TL at *
                    go_upto_region 23 with fail
                    go_upto_region 24 with fail
                    generalize w10.setCell ⟨g10, i * 6 + 5, none⟩ (.slice (some ⟨g8, 0, none⟩) ops.length c8) = w11 at *
                    have hs := holds_all HTT.out HTG.out
                    rw [HT1.out] at hs
                    have HH := Lib.hid hs
                    clear hs t5a t5b
                    go_wp2_with fail
                    refine HH.out.mono ?_
                    rintro e' w12 ⟨rfl, hb9⟩
                    have HX13 := Lib.hid (bl_next HX12.out hb9)
                    have hs := replay_all (HTT.out.later hb9) HTG.out
                    rw [HT2.out] at hs
                    have HR := Lib.hid hs
                    clear hs hb9 HH HX12 HTT
                    go_wp2_with fail
                    refine HR.out.mono ?_
                    rintro e' w13 ⟨rfl, hb9⟩
                    have HX14 := Lib.hid (bl_next HX13.out hb9)
                    have y0 := (HX14.out.cell (p := ⟨b, off + i * 6, none⟩) HBB.out).trans HY0.out
                    clear hb9 HR HX13
                    go_wp2_with fail
                    go_roundg (ops.length - (q + 1))
                    case rel => exact ⟨q + 1, by go_num, HQT.out, by have := HQT.out; omega, HX14⟩
                    case measure => have := HQT.out; omega
                  · skip
                    go_wp2_with fail
                    go_roundg (ops.length - (q + 1))
                    case rel => exact ⟨q + 1, by go_num, hqt, by omega, Lib.hid (bl_alloc HX2.out _)⟩
                    case measure => omega
                · have he2 : (er != 0) = true := by simp [e0]
                  go_wp2_with fail
                  go_roundg (ops.length - (q + 1))
                  case rel => exact ⟨q + 1, by go_num, hqt, by omega, Lib.hid (bl_alloc HX2.out _)⟩
                  case measure => omega
              · have hk2 : (kd != 1) = true := by simp [k1]
                go_wp2_with fail
                go_roundg (ops.length - (q + 1))
                case rel => exact ⟨q + 1, by go_num, hqt, by omega, Lib.hid (bl_alloc HX2.out _)⟩
                case measure => omega
            · have q1 : ¬ (q : Int) < (ops.length : Int) := by omega
              go_wp2_with fail
              go_roundg (l.length - (i + 1))
              case rel => exact ⟨i + 1, by go_num, HIL.out, by have := HIL.out; omega, HX2⟩
              case measure => have := HIL.out; omega
        · have i1 : ¬ (i : Int) < (l.length : Int) := by omega
          have HB := Lib.hid (bl_next HB.out HX.out)
          clear hlt
          go_wp2_with fail
          refine (awake_any _).mono ?_
          rintro e' w99 ⟨rfl, hb99⟩
          have HB := Lib.hid (bl_next HB.out hb99)
          clear hb99
          go_wp2_with fail
          go_ret
          exact ⟨rfl, HB.out⟩
end Go.Proofs.Ytpohehialkgigaa
