/- answers: whether a call answers as a state does. -/
import Derived.Test.YtpohehialkgigaaAJ
namespace Go.Proofs.Ytpohehialkgigaa
open Go.RowKit
theorem below_drewN' {B : Nat} {a w : World} (h : Below B a w) (n : Nat) : Below B a (w.drewN n) := ⟨h.os, h.tape, h.output, h.size, h.block⟩
set_option maxRecDepth 100000 in
set_option maxHeartbeats 6400000 in
theorem answers_any {w : World} {b : Nat} {s : St} {v : Value} {c : Cl} (h : CallIs w v c) (hs : SMap w b s) (hl : s.length ≤ 100000) (hw : c.wf) (hp : c.pairs.length ≤ 1000000) :
    Calls Try.prog 33 #[.map (some b), v] w fun e w' => e = .returned (.bool (answersD s c)) ∧ Below w.heap.size w w' := by
  obtain ⟨pv, rfl, hps⟩ := h
  obtain ⟨-, wy, -⟩ := hw
  obtain ⟨kd, key, hi, val, er, rv, ps, ov, rs⟩ := c
  dsimp only at wy hps hp
  obtain ⟨pa, pc, rfl, -⟩ := hps.form
  have HM : Hid (∀ o : Obj, SMap (w.alloc o) b s) := Lib.hid fun o => hs.later (bl_alloc (Below.refl _ _) _)
  have HPS : Hid (∀ o : Obj, PairsAt (w.alloc o) (.slice pa ps.length pc) ps) := Lib.hid fun o => hps.later (bl_alloc (Below.refl _ _) _)
  have WY := Lib.hid wy
  have HL := Lib.hid hl
  have HP := Lib.hid hp
  clear hs wy hps hl hp
  simp only [Cl.cells]
  by_cases k1 : kd = 1
  · --{q1
    have ek1 := bq_t k1
    have nk1 := bn_f k1
    by_cases h0 : er = 0
    · have eh0 := bq_t h0
      have nh0 := bn_f h0
      rcases hg : s.get key with _ | vl
      · skip
        have ha : answersD s ⟨kd, key, hi, val, er, rv, ps, ov, rs⟩ = false := by simp [answersD, *]
        have HA := Lib.hid ha
        clear ha k1 h0
        have HG := Lib.hid hg
        clear hg
        go_enter Try.func33, Try.ntmps33
        go_wp2_with (at_lookup; refine smap_look_ok rfl _ _ rfl Try.underlying66 rfl (HM.out _) rfl WY.out ?_; rw [HG.out]; simp only [Act.put, List.setIfInBounds_toArray, List.set_cons_zero, List.set_cons_succ, Option.getD_none, Option.isSome_none])
        go_ret
        exact ⟨by rw [HA.out]; rfl, bl_alloc (Below.refl _ _) _⟩
      · skip
        by_cases hv : rv = vl
        · have ehv := bq_t hv
          have nhv := bn_f hv
          have ha : answersD s ⟨kd, key, hi, val, er, rv, ps, ov, rs⟩ = true := by simp [answersD, *]
          have HA := Lib.hid ha
          clear ha k1 h0 hv
          have HG := Lib.hid hg
          clear hg
          go_enter Try.func33, Try.ntmps33
          go_wp2_with (at_lookup; refine smap_look_ok rfl _ _ rfl Try.underlying66 rfl (HM.out _) rfl WY.out ?_; rw [HG.out]; simp only [Act.put, List.setIfInBounds_toArray, List.set_cons_zero, List.set_cons_succ, Option.getD_some, Option.isSome_some])
          go_ret
          exact ⟨by rw [HA.out]; rfl, bl_alloc (Below.refl _ _) _⟩
        · have ehv := bq_f hv
          have nhv := bn_t hv
          have ha : answersD s ⟨kd, key, hi, val, er, rv, ps, ov, rs⟩ = false := by simp [answersD, *]
          have HA := Lib.hid ha
          clear ha k1 h0 hv
          have HG := Lib.hid hg
          clear hg
          go_enter Try.func33, Try.ntmps33
          go_wp2_with (at_lookup; refine smap_look_ok rfl _ _ rfl Try.underlying66 rfl (HM.out _) rfl WY.out ?_; rw [HG.out]; simp only [Act.put, List.setIfInBounds_toArray, List.set_cons_zero, List.set_cons_succ, Option.getD_some, Option.isSome_some])
          go_ret
          exact ⟨by rw [HA.out]; rfl, bl_alloc (Below.refl _ _) _⟩
    · have eh0 := bq_f h0
      have nh0 := bn_t h0
      by_cases h11 : er = 11
      · have eh11 := bq_t h11
        have nh11 := bn_f h11
        rcases hg : s.get key with _ | vl
        · skip
          have ha : answersD s ⟨kd, key, hi, val, er, rv, ps, ov, rs⟩ = true := by simp [answersD, *]
          have HA := Lib.hid ha
          clear ha k1 h0 h11
          have HG := Lib.hid hg
          clear hg
          go_enter Try.func33, Try.ntmps33
          go_wp2_with (at_lookup; refine smap_look_ok rfl _ _ rfl Try.underlying66 rfl (HM.out _) rfl WY.out ?_; rw [HG.out]; simp only [Act.put, List.setIfInBounds_toArray, List.set_cons_zero, List.set_cons_succ, Option.getD_none, Option.isSome_none])
          go_ret
          exact ⟨by rw [HA.out]; rfl, bl_alloc (Below.refl _ _) _⟩
        · skip
          have ha : answersD s ⟨kd, key, hi, val, er, rv, ps, ov, rs⟩ = false := by simp [answersD, *]
          have HA := Lib.hid ha
          clear ha k1 h0 h11
          have HG := Lib.hid hg
          clear hg
          go_enter Try.func33, Try.ntmps33
          go_wp2_with (at_lookup; refine smap_look_ok rfl _ _ rfl Try.underlying66 rfl (HM.out _) rfl WY.out ?_; rw [HG.out]; simp only [Act.put, List.setIfInBounds_toArray, List.set_cons_zero, List.set_cons_succ, Option.getD_some, Option.isSome_some])
          go_ret
          exact ⟨by rw [HA.out]; rfl, bl_alloc (Below.refl _ _) _⟩
      · have eh11 := bq_f h11
        have nh11 := bn_t h11
        rcases hg : s.get key with _ | vl
        · skip
          have ha : answersD s ⟨kd, key, hi, val, er, rv, ps, ov, rs⟩ = true := by simp [answersD, *]
          have HA := Lib.hid ha
          clear ha k1 h0 h11
          have HG := Lib.hid hg
          clear hg
          go_enter Try.func33, Try.ntmps33
          go_wp2_with (at_lookup; refine smap_look_ok rfl _ _ rfl Try.underlying66 rfl (HM.out _) rfl WY.out ?_; rw [HG.out]; simp only [Act.put, List.setIfInBounds_toArray, List.set_cons_zero, List.set_cons_succ, Option.getD_none, Option.isSome_none])
          go_ret
          exact ⟨by rw [HA.out]; rfl, bl_alloc (Below.refl _ _) _⟩
        · skip
          have ha : answersD s ⟨kd, key, hi, val, er, rv, ps, ov, rs⟩ = true := by simp [answersD, *]
          have HA := Lib.hid ha
          clear ha k1 h0 h11
          have HG := Lib.hid hg
          clear hg
          go_enter Try.func33, Try.ntmps33
          go_wp2_with (at_lookup; refine smap_look_ok rfl _ _ rfl Try.underlying66 rfl (HM.out _) rfl WY.out ?_; rw [HG.out]; simp only [Act.put, List.setIfInBounds_toArray, List.set_cons_zero, List.set_cons_succ, Option.getD_some, Option.isSome_some])
          go_ret
          exact ⟨by rw [HA.out]; rfl, bl_alloc (Below.refl _ _) _⟩
    --}q1
  · have ek1 := bq_f k1
    have nk1 := bn_t k1
    by_cases k5 : kd = 5
    · --{q5
      have ek5 := bq_t k5
      have nk5 := bn_f k5
      by_cases h0 : er = 0
      · have eh0 := bq_t h0
        have nh0 := bn_f h0
        have ha : answersD s ⟨kd, key, hi, val, er, rv, ps, ov, rs⟩ = decide (ps = s.span key hi) := by simp [answersD, *]
        have HA := Lib.hid ha
        clear ha k1 k5 h0
        obtain ⟨gt, hgt⟩ : ∃ gt, s.get key = gt := ⟨_, rfl⟩
        have HG := Lib.hid hgt
        clear hgt
        go_enter Try.func33, Try.ntmps33
        go_upto_region 1 with fail
        have hw1 := bl_alloc (Below.refl w.heap.size w) (.cells #[.int .i64 kd, .int .i64 key, .int .i64 hi, .int .i64 val, .int .i64 er, .int .i64 rv, .slice pa ps.length pc, .int .i64 ov, .int .i64 rs] 35 (0, 0))
        have hbx := blk_new w (.cells #[.int .i64 kd, .int .i64 key, .int .i64 hi, .int .i64 val, .int .i64 er, .int .i64 rv, .slice pa ps.length pc, .int .i64 ov, .int .i64 rs] 35 (0, 0))
        have hm1 := HM.out (.cells #[.int .i64 kd, .int .i64 key, .int .i64 hi, .int .i64 val, .int .i64 er, .int .i64 rv, .slice pa ps.length pc, .int .i64 ov, .int .i64 rs] 35 (0, 0))
        have hp1 := HPS.out (.cells #[.int .i64 kd, .int .i64 key, .int .i64 hi, .int .i64 val, .int .i64 er, .int .i64 rv, .slice pa ps.length pc, .int .i64 ov, .int .i64 rs] 35 (0, 0))
        generalize w.alloc (.cells #[.int .i64 kd, .int .i64 key, .int .i64 hi, .int .i64 val, .int .i64 er, .int .i64 rv, .slice pa ps.length pc, .int .i64 ov, .int .i64 rs] 35 (0, 0)) = w1 at *
        have HW1 := Lib.hid hw1
        have HM1 := Lib.hid hm1
        clear hw1 HM HPS
        generalize w.heap.size = B at hbx ⊢
        have y0 := blk_cell hbx 0
        have y1 := blk_cell hbx 1
        have y2 := blk_cell hbx 2
        have y4 := blk_cell hbx 4
        have y6 := blk_cell hbx 6
        simp at y0 y1 y2 y4 y6
        have hBl : B < w1.heap.size := blk_lt hbx
        have HFL : Hid (∀ W, Below w1.heap.size w1 W → W.cell? ⟨B, 1, none⟩ = some (.int .i64 key) ∧ W.cell? ⟨B, 2, none⟩ = some (.int .i64 hi) ∧ W.cell? ⟨B, 6, none⟩ = some (.slice pa ps.length pc)) := Lib.hid fun W hW => ⟨(hW.cell (p := ⟨B, 1, none⟩) hBl).trans y1, (hW.cell (p := ⟨B, 2, none⟩) hBl).trans y2, (hW.cell (p := ⟨B, 6, none⟩) hBl).trans y6⟩
        have HDR : Hid (Below w1.heap.size w1 w1.drew) := Lib.hid (below_drewN' (Below.refl _ _) 1)
        have HPA : Hid (∀ W, Below w1.heap.size w1 W → Calls Try.prog 46 #[.map (some b), .int .i64 key, .int .i64 hi] W fun e w' => ∃ v, e = .returned v ∧ PairsAt w' v (s.span key hi) ∧ Below w1.heap.size w1 w') := Lib.hid fun W hW => (pairs_any (hm1.later hW) HL.out).mono fun e w' ⟨v, h1, h2, h3⟩ => ⟨v, h1, h2, hW.trans (h3.mono hW.size)⟩
        have hsl : (s.span key hi).length ≤ 1000000 := Nat.le_trans (List.length_filter_le _ _) (by have := HL.out; omega)
        have HEQ : Hid (∀ W vb, Below w1.heap.size w1 W → PairsAt W vb (s.span key hi) → Calls Try.prog 45 #[.slice pa ps.length pc, vb] W fun e w' => e = .returned (.bool (decide (ps = s.span key hi))) ∧ Below w1.heap.size w1 w') := Lib.hid fun W vb hW hvb => (equal_any (hp1.later hW) hvb HP.out hsl).mono fun e w' ⟨h1, q, h2⟩ => ⟨h1, by rw [h2]; exact below_drewN' hW q⟩
        clear hm1 hp1 hsl hBl hbx
        go_upto_region 2 with (at_lookup; refine smap_look_ok rfl _ _ rfl Try.underlying66 rfl HM1.out rfl WY.out ?_; rw [HG.out]; simp only [Act.put, List.setIfInBounds_toArray, List.set_cons_zero, List.set_cons_succ])
        go_upto_region 7 with fail
        clear y0 y1 y2 y4 y6
        go_region_held3 (fun W => W.cell? ⟨B, 1, none⟩ = some (.int .i64 key) ∧ W.cell? ⟨B, 2, none⟩ = some (.int .i64 hi) ∧ W.cell? ⟨B, 6, none⟩ = some (.slice pa ps.length pc))
          (first | exact HFL.out _ (by assumption) | exact HFL.out _ HDR.out)
          (first | (((with_reducible refine (HPA.out _ ?_).mono ?_); (first | assumption | exact HDR.out); rintro e w2 ⟨v2, rfl, hp2, hb2⟩)) | (((with_reducible refine (HEQ.out _ _ ?_ ?_).mono ?_); (assumption); (assumption); rintro e w3 ⟨rfl, hb3⟩)))
        all_goals
          have HB3 := Lib.hid hb3
          clear hb3 hb2 hp2 HPA HEQ HFL HDR
          go_wp2_with fail
          go_ret
          exact ⟨by rw [HA.out]; rfl, HW1.out.trans (HB3.out.mono HW1.out.size)⟩
      · have eh0 := bq_f h0
        have nh0 := bn_t h0
        have ha : answersD s ⟨kd, key, hi, val, er, rv, ps, ov, rs⟩ = true := by simp [answersD, *]
        have HA := Lib.hid ha
        clear ha k1 k5 h0
        obtain ⟨gt, hgt⟩ : ∃ gt, s.get key = gt := ⟨_, rfl⟩
        have HG := Lib.hid hgt
        clear hgt
        go_enter Try.func33, Try.ntmps33
        go_upto_region 7 with (at_lookup; refine smap_look_ok rfl _ _ rfl Try.underlying66 rfl (HM.out _) rfl WY.out ?_; rw [HG.out]; simp only [Act.put, List.setIfInBounds_toArray, List.set_cons_zero, List.set_cons_succ])
        go_quiet (fail)
        go_wp2_with fail
        go_ret
        exact ⟨by rw [HA.out]; rfl, below_drewN' (bl_alloc (Below.refl _ _) _) nq⟩
      --}q5
    · have ek5 := bq_f k5
      have nk5 := bn_t k5
      by_cases k2 : kd = 2
      · --{q2
        have ek2 := bq_t k2
        have nk2 := bn_f k2
        by_cases h0 : er = 0
        · have eh0 := bq_t h0
          have nh0 := bn_f h0
          have e12 : (er == 12) = false := by rw [h0]; rfl
          have n12 : (er != 12) = true := by rw [h0]; rfl
          rcases hg : s.get key with _ | vl
          · skip
            have ha : answersD s ⟨kd, key, hi, val, er, rv, ps, ov, rs⟩ = true := by simp [answersD, *]
            have HA := Lib.hid ha
            clear ha k1 k5 k2 h0
            have HG := Lib.hid hg
            clear hg
            go_enter Try.func33, Try.ntmps33
            go_wp2_with (at_lookup; refine smap_look_ok rfl _ _ rfl Try.underlying66 rfl (HM.out _) rfl WY.out ?_; rw [HG.out]; simp only [Act.put, List.setIfInBounds_toArray, List.set_cons_zero, List.set_cons_succ, Option.getD_none, Option.isSome_none])
            go_ret
            exact ⟨by rw [HA.out]; rfl, bl_alloc (Below.refl _ _) _⟩
          · skip
            have ha : answersD s ⟨kd, key, hi, val, er, rv, ps, ov, rs⟩ = false := by simp [answersD, *]
            have HA := Lib.hid ha
            clear ha k1 k5 k2 h0
            have HG := Lib.hid hg
            clear hg
            go_enter Try.func33, Try.ntmps33
            go_wp2_with (at_lookup; refine smap_look_ok rfl _ _ rfl Try.underlying66 rfl (HM.out _) rfl WY.out ?_; rw [HG.out]; simp only [Act.put, List.setIfInBounds_toArray, List.set_cons_zero, List.set_cons_succ, Option.getD_some, Option.isSome_some])
            go_ret
            exact ⟨by rw [HA.out]; rfl, bl_alloc (Below.refl _ _) _⟩
        · have eh0 := bq_f h0
          have nh0 := bn_t h0
          by_cases h12 : er = 12
          · have eh12 := bq_t h12
            have nh12 := bn_f h12
            rcases hg : s.get key with _ | vl
            · skip
              have ha : answersD s ⟨kd, key, hi, val, er, rv, ps, ov, rs⟩ = false := by simp [answersD, *]
              have HA := Lib.hid ha
              clear ha k1 k5 k2 h0 h12
              have HG := Lib.hid hg
              clear hg
              go_enter Try.func33, Try.ntmps33
              go_wp2_with (at_lookup; refine smap_look_ok rfl _ _ rfl Try.underlying66 rfl (HM.out _) rfl WY.out ?_; rw [HG.out]; simp only [Act.put, List.setIfInBounds_toArray, List.set_cons_zero, List.set_cons_succ, Option.getD_none, Option.isSome_none])
              go_ret
              exact ⟨by rw [HA.out]; rfl, bl_alloc (Below.refl _ _) _⟩
            · skip
              have ha : answersD s ⟨kd, key, hi, val, er, rv, ps, ov, rs⟩ = true := by simp [answersD, *]
              have HA := Lib.hid ha
              clear ha k1 k5 k2 h0 h12
              have HG := Lib.hid hg
              clear hg
              go_enter Try.func33, Try.ntmps33
              go_wp2_with (at_lookup; refine smap_look_ok rfl _ _ rfl Try.underlying66 rfl (HM.out _) rfl WY.out ?_; rw [HG.out]; simp only [Act.put, List.setIfInBounds_toArray, List.set_cons_zero, List.set_cons_succ, Option.getD_some, Option.isSome_some])
              go_ret
              exact ⟨by rw [HA.out]; rfl, bl_alloc (Below.refl _ _) _⟩
          · have eh12 := bq_f h12
            have nh12 := bn_t h12
            rcases hg : s.get key with _ | vl
            · skip
              have ha : answersD s ⟨kd, key, hi, val, er, rv, ps, ov, rs⟩ = true := by simp [answersD, *]
              have HA := Lib.hid ha
              clear ha k1 k5 k2 h0 h12
              have HG := Lib.hid hg
              clear hg
              go_enter Try.func33, Try.ntmps33
              go_wp2_with (at_lookup; refine smap_look_ok rfl _ _ rfl Try.underlying66 rfl (HM.out _) rfl WY.out ?_; rw [HG.out]; simp only [Act.put, List.setIfInBounds_toArray, List.set_cons_zero, List.set_cons_succ, Option.getD_none, Option.isSome_none])
              go_ret
              exact ⟨by rw [HA.out]; rfl, bl_alloc (Below.refl _ _) _⟩
            · skip
              have ha : answersD s ⟨kd, key, hi, val, er, rv, ps, ov, rs⟩ = true := by simp [answersD, *]
              have HA := Lib.hid ha
              clear ha k1 k5 k2 h0 h12
              have HG := Lib.hid hg
              clear hg
              go_enter Try.func33, Try.ntmps33
              go_wp2_with (at_lookup; refine smap_look_ok rfl _ _ rfl Try.underlying66 rfl (HM.out _) rfl WY.out ?_; rw [HG.out]; simp only [Act.put, List.setIfInBounds_toArray, List.set_cons_zero, List.set_cons_succ, Option.getD_some, Option.isSome_some])
              go_ret
              exact ⟨by rw [HA.out]; rfl, bl_alloc (Below.refl _ _) _⟩
        --}q2
      · have ek2 := bq_f k2
        have nk2 := bn_t k2
        by_cases k3 : kd = 3
        · --{q3
          have ek3 := bq_t k3
          have nk3 := bn_f k3
          by_cases h0 : er = 0
          · have eh0 := bq_t h0
            have nh0 := bn_f h0
            rcases hg : s.get key with _ | vl
            · skip
              have ha : answersD s ⟨kd, key, hi, val, er, rv, ps, ov, rs⟩ = false := by simp [answersD, *]
              have HA := Lib.hid ha
              clear ha k1 k5 k2 k3 h0
              have HG := Lib.hid hg
              clear hg
              go_enter Try.func33, Try.ntmps33
              go_wp2_with (at_lookup; refine smap_look_ok rfl _ _ rfl Try.underlying66 rfl (HM.out _) rfl WY.out ?_; rw [HG.out]; simp only [Act.put, List.setIfInBounds_toArray, List.set_cons_zero, List.set_cons_succ, Option.getD_none, Option.isSome_none])
              go_ret
              exact ⟨by rw [HA.out]; rfl, bl_alloc (Below.refl _ _) _⟩
            · skip
              have ha : answersD s ⟨kd, key, hi, val, er, rv, ps, ov, rs⟩ = true := by simp [answersD, *]
              have HA := Lib.hid ha
              clear ha k1 k5 k2 k3 h0
              have HG := Lib.hid hg
              clear hg
              go_enter Try.func33, Try.ntmps33
              go_wp2_with (at_lookup; refine smap_look_ok rfl _ _ rfl Try.underlying66 rfl (HM.out _) rfl WY.out ?_; rw [HG.out]; simp only [Act.put, List.setIfInBounds_toArray, List.set_cons_zero, List.set_cons_succ, Option.getD_some, Option.isSome_some])
              go_ret
              exact ⟨by rw [HA.out]; rfl, bl_alloc (Below.refl _ _) _⟩
          · have eh0 := bq_f h0
            have nh0 := bn_t h0
            by_cases h11 : er = 11
            · have eh11 := bq_t h11
              have nh11 := bn_f h11
              rcases hg : s.get key with _ | vl
              · skip
                have ha : answersD s ⟨kd, key, hi, val, er, rv, ps, ov, rs⟩ = true := by simp [answersD, *]
                have HA := Lib.hid ha
                clear ha k1 k5 k2 k3 h0 h11
                have HG := Lib.hid hg
                clear hg
                go_enter Try.func33, Try.ntmps33
                go_wp2_with (at_lookup; refine smap_look_ok rfl _ _ rfl Try.underlying66 rfl (HM.out _) rfl WY.out ?_; rw [HG.out]; simp only [Act.put, List.setIfInBounds_toArray, List.set_cons_zero, List.set_cons_succ, Option.getD_none, Option.isSome_none])
                go_ret
                exact ⟨by rw [HA.out]; rfl, bl_alloc (Below.refl _ _) _⟩
              · skip
                have ha : answersD s ⟨kd, key, hi, val, er, rv, ps, ov, rs⟩ = false := by simp [answersD, *]
                have HA := Lib.hid ha
                clear ha k1 k5 k2 k3 h0 h11
                have HG := Lib.hid hg
                clear hg
                go_enter Try.func33, Try.ntmps33
                go_wp2_with (at_lookup; refine smap_look_ok rfl _ _ rfl Try.underlying66 rfl (HM.out _) rfl WY.out ?_; rw [HG.out]; simp only [Act.put, List.setIfInBounds_toArray, List.set_cons_zero, List.set_cons_succ, Option.getD_some, Option.isSome_some])
                go_ret
                exact ⟨by rw [HA.out]; rfl, bl_alloc (Below.refl _ _) _⟩
            · have eh11 := bq_f h11
              have nh11 := bn_t h11
              rcases hg : s.get key with _ | vl
              · skip
                have ha : answersD s ⟨kd, key, hi, val, er, rv, ps, ov, rs⟩ = true := by simp [answersD, *]
                have HA := Lib.hid ha
                clear ha k1 k5 k2 k3 h0 h11
                have HG := Lib.hid hg
                clear hg
                go_enter Try.func33, Try.ntmps33
                go_wp2_with (at_lookup; refine smap_look_ok rfl _ _ rfl Try.underlying66 rfl (HM.out _) rfl WY.out ?_; rw [HG.out]; simp only [Act.put, List.setIfInBounds_toArray, List.set_cons_zero, List.set_cons_succ, Option.getD_none, Option.isSome_none])
                go_ret
                exact ⟨by rw [HA.out]; rfl, bl_alloc (Below.refl _ _) _⟩
              · skip
                have ha : answersD s ⟨kd, key, hi, val, er, rv, ps, ov, rs⟩ = true := by simp [answersD, *]
                have HA := Lib.hid ha
                clear ha k1 k5 k2 k3 h0 h11
                have HG := Lib.hid hg
                clear hg
                go_enter Try.func33, Try.ntmps33
                go_wp2_with (at_lookup; refine smap_look_ok rfl _ _ rfl Try.underlying66 rfl (HM.out _) rfl WY.out ?_; rw [HG.out]; simp only [Act.put, List.setIfInBounds_toArray, List.set_cons_zero, List.set_cons_succ, Option.getD_some, Option.isSome_some])
                go_ret
                exact ⟨by rw [HA.out]; rfl, bl_alloc (Below.refl _ _) _⟩
          --}q3
        · have ek3 := bq_f k3
          have nk3 := bn_t k3
          by_cases k4 : kd = 4
          · --{q4
            have ek4 := bq_t k4
            have nk4 := bn_f k4
            by_cases h0 : er = 0
            · have eh0 := bq_t h0
              have nh0 := bn_f h0
              rcases hg : s.get key with _ | vl
              · skip
                have ha : answersD s ⟨kd, key, hi, val, er, rv, ps, ov, rs⟩ = false := by simp [answersD, *]
                have HA := Lib.hid ha
                clear ha k1 k5 k2 k3 k4 h0
                have HG := Lib.hid hg
                clear hg
                go_enter Try.func33, Try.ntmps33
                go_wp2_with (at_lookup; refine smap_look_ok rfl _ _ rfl Try.underlying66 rfl (HM.out _) rfl WY.out ?_; rw [HG.out]; simp only [Act.put, List.setIfInBounds_toArray, List.set_cons_zero, List.set_cons_succ, Option.getD_none, Option.isSome_none])
                go_ret
                exact ⟨by rw [HA.out]; rfl, bl_alloc (Below.refl _ _) _⟩
              · skip
                have ha : answersD s ⟨kd, key, hi, val, er, rv, ps, ov, rs⟩ = true := by simp [answersD, *]
                have HA := Lib.hid ha
                clear ha k1 k5 k2 k3 k4 h0
                have HG := Lib.hid hg
                clear hg
                go_enter Try.func33, Try.ntmps33
                go_wp2_with (at_lookup; refine smap_look_ok rfl _ _ rfl Try.underlying66 rfl (HM.out _) rfl WY.out ?_; rw [HG.out]; simp only [Act.put, List.setIfInBounds_toArray, List.set_cons_zero, List.set_cons_succ, Option.getD_some, Option.isSome_some])
                go_ret
                exact ⟨by rw [HA.out]; rfl, bl_alloc (Below.refl _ _) _⟩
            · have eh0 := bq_f h0
              have nh0 := bn_t h0
              by_cases h11 : er = 11
              · have eh11 := bq_t h11
                have nh11 := bn_f h11
                rcases hg : s.get key with _ | vl
                · skip
                  have ha : answersD s ⟨kd, key, hi, val, er, rv, ps, ov, rs⟩ = true := by simp [answersD, *]
                  have HA := Lib.hid ha
                  clear ha k1 k5 k2 k3 k4 h0 h11
                  have HG := Lib.hid hg
                  clear hg
                  go_enter Try.func33, Try.ntmps33
                  go_wp2_with (at_lookup; refine smap_look_ok rfl _ _ rfl Try.underlying66 rfl (HM.out _) rfl WY.out ?_; rw [HG.out]; simp only [Act.put, List.setIfInBounds_toArray, List.set_cons_zero, List.set_cons_succ, Option.getD_none, Option.isSome_none])
                  go_ret
                  exact ⟨by rw [HA.out]; rfl, bl_alloc (Below.refl _ _) _⟩
                · skip
                  have ha : answersD s ⟨kd, key, hi, val, er, rv, ps, ov, rs⟩ = false := by simp [answersD, *]
                  have HA := Lib.hid ha
                  clear ha k1 k5 k2 k3 k4 h0 h11
                  have HG := Lib.hid hg
                  clear hg
                  go_enter Try.func33, Try.ntmps33
                  go_wp2_with (at_lookup; refine smap_look_ok rfl _ _ rfl Try.underlying66 rfl (HM.out _) rfl WY.out ?_; rw [HG.out]; simp only [Act.put, List.setIfInBounds_toArray, List.set_cons_zero, List.set_cons_succ, Option.getD_some, Option.isSome_some])
                  go_ret
                  exact ⟨by rw [HA.out]; rfl, bl_alloc (Below.refl _ _) _⟩
              · have eh11 := bq_f h11
                have nh11 := bn_t h11
                rcases hg : s.get key with _ | vl
                · skip
                  have ha : answersD s ⟨kd, key, hi, val, er, rv, ps, ov, rs⟩ = true := by simp [answersD, *]
                  have HA := Lib.hid ha
                  clear ha k1 k5 k2 k3 k4 h0 h11
                  have HG := Lib.hid hg
                  clear hg
                  go_enter Try.func33, Try.ntmps33
                  go_wp2_with (at_lookup; refine smap_look_ok rfl _ _ rfl Try.underlying66 rfl (HM.out _) rfl WY.out ?_; rw [HG.out]; simp only [Act.put, List.setIfInBounds_toArray, List.set_cons_zero, List.set_cons_succ, Option.getD_none, Option.isSome_none])
                  go_ret
                  exact ⟨by rw [HA.out]; rfl, bl_alloc (Below.refl _ _) _⟩
                · skip
                  have ha : answersD s ⟨kd, key, hi, val, er, rv, ps, ov, rs⟩ = true := by simp [answersD, *]
                  have HA := Lib.hid ha
                  clear ha k1 k5 k2 k3 k4 h0 h11
                  have HG := Lib.hid hg
                  clear hg
                  go_enter Try.func33, Try.ntmps33
                  go_wp2_with (at_lookup; refine smap_look_ok rfl _ _ rfl Try.underlying66 rfl (HM.out _) rfl WY.out ?_; rw [HG.out]; simp only [Act.put, List.setIfInBounds_toArray, List.set_cons_zero, List.set_cons_succ, Option.getD_some, Option.isSome_some])
                  go_ret
                  exact ⟨by rw [HA.out]; rfl, bl_alloc (Below.refl _ _) _⟩
            --}q4
          · have ek4 := bq_f k4
            have nk4 := bn_t k4
            --{q0
            rcases hg : s.get key with _ | vl
            · skip
              have ha : answersD s ⟨kd, key, hi, val, er, rv, ps, ov, rs⟩ = true := by simp [answersD, *]
              have HA := Lib.hid ha
              clear ha k1 k5 k2 k3 k4
              have HG := Lib.hid hg
              clear hg
              go_enter Try.func33, Try.ntmps33
              go_wp2_with (at_lookup; refine smap_look_ok rfl _ _ rfl Try.underlying66 rfl (HM.out _) rfl WY.out ?_; rw [HG.out]; simp only [Act.put, List.setIfInBounds_toArray, List.set_cons_zero, List.set_cons_succ, Option.getD_none, Option.isSome_none])
              go_ret
              exact ⟨by rw [HA.out]; rfl, bl_alloc (Below.refl _ _) _⟩
            · skip
              have ha : answersD s ⟨kd, key, hi, val, er, rv, ps, ov, rs⟩ = true := by simp [answersD, *]
              have HA := Lib.hid ha
              clear ha k1 k5 k2 k3 k4
              have HG := Lib.hid hg
              clear hg
              go_enter Try.func33, Try.ntmps33
              go_wp2_with (at_lookup; refine smap_look_ok rfl _ _ rfl Try.underlying66 rfl (HM.out _) rfl WY.out ?_; rw [HG.out]; simp only [Act.put, List.setIfInBounds_toArray, List.set_cons_zero, List.set_cons_succ, Option.getD_some, Option.isSome_some])
              go_ret
              exact ⟨by rw [HA.out]; rfl, bl_alloc (Below.refl _ _) _⟩
            --}q0
end Go.Proofs.Ytpohehialkgigaa
