/- Bind. -/
import Derived.Test.YtbihfjehlbaahaaJB
namespace Go.Proofs.Ytbihfjehlbaahaa
open Go.RowKit

set_option maxRecDepth 100000 in
set_option maxHeartbeats 3200000 in
theorem bind_any {w : World} {b : Nat} {F : Nat → Prop} {s : Bs} (h : BondsAt w b F s) {id tz : Int} (hw1 : (Lit.int .i64 id).wf = true) (hw2 : (Lit.int .i64 tz).wf = true) :
    Calls Try.prog 18 #[.pointer (some ⟨b, 0, none⟩), .int .i64 id, .int .i64 tz] w fun e w' => ∃ c s', e = .returned (.int .i64 c) ∧ BindTo s id tz c s' ∧ LeftB w b F s' w' := by
  have H0 := Lib.hid h
  obtain ⟨mb, blk, row, role, D, hF, h⟩ := h
  have c0 := h.top0
  have HB := Lib.hid (fun n => (h.mod ((Mod.refl (fun _ => False) w).drewN n) (fun _ _ h => h) : BA (w.drewN n) b mb blk row role D s))
  have HFF := Lib.hid hF
  clear hF
  by_cases hi : id ∈ s.ids
  · by_cases ht : tz ∈ s.ids
    · have hl1 := fun n => (HB.out n).look_in hi
      have hl2 := fun n => (HB.out n).look_in ht
      have HI := Lib.hid hi
      have HT := Lib.hid ht
      clear h
      go_enter Try.func18, Try.ntmps18
      go_wp2_with fail
      go_quiet (fail)
      have HBQ := Lib.hid (HB.out nq)
      have HM := Lib.hid (((Mod.refl (fun _ => False) w).drewN nq))
      generalize w.drewN nq = wq at *
      clear c0 hl1 hl2 HB
      have c0 := HBQ.out.top0
      have cx0 := HBQ.out.node0 hi
      have cx1 := HBQ.out.node1 hi
      have cy0 := HBQ.out.node0 ht
      have hrow := HBQ.out.rows id hi
      by_cases he : id = tz
      · subst he
        go_wp2_with fail
        go_ret
        exact ⟨_, _, rfl, .same hi hi rfl, LeftB.still H0.out HM.out⟩
      · have hne : (id == tz) = false := by simpa using he
        have HO := Lib.hid (bopen_any cx0)
        by_cases ho : s.st id = 1 ∨ s.st id = 2
        · have ho' := HO.out
          simp only [ho, decide_true] at ho'
          have HOP := Lib.hid ho'
          clear ho' HO
          by_cases hg : s.st tz = 3
          · rw [hg] at cy0
            go_wp2_with (go_at_call 47; refine HOP.out.mono ?_; rintro e w' ⟨rfl, rfl⟩)
            go_ret
            exact ⟨_, _, rfl, .had hi ht he ho (.inl hg), LeftB.still H0.out HM.out⟩
          · have hg3 : (s.st tz == 3) = false := by simpa using hg
            have hc := contains_any (Owned.row hrow) tz
            by_cases hm : tz ∈ s.on id
            · simp only [hm, decide_true] at hc
              have HC := Lib.hid hc
              clear hc
              go_wp2_with (first | (go_at_call 47; refine HOP.out.mono ?_; rintro e w' ⟨rfl, rfl⟩) | (go_at_call 48; refine HC.out.mono ?_; rintro e w' ⟨rfl, rfl⟩))
              go_ret
              exact ⟨_, _, rfl, .had hi ht he ho (.inr hm), LeftB.still H0.out HM.out⟩
            · simp only [hm, decide_false] at hc
              have HC := Lib.hid hc
              clear hc
              by_cases hb : s.st tz = 4
              · rw [hb] at cy0 hg3
                have HDM := Lib.hid (doom_any HBQ.out hi)
                go_wp2_with (first | (go_at_call 47; refine HOP.out.mono ?_; rintro e w' ⟨rfl, rfl⟩) | (go_at_call 48; refine HC.out.mono ?_; rintro e w' ⟨rfl, rfl⟩))
                refine HDM.out.mono ?_
                rintro e w2 ⟨P, v, hP, hnd, rfl, hO, hn, hB2, hM2⟩
                have HR := Lib.hid (LeftB.of HFF.out hB2 ((HM.out.mono (fun _ h => h.elim)).trans hM2) (Grows.refl _ _))
                have HP := Lib.hid hP
                clear hB2 hM2 hO hn hnd hP
                go_wp2_with fail
                go_ret
                exact ⟨_, _, rfl, .bad hi ht he ho hm hb HP.out, HR.out⟩
              · have hb4 : (s.st tz == 4) = false := by simpa using hb
                have hst := HBQ.out.good.state tz ht
                have HRE := Lib.hid (reach_any ⟨mb, blk, row, role, D, fun _ => Iff.rfl, HBQ.out⟩ ht («to» := id))
                go_wp2_with (first | (go_at_call 47; refine HOP.out.mono ?_; rintro e w' ⟨rfl, rfl⟩) | (go_at_call 48; refine HC.out.mono ?_; rintro e w' ⟨rfl, rfl⟩))
                refine HRE.out.mono ?_
                rintro e w2 ⟨r, rfl, hr, hbel⟩
                have HB2 := Lib.hid (HBQ.out.below hbel)
                have HM2 := Lib.hid (HM.out.trans (Mod.of_below hbel))
                have HRR := Lib.hid hr
                clear cx1 hrow cy0 c0 cx0 hbel hr HRE HC HOP HBQ HM
                cases r with
                | true =>
                  go_wp2_with fail
                  go_ret
                  exact ⟨_, _, rfl, .loop hi ht he ho hm (by omega) (by simpa using HRR.out), LeftB.still H0.out HM2.out⟩
                | false =>
                  have hnr : ¬ Reach s tz id := fun hx => by have := HRR.out.2 hx; cases this
                  have hrow := HB2.out.rows id hi
                  have cx1 := HB2.out.node1 hi
                  have HND := Lib.hid (HB2.out.node id hi)
                  have hsh := HB2.out.good.short id hi
                  have hfw := HB2.out.good.few
                  have hne2 : (row id).ownBlock ≠ some (blk id) := fun e => by
                    have := HB2.out.rr id hi _ e
                    rw [HB2.out.rn id hi] at this
                    cases this
                  have HN2 := Lib.hid hne2
                  have HROW := Lib.hid hrow
                  clear hrow hne2
                  have hfz := blk_free (HB2.out.node id hi) 1
                  have hAp : (s.on id).length + 1 ≤ 1099511627776 := by omega
                  go_wp2_with (at_builtin; refine walk_append (zero := .int .i64 0) (base := 0) (n := (s.on id).length) (m := 1) (xs := (s.on id).map (Value.int .i64)) (ys := [.int .i64 tz]) rfl (.tmp 68) (.tmp 70) rfl Try.underlying25 info_int rfl Nat.zero_lt_one (Nat.le_of_ble_eq_true rfl) rfl (World.ownsRow.alloc HROW.out _) rfl (SrcAt.one (blk_at (by simp))) (ints_one .i64 [_]) hAp (Nat.zero_le _) ?_)
                  intro v' w3 hA
                  obtain ⟨a', cap', rfl⟩ := hA.val
                  have c3 := (blk_cell (hA.keep (blk_alloc HND.out) HN2.out) 1).trans rfl
                  have z3 := blk_free (hA.keep (blk_alloc HND.out) HN2.out) 1
                  have hX : Mod (fun _ => False) w2 _ := (Mod.refl _ w2).alloc (.cells #[.int .i64 tz] 3)
                  have HB3 := Lib.hid (HB2.out.bound hi ht hm hX hA)
                  have hL := HB2.out.bound_left hi hX hA
                  have HL1 := Lib.hid ((HM2.out.mono (fun _ h => h.elim)).trans hL.1)
                  have HL2 := Lib.hid (show Grows w _ _ from fun g hg => (hL.2 g hg).imp (fun h => h) (fun h => Nat.le_trans HM2.out.size h))
                  have cy0 := HB3.out.node0 ht
                  rw [show (s.bound id tz).st tz = s.st tz from rfl] at cy0
                  clear hX hL hA HB2 HM2 HND HN2 HROW HRR hsh hfw hAp
                  rcases (show s.st tz = 1 ∨ s.st tz = 2 by omega) with h1 | h2
                  · rw [h1] at cy0
                    clear hg3 hb4
                    go_wp2_with fail
                    go_ret
                    exact ⟨_, _, rfl, .put hi ht he ho hm h1 hnr, LeftB.of HFF.out HB3.out HL1.out HL2.out⟩
                  · rw [h2] at cy0
                    clear hg3 hb4
                    have HDM := Lib.hid (doom_any HB3.out hi)
                    go_wp2_with fail
                    refine HDM.out.mono ?_
                    rintro e w4 ⟨P, v, hP, hnd, rfl, hO, hn, hB4, hM4⟩
                    have HP := Lib.hid hP
                    have hM5 : Mod (fun g => role g ≠ .none) w w4 := HL1.out.next hM4 HL2.out
                    have HR := Lib.hid (LeftB.of HFF.out hB4 hM5 HL2.out)
                    clear hB4 hM4 hO hn hnd hP hM5
                    go_wp2_with fail
                    go_ret
                    exact ⟨_, _, rfl, .doom hi ht he ho hm h2 hnr HP.out, HR.out⟩
        · have ho' := HO.out
          simp only [ho, decide_false] at ho'
          have HOP := Lib.hid ho'
          clear ho' HO
          go_wp2_with (go_at_call 47; refine HOP.out.mono ?_; rintro e w' ⟨rfl, rfl⟩)
          go_ret
          exact ⟨_, _, rfl, .over hi ht he ho, LeftB.still H0.out HM.out⟩
    · have hl1 := fun n => (HB.out n).look_in hi
      have hl2 := fun n => (HB.out n).look_out ht hw2
      clear h
      go_enter Try.func18, Try.ntmps18
      go_wp2_with fail
      go_quiet (fail)
      go_wp2_with fail
      go_ret
      exact ⟨_, _, rfl, .none (.inr ht), LeftB.still H0.out ((Mod.refl _ _).drewN _)⟩
  · by_cases ht : tz ∈ s.ids
    · have hl1 := fun n => (HB.out n).look_out hi hw1
      have hl2 := fun n => (HB.out n).look_in ht
      clear h
      go_enter Try.func18, Try.ntmps18
      go_wp2_with fail
      go_quiet (fail)
      go_wp2_with fail
      go_ret
      exact ⟨_, _, rfl, .none (.inl hi), LeftB.still H0.out ((Mod.refl _ _).drewN _)⟩
    · have hl1 := fun n => (HB.out n).look_out hi hw1
      have hl2 := fun n => (HB.out n).look_out ht hw2
      clear h
      go_enter Try.func18, Try.ntmps18
      go_wp2_with fail
      go_quiet (fail)
      go_wp2_with fail
      go_ret
      exact ⟨_, _, rfl, .none (.inl hi), LeftB.still H0.out ((Mod.refl _ _).drewN _)⟩
end Go.Proofs.Ytbihfjehlbaahaa
