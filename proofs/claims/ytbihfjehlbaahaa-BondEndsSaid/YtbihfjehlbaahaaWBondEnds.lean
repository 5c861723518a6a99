/- BondEnds holds: who has ended is bound to nobody more, and ends no second time; who is not there does nothing. No condition. -/
import Derived.Test.YtbihfjehlbaahaaJH
namespace Go.Proofs.Ytbihfjehlbaahaa
open Go.RowKit Go.ChangeShapes

/-- Two that are there, the first of which has ended. -/
structure Ended (s : Bs) (v : Int) : Prop where
  sts : Sts s 2 (fun x => if x = 1 then v else 1) (fun _ => [])
  over : ¬ (v = 1 ∨ v = 2)
section
variable {s s' : Bs} {v : Int}
theorem Ended.m1 (h : Ended s v) : (1 : Int) ∈ s.ids := h.sts.mem (by decide) (by decide)
theorem Ended.m2 (h : Ended s v) : (2 : Int) ∈ s.ids := h.sts.mem (by decide) (by decide)
theorem Ended.s1 (h : Ended s v) : s.st 1 = v := by rw [h.sts.st 1 (by decide) (by decide)]; rfl
theorem Ended.s2 (h : Ended s v) : s.st 2 = 1 := by rw [h.sts.st 2 (by decide) (by decide)]; rfl
theorem Ended.no (h : Ended s v) {id : Int} (h1 : id ≠ 1) (h2 : id ≠ 2) : id ∉ s.ids := fun hx => by have := h.sts.le hx; omega
end
theorem first_open : Bs.new.openE 1 = 0 := by decide
theorem two_states {s : Bs} (h : Sts s 2 (fun x => if x = (1 : Int) + 1 then 1 else if x = (0 : Int) + 1 then 1 else 0) (fun x => if x = (1 : Int) + 1 then [] else if x = (0 : Int) + 1 then [] else [])) : Sts s 2 (fun _ => 1) (fun _ => []) :=
  h.congr (fun x h1 h2 => by
    by_cases e : x = (1 : Int) + 1
    · rw [if_pos e]
    · rw [if_neg e, if_pos (by omega)]) (fun x _ _ => by
    by_cases e : x = (1 : Int) + 1
    · rw [if_pos e]
    · rw [if_neg e]; split <;> rfl)


set_option maxRecDepth 100000 in
set_option maxHeartbeats 6400000 in
theorem ends_true {a1 : Int} {w : World} (w1 : (Lit.int .i64 a1).wf = true) :
    Calls Try.prog 7 #[.bool true, .int .i64 a1] w fun e w' => e = .returned (.bool true) ∧ Below w.heap.size w w' := by
  have HN := Lib.hid (bs_new (Sep.nil w))
  obtain ⟨i, hi, i1, i2, iw⟩ : ∃ i : Int, (if a1 = 1 ∨ a1 = 2 then 3 else a1) = i ∧ i ≠ 1 ∧ i ≠ 2 ∧ (Lit.int .i64 i).wf = true := by
    by_cases h : a1 = 1 ∨ a1 = 2
    · exact ⟨3, if_pos h, by decide, by decide, by decide⟩
    · exact ⟨a1, if_neg h, by omega, by omega, w1⟩
  have HI := Lib.hid hi
  have IW := Lib.hid iw
  have W1 := Lib.hid w1
  clear hi iw w1
  go_enter Try.func7, Try.ntmps7
  go_wp2_with fail
  refine HN.out.mono ?_
  rintro e w1 ⟨b, F, rfl, hW⟩
  have H1 := Lib.hid (bs_next hW (Sts.new (st := fun _ => 0) (on := fun _ => [])) (by decide))
  clear hW HN
  go_wp2_with fail
  refine H1.out.mono ?_
  rintro e w2 ⟨F2, s2, rfl, hW, hS⟩
  have H2 := Lib.hid (bs_next hW hS (by decide))
  clear hW hS H1
  go_wp2_with fail
  refine H2.out.mono ?_
  rintro e w3 ⟨F3, s3, rfl, hW, hS⟩
  have hS3 := two_states hS
  have H3 := Lib.hid (bs_open_no hW (id := 2) (c := 12) (by decide) (by unfold Bs.openE; rw [if_neg (by decide), if_pos (hS3.mem (by decide) (by decide))]) (by decide))
  have HS3 := Lib.hid hS3
  clear hW hS hS3 H2
  go_wp2_with fail
  refine H3.out.mono ?_
  rintro e w4 ⟨F4, rfl, hW⟩
  have H4 := Lib.hid (bs_open_no hW (id := 0) (c := 1) (by decide) (by unfold Bs.openE; rw [if_pos (by decide)]) (by decide))
  clear hW H3
  go_wp2_with fail
  refine H4.out.mono ?_
  rintro e w5 ⟨F5, rfl, hW⟩
  have h1 : s3.st 1 = 1 := HS3.out.st 1 (by decide) (by decide)
  have H5 := Lib.hid (bs_good_yes hW (id := 1) (by decide) (HS3.out.mem (by decide) (by decide)) h1 (fun z hz => by rw [HS3.out.on 1 (by decide) (by decide)] at hz; simp at hz))
  have HS5 := Lib.hid (show Ended (s3.turn 1 3) 3 from ⟨HS3.out.turn 1 3, by decide⟩)
  have HS3' := Lib.hid h1
  clear h1
  clear hW H4 HS3
  go_wp2_with fail
  refine H5.out.mono ?_
  rintro e w6 ⟨v6, l6, rfl, hr, hW⟩
  have H6' := Lib.hid hW.tail
  generalize s3.turn 1 3 = s6 at *
  clear hr hW
  have hE := HS5.out
  have H6 := Lib.hid (bs_good_no (c := 7) H6'.out (id := 1) (by decide) (fun c' l t hg => by have := hg.over_of hE.m1 (by rw [hE.s1]; decide); exact ⟨this.1, this.2.1⟩))
  clear hE H5 HS3'
  go_wp2_with fail
  refine H6.out.mono ?_
  rintro e w7 ⟨v7, rfl, hW⟩
  have hE := HS5.out
  have H7 := Lib.hid (bs_bad_no (c := 7) hW (id := 1) (by decide) (fun c' l t hg => by have := hg.over_of hE.m1 (by rw [hE.s1]; exact hE.over); exact ⟨this.1, this.2.1⟩))
  clear hW hE H6
  go_wp2_with fail
  refine H7.out.mono ?_
  rintro e w8 ⟨v8, rfl, hW⟩
  have hE := HS5.out
  have H8 := Lib.hid (bs_bind_of (c := 7) (s' := s6) hW (id := 1) (tz := 2) (by decide) (by decide) (fun c' t hb => hb.over_of hE.m1 hE.m2 (by decide) (by rw [hE.s1]; exact hE.over)))
  clear hW hE H7
  go_wp2_with fail
  refine H8.out.mono ?_
  rintro e w9 ⟨F9, rfl, hW⟩
  have hE := HS5.out
  have H9 := Lib.hid (bs_bind_of (c := 1) (s' := s6) hW (id := 2) (tz := 2) (by decide) (by decide) (fun c' t hb => hb.same_of hE.m2 hE.m2 rfl))
  clear hW hE H8
  go_wp2_with fail
  refine H9.out.mono ?_
  rintro e w10 ⟨F10, rfl, hW⟩
  have hE := HS5.out
  have H10 := Lib.hid (bs_bind_of (c := 0) (s' := s6) hW (id := 2) (tz := 1) (by decide) (by decide) (fun c' t hb => hb.had_of hE.m2 hE.m1 (by decide) (.inl hE.s2) (.inl hE.s1)))
  clear hW hE H9
  go_wp2_with fail
  refine H10.out.mono ?_
  rintro e w11 ⟨F11, rfl, hW⟩
  have H7' := Lib.hid hW
  have HS7 := Lib.hid (HS5.out.sts)
  clear hW HS5
  generalize s6 = s7 at *
  have H11 := Lib.hid (bs_state_of H7'.out (id := 2) (v := 1) (by decide) (by rw [HS7.out.stOf (by decide) (by decide)]; rfl))
  clear H10
  go_wp2_with fail
  refine H11.out.mono ?_
  rintro e w12 ⟨rfl, rfl⟩
  have H12 := Lib.hid (bs_waits_of H7'.out (id := 2) (v := 0) (by decide) (by rw [HS7.out.waits (by decide) (by decide) (fun y hy => by simp at hy)]; rfl))
  clear H11 H7'
  go_wp2_with fail
  refine H12.out.mono ?_
  rintro e w13 ⟨rfl, hW⟩
  have H13' := Lib.hid hW
  clear hW H12
  go_upto_region 14 with fail
  go_cut [99] (fun s99 wx => s99 = .bool (decide (a1 = 1 ∨ a1 = 2)) ∧ wx = w13)
  case first =>
    as_aux_lemma =>
      by_cases e1 : a1 = 1
      · have e3 : (a1 == 1) = true := by simp [e1]
        have HD := Lib.hid (show decide (a1 = 1 ∨ a1 = 2) = true by simp [e1])
        clear e1
        go_wp2_with fail
        go_meet
        case rel => exact ⟨by rw [HD.out], rfl⟩
      · have e3 : (a1 == 1) = false := by simpa using e1
        by_cases e2 : a1 = 2
        · have e5 : (a1 == 2) = true := by simp [e2]
          have HD := Lib.hid (show decide (a1 = 1 ∨ a1 = 2) = true by simp [e2])
          clear e1 e2
          go_wp2_with fail
          go_meet
          case rel => exact ⟨by rw [HD.out], rfl⟩
        · have e5 : (a1 == 2) = false := by simpa using e2
          have HD := Lib.hid (show decide (a1 = 1 ∨ a1 = 2) = false by simp [e1, e2])
          clear e1 e2
          go_wp2_with fail
          go_meet
          case rel => exact ⟨by rw [HD.out], rfl⟩
  case rest =>
   as_aux_lemma =>
    obtain ⟨rfl, rfl⟩ := hcut
    go_upto_if 99 with fail
    go_cut [1] (fun s1 wx => s1 = .int .i64 i ∧ wx = wc)
    case first =>
     as_aux_lemma =>
      by_cases e1 : a1 = 1 ∨ a1 = 2
      · have e3 : decide (a1 = 1 ∨ a1 = 2) = true := by simpa using e1
        have e4 : i = 3 := by rw [← HI.out, if_pos e1]
        generalize decide (a1 = 1 ∨ a1 = 2) = dd at *
        subst e3
        clear e1 HI
        go_wp2_with fail
        go_meet
        case rel => exact ⟨by rw [e4], rfl⟩
      · have e3 : decide (a1 = 1 ∨ a1 = 2) = false := by simpa using e1
        have e4 : i = a1 := by rw [← HI.out, if_neg e1]
        generalize decide (a1 = 1 ∨ a1 = 2) = dd at *
        subst e3
        clear e1 HI
        go_wp2_with fail
        go_meet
        case rel => exact ⟨by rw [e4], rfl⟩
    case rest =>
     as_aux_lemma =>
      obtain ⟨rfl, rfl⟩ := hcut
      have HNO := Lib.hid (show i ∉ s7.ids from fun hx => by have := HS7.out.le hx; omega)
      have H13 := Lib.hid (bs_good_no (c := 11) H13'.out (id := i) IW.out (fun c' l t hg => by have := hg.none_of HNO.out; exact ⟨this.1, this.2.1⟩))
      clear H13' HI i1 i2
      go_wp2_with fail
      refine H13.out.mono ?_
      rintro e w14 ⟨v14, rfl, hW⟩
      have H14 := Lib.hid (bs_bad_no (c := 11) hW (id := i) IW.out (fun c' l t hg => by have := hg.none_of HNO.out; exact ⟨this.1, this.2.1⟩))
      clear hW H13
      go_wp2_with fail
      refine H14.out.mono ?_
      rintro e w15 ⟨v15, rfl, hW⟩
      have H15 := Lib.hid (bs_bind_of (c := 11) (s' := s7) hW (id := i) (tz := 1) IW.out (by decide) (fun c' t hb => hb.none_of (.inl HNO.out)))
      clear hW H14
      go_wp2_with fail
      refine H15.out.mono ?_
      rintro e w16 ⟨F16, rfl, hW⟩
      have H16 := Lib.hid (bs_bind_of (c := 11) (s' := s7) hW (id := 2) (tz := i) (by decide) IW.out (fun c' t hb => hb.none_of (.inr HNO.out)))
      clear hW H15
      go_wp2_with fail
      refine H16.out.mono ?_
      rintro e w17 ⟨F17, rfl, hW⟩
      have HW17 := Lib.hid hW
      have H17 := Lib.hid (bs_state_of hW (id := i) (v := 0) IW.out (by unfold Bs.stOf; rw [if_neg HNO.out]))
      clear hW H16
      go_wp2_with fail
      refine H17.out.mono ?_
      rintro e w18 ⟨rfl, rfl⟩
      have H18 := Lib.hid (bs_waits_of HW17.out (id := i) (v := 0) IW.out (by unfold Bs.forOf; rw [if_neg HNO.out]; rfl))
      clear HW17 H17
      go_wp2_with fail
      refine H18.out.mono ?_
      rintro e w19 ⟨rfl, hW⟩
      have HB := Lib.hid hW.bel
      clear hW H18
      go_wp2_with fail
      refine (awake16_any _).mono ?_
      rintro e w20 ⟨rfl, hb⟩
      have HB2 := Lib.hid hb
      clear hb
      go_wp2_with fail
      go_ret
      exact ⟨rfl, bl_next HB.out HB2.out⟩

set_option maxRecDepth 100000 in
set_option maxHeartbeats 6400000 in
theorem ends_false {a1 : Int} {w : World} (w1 : (Lit.int .i64 a1).wf = true) :
    Calls Try.prog 7 #[.bool false, .int .i64 a1] w fun e w' => e = .returned (.bool true) ∧ Below w.heap.size w w' := by
  have HN := Lib.hid (bs_new (Sep.nil w))
  obtain ⟨i, hi, i1, i2, iw⟩ : ∃ i : Int, (if a1 = 1 ∨ a1 = 2 then 3 else a1) = i ∧ i ≠ 1 ∧ i ≠ 2 ∧ (Lit.int .i64 i).wf = true := by
    by_cases h : a1 = 1 ∨ a1 = 2
    · exact ⟨3, if_pos h, by decide, by decide, by decide⟩
    · exact ⟨a1, if_neg h, by omega, by omega, w1⟩
  have HI := Lib.hid hi
  have IW := Lib.hid iw
  have W1 := Lib.hid w1
  clear hi iw w1
  go_enter Try.func7, Try.ntmps7
  go_wp2_with fail
  refine HN.out.mono ?_
  rintro e w1 ⟨b, F, rfl, hW⟩
  have H1 := Lib.hid (bs_next hW (Sts.new (st := fun _ => 0) (on := fun _ => [])) (by decide))
  clear hW HN
  go_wp2_with fail
  refine H1.out.mono ?_
  rintro e w2 ⟨F2, s2, rfl, hW, hS⟩
  have H2 := Lib.hid (bs_next hW hS (by decide))
  clear hW hS H1
  go_wp2_with fail
  refine H2.out.mono ?_
  rintro e w3 ⟨F3, s3, rfl, hW, hS⟩
  have hS3 := two_states hS
  have H3 := Lib.hid (bs_open_no hW (id := 2) (c := 12) (by decide) (by unfold Bs.openE; rw [if_neg (by decide), if_pos (hS3.mem (by decide) (by decide))]) (by decide))
  have HS3 := Lib.hid hS3
  clear hW hS hS3 H2
  go_wp2_with fail
  refine H3.out.mono ?_
  rintro e w4 ⟨F4, rfl, hW⟩
  have H4 := Lib.hid (bs_open_no hW (id := 0) (c := 1) (by decide) (by unfold Bs.openE; rw [if_pos (by decide)]) (by decide))
  clear hW H3
  go_wp2_with fail
  refine H4.out.mono ?_
  rintro e w5 ⟨F5, rfl, hW⟩
  have h1 : s3.st 1 = 1 := HS3.out.st 1 (by decide) (by decide)
  have H5 := Lib.hid (bs_bad_yes hW (id := 1) (by decide) (HS3.out.mem (by decide) (by decide)) (.inl h1))
  have HS5' := Lib.hid (show ∀ P, (∀ y, y ∈ P ↔ Doom s3 1 y) → Ended ((s3.doomed P).turn 1 4) 4 from fun P hP => ⟨((HS3.out.doomed P).turn 1 4).congr (fun x g1 g2 => by
    by_cases e : x = 1
    · rw [if_pos e, if_pos e]
    · rw [if_neg e, if_neg e, if_neg (fun h => e ((doom_alone (fun y hy => by have := HS3.out.le hy; rw [HS3.out.on y this.1 this.2]; simp) x).1 ((hP x).1 h.1)))]) (fun _ _ _ => rfl), by decide⟩)
  have HS3' := Lib.hid h1
  clear h1
  clear hW H4 HS3
  go_wp2_with fail
  refine H5.out.mono ?_
  rintro e w6 ⟨v6, l6, P6, rfl, hP, hr, hW⟩
  have H6' := Lib.hid hW.tail
  have HS5 := Lib.hid (HS5'.out P6 hP)
  generalize (s3.doomed P6).turn 1 4 = s6 at *
  clear hr hW hP HS5' 
  have hE := HS5.out
  have H6 := Lib.hid (bs_good_no (c := 7) H6'.out (id := 1) (by decide) (fun c' l t hg => by have := hg.over_of hE.m1 (by rw [hE.s1]; decide); exact ⟨this.1, this.2.1⟩))
  clear hE H5 HS3'
  go_wp2_with fail
  refine H6.out.mono ?_
  rintro e w7 ⟨v7, rfl, hW⟩
  have hE := HS5.out
  have H7 := Lib.hid (bs_bad_no (c := 7) hW (id := 1) (by decide) (fun c' l t hg => by have := hg.over_of hE.m1 (by rw [hE.s1]; exact hE.over); exact ⟨this.1, this.2.1⟩))
  clear hW hE H6
  go_wp2_with fail
  refine H7.out.mono ?_
  rintro e w8 ⟨v8, rfl, hW⟩
  have hE := HS5.out
  have H8 := Lib.hid (bs_bind_of (c := 7) (s' := s6) hW (id := 1) (tz := 2) (by decide) (by decide) (fun c' t hb => hb.over_of hE.m1 hE.m2 (by decide) (by rw [hE.s1]; exact hE.over)))
  clear hW hE H7
  go_wp2_with fail
  refine H8.out.mono ?_
  rintro e w9 ⟨F9, rfl, hW⟩
  have hE := HS5.out
  have H9 := Lib.hid (bs_bind_of (c := 1) (s' := s6) hW (id := 2) (tz := 2) (by decide) (by decide) (fun c' t hb => hb.same_of hE.m2 hE.m2 rfl))
  clear hW hE H8
  go_wp2_with fail
  refine H9.out.mono ?_
  rintro e w10 ⟨F10, rfl, hW⟩
  have hE := HS5.out
  have H10 := Lib.hid ((bs_bind hW (id := 2) (tz := 1) (by decide) (by decide)).mono (fun e w' (h : ∃ F' c t, _) => (by
    obtain ⟨F', c, t, he, hb, hS⟩ := h
    obtain ⟨rfl, P, hP, rfl⟩ := hb.bad_of hE.m2 hE.m1 (by decide) (.inl hE.s2) (by rw [hE.sts.on 2 (by decide) (by decide)]; simp) hE.s1
    exact ⟨F', _, he, hS, (hE.sts.doomed P).congr (fun x g1 g2 => by
      by_cases e : x = 1
      · subst e
        simp
      · have : x = 2 := by omega
        subst this
        have : (2 : Int) ∈ P := (hP 2).2 .self
        simp [this]) (fun _ _ _ => rfl)⟩ : ∃ F' s7, e = .returned (.int .i64 0) ∧ Sep w w' [obBonds b F' s7] ∧ Sts s7 2 (fun x => if x = 1 then 4 else 2) (fun _ => []))))
  clear hW hE H9
  go_wp2_with fail
  refine H10.out.mono ?_
  rintro e w11 ⟨F11, s7, rfl, hW, hS⟩
  have H7' := Lib.hid hW
  have HS7 := Lib.hid hS
  clear hW hS HS5
  have H11 := Lib.hid (bs_state_of H7'.out (id := 2) (v := 2) (by decide) (by rw [HS7.out.stOf (by decide) (by decide)]; rfl))
  clear H10
  go_wp2_with fail
  refine H11.out.mono ?_
  rintro e w12 ⟨rfl, rfl⟩
  have H12 := Lib.hid (bs_waits_of H7'.out (id := 2) (v := 0) (by decide) (by rw [HS7.out.waits (by decide) (by decide) (fun y hy => by simp at hy)]; rfl))
  clear H11 H7'
  go_wp2_with fail
  refine H12.out.mono ?_
  rintro e w13 ⟨rfl, hW⟩
  have H13' := Lib.hid hW
  clear hW H12
  go_upto_region 14 with fail
  go_cut [99] (fun s99 wx => s99 = .bool (decide (a1 = 1 ∨ a1 = 2)) ∧ wx = w13)
  case first =>
    as_aux_lemma =>
      by_cases e1 : a1 = 1
      · have e3 : (a1 == 1) = true := by simp [e1]
        have HD := Lib.hid (show decide (a1 = 1 ∨ a1 = 2) = true by simp [e1])
        clear e1
        go_wp2_with fail
        go_meet
        case rel => exact ⟨by rw [HD.out], rfl⟩
      · have e3 : (a1 == 1) = false := by simpa using e1
        by_cases e2 : a1 = 2
        · have e5 : (a1 == 2) = true := by simp [e2]
          have HD := Lib.hid (show decide (a1 = 1 ∨ a1 = 2) = true by simp [e2])
          clear e1 e2
          go_wp2_with fail
          go_meet
          case rel => exact ⟨by rw [HD.out], rfl⟩
        · have e5 : (a1 == 2) = false := by simpa using e2
          have HD := Lib.hid (show decide (a1 = 1 ∨ a1 = 2) = false by simp [e1, e2])
          clear e1 e2
          go_wp2_with fail
          go_meet
          case rel => exact ⟨by rw [HD.out], rfl⟩
  case rest =>
   as_aux_lemma =>
    obtain ⟨rfl, rfl⟩ := hcut
    go_upto_if 99 with fail
    go_cut [1] (fun s1 wx => s1 = .int .i64 i ∧ wx = wc)
    case first =>
     as_aux_lemma =>
      by_cases e1 : a1 = 1 ∨ a1 = 2
      · have e3 : decide (a1 = 1 ∨ a1 = 2) = true := by simpa using e1
        have e4 : i = 3 := by rw [← HI.out, if_pos e1]
        generalize decide (a1 = 1 ∨ a1 = 2) = dd at *
        subst e3
        clear e1 HI
        go_wp2_with fail
        go_meet
        case rel => exact ⟨by rw [e4], rfl⟩
      · have e3 : decide (a1 = 1 ∨ a1 = 2) = false := by simpa using e1
        have e4 : i = a1 := by rw [← HI.out, if_neg e1]
        generalize decide (a1 = 1 ∨ a1 = 2) = dd at *
        subst e3
        clear e1 HI
        go_wp2_with fail
        go_meet
        case rel => exact ⟨by rw [e4], rfl⟩
    case rest =>
     as_aux_lemma =>
      obtain ⟨rfl, rfl⟩ := hcut
      have HNO := Lib.hid (show i ∉ s7.ids from fun hx => by have := HS7.out.le hx; omega)
      have H13 := Lib.hid (bs_good_no (c := 11) H13'.out (id := i) IW.out (fun c' l t hg => by have := hg.none_of HNO.out; exact ⟨this.1, this.2.1⟩))
      clear H13' HI i1 i2
      go_wp2_with fail
      refine H13.out.mono ?_
      rintro e w14 ⟨v14, rfl, hW⟩
      have H14 := Lib.hid (bs_bad_no (c := 11) hW (id := i) IW.out (fun c' l t hg => by have := hg.none_of HNO.out; exact ⟨this.1, this.2.1⟩))
      clear hW H13
      go_wp2_with fail
      refine H14.out.mono ?_
      rintro e w15 ⟨v15, rfl, hW⟩
      have H15 := Lib.hid (bs_bind_of (c := 11) (s' := s7) hW (id := i) (tz := 1) IW.out (by decide) (fun c' t hb => hb.none_of (.inl HNO.out)))
      clear hW H14
      go_wp2_with fail
      refine H15.out.mono ?_
      rintro e w16 ⟨F16, rfl, hW⟩
      have H16 := Lib.hid (bs_bind_of (c := 11) (s' := s7) hW (id := 2) (tz := i) (by decide) IW.out (fun c' t hb => hb.none_of (.inr HNO.out)))
      clear hW H15
      go_wp2_with fail
      refine H16.out.mono ?_
      rintro e w17 ⟨F17, rfl, hW⟩
      have HW17 := Lib.hid hW
      have H17 := Lib.hid (bs_state_of hW (id := i) (v := 0) IW.out (by unfold Bs.stOf; rw [if_neg HNO.out]))
      clear hW H16
      go_wp2_with fail
      refine H17.out.mono ?_
      rintro e w18 ⟨rfl, rfl⟩
      have H18 := Lib.hid (bs_waits_of HW17.out (id := i) (v := 0) IW.out (by unfold Bs.forOf; rw [if_neg HNO.out]; rfl))
      clear HW17 H17
      go_wp2_with fail
      refine H18.out.mono ?_
      rintro e w19 ⟨rfl, hW⟩
      have HB := Lib.hid hW.bel
      clear hW H18
      go_wp2_with fail
      refine (awake16_any _).mono ?_
      rintro e w20 ⟨rfl, hb⟩
      have HB2 := Lib.hid hb
      clear hb
      go_wp2_with fail
      go_ret
      exact ⟨rfl, bl_next HB.out HB2.out⟩

theorem bondEnds_walk {a0 : Bool} {a1 : Int} {w : World} (w1 : (Lit.int .i64 a1).wf = true) :
    Calls Try.prog 7 #[.bool a0, .int .i64 a1] w fun e w' => e = .returned (.bool true) ∧ Below w.heap.size w w' := by
  cases a0 with
  | true => exact ends_true w1
  | false => exact ends_false w1
end Go.Proofs.Ytbihfjehlbaahaa
