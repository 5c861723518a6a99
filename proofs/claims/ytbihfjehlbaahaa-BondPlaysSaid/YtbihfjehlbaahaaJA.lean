/- doom: the walk. -/
import Derived.Test.YtbihfjehlbaahaaJ9
import Derived.Deep.DeepCutAuto
namespace Go.Proofs.Ytbihfjehlbaahaa
open Go.RowKit

set_option maxRecDepth 100000 in
set_option maxHeartbeats 6400000 in
theorem doom_any {w : World} {b mb : Nat} {blk : Int → Nat} {row : Int → Value} {role : Nat → Role} {D : DataW Unit} {s : Bs} (h : BA w b mb blk row role D s) {a : Int} (ha : a ∈ s.ids) :
    Calls Try.prog 49 #[.pointer (some ⟨b, 0, none⟩), .int .i64 a] w fun e w' => ∃ P v, (∀ y, y ∈ P ↔ Doom s a y) ∧ P.Nodup ∧ e = .returned v ∧ Owned .i64 3 w' v (sortI (s.outOf P)) ∧ (∀ g, v.ownBlock = some g → w.heap.size ≤ g) ∧
      BA w' b mb blk row role D (s.doomed P) ∧ Mod (fun g => role g ≠ .none) w w' := by
  have HI := Lib.hid (DI.start ha)
  have HD := Lib.hid (DW.start w role a)
  have HB0 := Lib.hid (show BA (w.alloc (.cells #[.int .i64 a] 3)) b mb blk row role D (s.doomed []) by rw [doomed_nil]; exact h.mod ((Mod.refl (fun _ => False) w).alloc _) (fun _ _ h => h))
  have HG := Lib.hid h.good
  have HLT := Lib.hid h.lt
  have hfew := h.good.few
  have hn0 : 1 ≤ s.ids.length := List.length_pos_of_mem ha
  clear h ha
  go_enter Try.func49, Try.ntmps49
  go_wp2_with fail
  go_loopg [5, 6] (2 * s.ids.length + 3) (fun kx ov qv wr => ∃ P T z, Hid (DI s a P T z (fun _ => false)) ∧ Hid (BA wr b mb blk row role D (s.doomed P)) ∧ Hid (DW w wr role qv ov T (s.outOf P)) ∧ 2 * (s.ids.length - (P.length + T.length)) + T.length ≤ kx)
  case atStart => exact ⟨[], [a], a, HI, HB0, HD, by simp; omega⟩
  case round =>
    obtain ⟨P, T, z, HR, HB, HW, hkx⟩ := hrel
    clear HI HD HB0
    have hpl := HR.out.len
    cases T with
    | nil =>
      as_aux_lemma =>
        obtain ⟨qg, qo, qc, hqv, hq1, hq2⟩ := HW.out.q.form
        obtain ⟨oa, oc, hov, ho1, ho2, ho3⟩ := HW.out.o.form
        have hol : (s.outOf P).length ≤ P.length := List.length_filter_le _ _
        subst hqv hov
        have HSO := Lib.hid (sort_own HW.out.o (by simp at hpl; omega))
        go_wp2_with fail
        refine HSO.out.mono ?_
        rintro e w2 ⟨rfl, hO2, hg2⟩
        have hm : Mod (fun g => (Value.slice oa (s.outOf P).length oc).ownBlock = some g) wr w2 := Mod.of_grown hg2 (fun k hk => .inl hk)
        have HO2 := Lib.hid hO2
        have HM := Lib.hid hm
        clear hO2 hm hg2
        go_wp2_with fail
        go_ret
        exact ⟨P, _, HR.out.all, by simpa using HR.out.nd, rfl, HO2.out, HW.out.on, HB.out.mod HM.out (fun g hg ho => by have := HW.out.on g ho; have := HLT.out g hg; omega), HW.out.mod.next HM.out (fun g hg => .inr (HW.out.on g hg))⟩
    | cons x T0 =>
      obtain ⟨qg, qo, qc, hqv, hq1, hq2⟩ := HW.out.q.form
      subst hqv
      have hhead := HW.out.q.head
      have HP := Lib.hid (HR.out.pop)
      have hxi := (HR.out.sub x (by simp)).1
      have hxP : x ∉ P := fun hp => by
        have := (List.nodup_append.1 HR.out.nd).2.2 x hp x (by simp)
        exact this rfl
      have c0 := HB.out.top0
      have hl := HB.out.look_in hxi
      have c1 := HB.out.node0 hxi
      rw [show (s.doomed P).st x = s.st x by simp [Bs.doomed, hxP]] at c1
      have hfz := blk_free (HB.out.node x hxi) 0
      have hol : (s.outOf P).length ≤ P.length := List.length_filter_le _ _
      obtain ⟨oa, oc, hov, ho1, -, -⟩ := HW.out.o.form
      subst hov
      have HXI := Lib.hid hxi
      unfold maxLen at hq2
      simp only [List.length_cons] at hq1 hkx hpl ⊢
      have pq0 : (0 : Int) < (T0.length : Int) + 1 := by omega
      have pq1 : (1 : Int) ≤ (T0.length : Int) + 1 := by omega
      have HO1 := Lib.hid ho1
      clear ho1 hxP hxi
      go_upto_region 5 with fail
      go_cut [6] (fun qv wx => wx = wr ∧ Hid (DW w wr role qv (.slice oa (s.outOf P).length oc) T0 (s.outOf P)))
      case first =>
        as_aux_lemma =>
          by_cases hq : qc = 1
          · subst hq
            obtain ⟨rfl, hq0⟩ := HW.out.q.rest1
            have HW1 := Lib.hid (HW.out.take hq0 rfl)
            clear HW HR
            go_wp2_with fail
            all_goals
              go_meet
              case rel => exact ⟨rfl, HW1⟩
          · have pq2 : (T0.length : Int) + 1 ≤ qc := by omega
            have HW1 := Lib.hid (HW.out.take HW.out.q.rest rfl)
            clear HW HR
            go_wp2_with fail
            all_goals
              go_meet
              case rel => exact ⟨rfl, HW1⟩
      case rest =>
        as_aux_lemma =>
          obtain ⟨rfl, HW1⟩ := hcut
          clear HW HR hhead pq0 pq1 hq1 hq2
          go_upto_if 31 with fail
          go_cut [5] (fun ov wx => Hid (BA wx b mb blk row role D (s.doomed (P ++ [x]))) ∧ Hid (DW w wx role u6 ov T0 (s.outOf (P ++ [x]))))
          case first =>
            as_aux_lemma =>
              by_cases h1 : s.st x = 1
              · have hb1 : (s.st x == 1) = true := by simp [h1]
                have HB2 := Lib.hid (show BA (wc.setCell ⟨blk x, 0, none⟩ (.int .i64 2)) b mb blk row role D (s.doomed (P ++ [x])) by rw [doomed_open h1]; exact HB.out.turn (x := x) (v := 2) HXI.out (.inr (.inl rfl)))
                have hmt : Mod (fun g => g = blk x) wc (wc.setCell ⟨blk x, 0, none⟩ (.int .i64 2)) := Mod.setCell (F := fun g => g = blk x) (Mod.refl _ wc) (p := ⟨blk x, 0, none⟩) (.inl rfl) _
                have hrx : role (blk x) ≠ .none := by rw [HB.out.rn x HXI.out]; simp
                have HW2 := Lib.hid (HW1.out.other HLT.out hmt (fun g hg => by rw [hg]; exact hrx))
                have HR2 := Lib.hid (HW2.out.o)
                have HOO := Lib.hid (outOf_open (P := P) h1)
                have hrl : (s.outOf P).length + 1 ≤ 1099511627776 := by omega
                clear hmt h1 hrx
                go_wp2_with (at_builtin; refine walk_append (zero := .int .i64 0) (base := 0) (n := (s.outOf P).length) (m := 1) (xs := (s.outOf P).map (Value.int .i64)) (ys := [.int .i64 x]) rfl (.tmp 35) (.tmp 37) rfl Try.underlying25 info_int rfl Nat.zero_lt_one (Nat.le_of_ble_eq_true rfl) rfl (World.ownsRow.alloc HR2.out _) rfl (SrcAt.one (blk_at (by simp))) (ints_one .i64 [_]) hrl (Nat.zero_le _) ?_)
                intro v' w5 hA
                have HW5 := Lib.hid (HW2.out.out ((Mod.refl _ _).alloc _) hA)
                have HB5 := Lib.hid (HB2.out.mod (((Mod.refl (fun g => (Value.slice oa (s.outOf P).length oc).ownBlock = some g) _).alloc _).trans (hA.mod (fun _ h => h))) (fun g hg ho => by have := HW2.out.on g ho; have := HLT.out g hg; omega))
                clear hA HW2 HB2 HR2
                go_wp2_with fail
                go_meet
                case rel => exact ⟨HB5, by rw [HOO.out]; exact HW5⟩
              · have hb1 : (s.st x == 1) = false := by simpa using h1
                have HB5 := Lib.hid (show BA wc b mb blk row role D (s.doomed (P ++ [x])) by rw [doomed_shut h1]; exact HB.out)
                have HW5 := Lib.hid (show DW w wc role u6 (.slice oa (s.outOf P).length oc) T0 (s.outOf (P ++ [x])) by rw [outOf_shut h1]; exact HW1.out)
                clear h1
                go_wp2_with fail
                go_meet
                case rel => exact ⟨HB5, HW5⟩
          case rest =>
            as_aux_lemma =>
              obtain ⟨HB2, HW2⟩ := hcut
              have hpl2 := HP.out.len
              have HDI := Lib.hid (HP.out.weak (left' := fun u => Go.Maps.has D (.int .i64 u)) (fun u hu hf => by rw [(HB2.out.is u).1] at hf; exact absurd hu (of_decide_eq_false hf)))
              have hxP' : x ∈ P ++ [x] := by simp
              have hPl : (P ++ [x]).length = P.length + 1 := by simp
              generalize P ++ [x] = P' at *
              have HPL := Lib.hid hPl
              have HXP := Lib.hid hxP'
              have c0' := HB2.out.top0
              have HIS := Lib.hid HB2.out.is
              have hmap := HB2.out.map
              have HMAP := Lib.hid hmap
              clear hxP' hmap HP HB HW1 hl c1 hfz hol c0 HXI
              go_wp2_with (at_range; refine wpList_range_own _ rfl _ _ rfl 3 85 bond_key Try.underlying82 nodeElem mb s.ids.length D rfl HMAP.out ?_)
              intro w0 hrg0 hg0 hs0
              have hm0 : Mod (fun _ => False) wc w0 := Mod.of_grown hg0 (fun k hk => by cases hk)
              have HB3 := Lib.hid (HB2.out.mod hm0 (fun _ _ h => h))
              have HW3 := Lib.hid (HW2.out.other HLT.out hm0 (fun _ h => h.elim))
              have HRG := Lib.hid hrg0
              have hr0 : w.heap.size ≤ wc.heap.size := HW2.out.mod.size
              have hq0 : u6.ownBlock ≠ some wc.heap.size := fun e => by have := HW2.out.q.lt _ e; omega
              have ho0 : u5.ownBlock ≠ some wc.heap.size := fun e => by have := HW2.out.o.lt _ e; omega
              have HQ0 := Lib.hid hq0
              have HO0 := Lib.hid ho0
              have HR0 := Lib.hid hr0
              clear hrg0 hg0 hs0 hm0 HMAP HB2 HW2 hq0 ho0 hr0 c0'
              generalize wc.heap.size = r at *
              obtain ⟨M, hM⟩ : ∃ M : Nat, M = gk := ⟨_, rfl⟩
              rw [← hM] at hkx
              go_wp2_with fail
              go_loopg [6] (Go.Maps.size D) (fun kx qv wr => ∃ T left cnt, Hid (DI s a P' T x (fun u => left (.int .i64 u))) ∧ Hid (BA wr b mb blk row role D (s.doomed P')) ∧ Hid (DW w wr role qv u5 T (s.outOf P')) ∧ Hid (wr.ranges Try.prog 3 nodeElem mb r s.ids.length D left cnt) ∧ Hid (qv.ownBlock ≠ some r) ∧ cnt ≤ kx ∧ 2 * (s.ids.length - (P'.length + T.length)) + T.length < M)
              case atStart => exact ⟨T0, _, _, HDI, HB3, HW3, HRG, HQ0, Nat.le_refl _, by omega⟩
              case round =>
                obtain ⟨T, left, cnt, HI, HBi, HWi, HRi, HQr, hck, hm⟩ := hrel
                clear HDI HB3 HW3 HRG HQ0
                go_wp2_with (at_next; refine next_nodes _ rfl _ rfl rfl HRi.out HIS.out ?_ ?_)
                · intro _ hl0
                  have HE := Lib.hid (HI.out.weak (left' := fun _ => false) (fun u _ _ => hl0 _))
                  clear hl0
                  go_wp2_with fail
                  go_roundg (2 * (s.ids.length - (P'.length + T.length)) + T.length)
                  case rel => exact ⟨P', T, x, HE, HBi, HWi, Nat.le_refl _⟩
                  case measure => omega
                · intro y w1 cnt1 hy _ hrg1 hlt hm1 hen
                  have HB1 := Lib.hid (HBi.out.mod hm1 (fun g hg e => by have := HLT.out g hg; have := HR0.out; omega))
                  have HW1 := Lib.hid (HWi.out.aside hm1 HR0.out HQr.out HO0.out)
                  have HR1 := Lib.hid hrg1
                  have HY := Lib.hid hy
                  have cy0 := HB1.out.node0 hy
                  have cy1 := HB1.out.node1 hy
                  have hrow : Owned .i64 3 w1 (row y) (s.on y) := HB1.out.rows y hy
                  obtain ⟨ra, rc, hrv, -, -, -⟩ := hrow.form
                  rw [hrv] at cy1 hrow
                  have hPT := HI.out.len
                  clear hrg1 hy hm1 HBi HWi HRi
                  by_cases h1 : (s.doomed P').st y = 1
                  · have hst := doomed_st.1 h1
                    rw [h1] at cy0
                    have hc1 := contains_any (Owned.row hrow) x
                    by_cases hx : x ∈ s.on y
                    · have hc2 := contains_any HW1.out.q.row y
                      simp only [hx, decide_true] at hc1
                      have HC1 := Lib.hid hc1
                      by_cases hyT : y ∈ T
                      · simp only [hyT, decide_true] at hc2
                        have HC2 := Lib.hid hc2
                        have HDN := Lib.hid (HI.out.skip (y := y) (left' := fun u => left (.int .i64 u) && !(Lit.int .i64 u).sameKey (.int .i64 y)) (fun u hu => struck_int hu) (fun _ _ => List.mem_append_right _ hyT))
                        clear hc1 hc2 hst h1 hx hyT hrow hrv
                        go_wp2_with (first | (go_at_call 48; refine HC1.out.mono ?_; rintro e w' ⟨rfl, rfl⟩) | (go_at_call 48; refine HC2.out.mono ?_; rintro e w' ⟨rfl, rfl⟩))
                        go_roundg cnt1
                        case rel => exact ⟨T, (fun z => left z && !z.sameKey (.int .i64 y)), cnt1, HDN, HB1, HW1, HR1, HQr, Nat.le_refl _, hm⟩
                        case measure => omega
                      · simp only [hyT, decide_false] at hc2
                        have HC2 := Lib.hid hc2
                        have HDN := Lib.hid (HI.out.push (y := y) (left' := fun u => left (.int .i64 u) && !(Lit.int .i64 u).sameKey (.int .i64 y)) (fun u hu => struck_int hu) HXP.out HY.out hst.1 hx (fun hm => by rcases List.mem_append.1 hm with h | h; exact hst.2 h; exact hyT h))
                        have hTl : T.length ≤ 1000000 := by omega
                        have hPT2 := HDN.out.len
                        simp only [List.length_append, List.length_singleton] at hPT2
                        clear hc1 hc2 hst h1 hx hyT hrow hrv
                        go_wp2_with (first | (go_at_call 48; refine HC1.out.mono ?_; rintro e w' ⟨rfl, rfl⟩) | (go_at_call 48; refine HC2.out.mono ?_; rintro e w' ⟨rfl, rfl⟩) | (at_builtin; refine walk_push rfl (.tmp 68) (.tmp 70) rfl rfl rfl (HW1.out.q.mod ((Mod.refl (fun _ => False) _).alloc _) (fun _ _ h => h)) (blk_at rfl) hTl ?_))
                        intro v' w5 hP
                        have hm5 : Mod (fun g => u6.ownBlock = some g) w1 w5 := ((Mod.refl (fun g => u6.ownBlock = some g) _).alloc _).trans (Mod.of_grown hP.grown (fun k hk => .inl hk))
                        have HW5 := Lib.hid (HW1.out.push ((Mod.refl _ _).alloc _) hP)
                        have HB5 := Lib.hid (HB1.out.mod hm5 (fun g hg e => by have := HW1.out.qn g e; have := HLT.out g hg; omega))
                        have HR5 := Lib.hid (ranges_mod HR1.out hm5 (fun e => by have := HW1.out.qn mb e; have := HLT.out mb (by rw [HB1.out.rm]; simp); omega) HQr.out)
                        have HQ5 := Lib.hid (show v'.ownBlock ≠ some r from fun e => by
                          rcases hP.lies r e with e2 | e2
                          · exact HQr.out e2
                          · have := HR1.out.lt
                            simp at e2
                            omega)
                        clear hP hm5 HW1 HB1 HR1 HQr HC1 HC2
                        go_wp2_with fail
                        go_roundg cnt1
                        case rel => exact ⟨T ++ [y], (fun z => left z && !z.sameKey (.int .i64 y)), cnt1, HDN, HB5, HW5, HR5, HQ5, Nat.le_refl _, by simp only [List.length_append, List.length_singleton]; omega⟩
                        case measure => omega
                    · simp only [hx, decide_false] at hc1
                      have HC1 := Lib.hid hc1
                      have HDN := Lib.hid (HI.out.skip (y := y) (left' := fun u => left (.int .i64 u) && !(Lit.int .i64 u).sameKey (.int .i64 y)) (fun u hu => struck_int hu) (fun _ h2 => absurd h2 hx))
                      clear hc1 hst h1 hx hrow hrv
                      go_wp2_with (go_at_call 48; refine HC1.out.mono ?_; rintro e w' ⟨rfl, rfl⟩)
                      go_roundg cnt1
                      case rel => exact ⟨T, (fun z => left z && !z.sameKey (.int .i64 y)), cnt1, HDN, HB1, HW1, HR1, HQr, Nat.le_refl _, hm⟩
                      case measure => omega
                  · have hb1 : ((s.doomed P').st y == 1) = false := by simpa using h1
                    have HDN := Lib.hid (HI.out.skip (y := y) (left' := fun u => left (.int .i64 u) && !(Lit.int .i64 u).sameKey (.int .i64 y)) (fun u hu => struck_int hu) (fun h2 _ => List.mem_append_left _ (Decidable.byContradiction fun hn => h1 (doomed_st.2 ⟨h2, hn⟩))))
                    clear h1 hrow hrv
                    go_wp2_with fail
                    go_roundg cnt1
                    case rel => exact ⟨T, (fun z => left z && !z.sameKey (.int .i64 y)), cnt1, HDN, HB1, HW1, HR1, HQr, Nat.le_refl _, hm⟩
                    case measure => omega
end Go.Proofs.Ytbihfjehlbaahaa
