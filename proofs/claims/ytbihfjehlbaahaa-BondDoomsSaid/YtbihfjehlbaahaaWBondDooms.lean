/- BondDooms holds: whoever is bound, by however many others between, to one that ends badly is doomed; nobody else is. No condition. -/
import Derived.Test.YtbihfjehlbaahaaJL
namespace Go.Proofs.Ytbihfjehlbaahaa
open Go.RowKit Go.ChangeShapes

set_option maxRecDepth 100000 in
set_option maxHeartbeats 12800000 in
theorem bondDooms_walk {a0 a3 : Int} {fa ta : Option Addr} {fl fc tl tc : Nat} {l1 l2 : List Int} {w : World} (_w0 : (Lit.int .i64 a0).wf = true) (n1 : l1.length = fl) (r1 : RowAt .i64 w (.slice fa fl fc) l1) (_w1 : ∀ x ∈ l1, (Lit.int .i64 x).wf = true)
    (n2 : l2.length = tl) (r2 : RowAt .i64 w (.slice ta tl tc) l2) (_w2 : ∀ x ∈ l2, (Lit.int .i64 x).wf = true) (_w3 : (Lit.int .i64 a3).wf = true) :
    Calls Try.prog 6 #[.int .i64 a0, .slice fa fl fc, .slice ta tl tc, .int .i64 a3] w fun e w' => e = .returned (.bool true) ∧ Below w.heap.size w w' := by
  subst n1 n2
  have m0 := i64_and255 a0
  have m3 := i64_and255 a3
  obtain ⟨x, hx, hx2⟩ : ∃ x : Nat, a0 % 256 = x ∧ x < 256 := ⟨(a0 % 256).toNat, by omega, by omega⟩
  obtain ⟨z, hz, hz2⟩ : ∃ z : Nat, a3 % 256 = z ∧ z < 256 := ⟨(a3 % 256).toNat, by omega, by omega⟩
  rw [hx] at m0
  rw [hz] at m3
  clear hx hz _w0 _w1 _w2 _w3
  obtain ⟨_, _, hr1, k1, j1⟩ := r1.form
  obtain ⟨_, _, hr2, k2, j2⟩ := r2.form
  unfold maxLen at k1 k2
  have R1 := Lib.hid r1
  have R2 := Lib.hid r2
  have J1 := Lib.hid (show ∀ i, i < l1.length → ∃ g o, fa = some ⟨g, o, none⟩ by simp only [Value.slice.injEq] at hr1; rw [hr1.1]; exact j1)
  have J2 := Lib.hid (show ∀ i, i < l2.length → ∃ g o, ta = some ⟨g, o, none⟩ by simp only [Value.slice.injEq] at hr2; rw [hr2.1]; exact j2)
  have HN := Lib.hid (bs_new (Sep.nil w))
  obtain ⟨n, hn, n1, n2⟩ : ∃ n : Nat, ((n : Int) = (x : Int) % 29 + 2) ∧ 2 ≤ n ∧ n ≤ 30 := ⟨x % 29 + 2, by omega, by omega, by omega⟩
  have hn0 : ((n : Int) == 0) = false := by simp; omega
  have hqz : (z : Int) % n = ((z % n : Nat) : Int) := by simp
  obtain ⟨a, ha, a1, a2⟩ : ∃ a : Nat, wrap64 ((z : Int) % n + 1) = a ∧ 1 ≤ a ∧ a ≤ n := ⟨z % n + 1, by have := Nat.mod_lt z (show 0 < n by omega); rw [hqz]; unfold wrap64; omega, by omega, by have := Nat.mod_lt z (show 0 < n by omega); omega⟩
  have HNN := Lib.hid hn
  have HA := Lib.hid ha
  have HAL := Lib.hid alloc_need
  have HAH := Lib.hid alloc_hit
  clear hn ha hqz r1 r2 hr1 hr2 j1 j2
  go_enter Try.func6, Try.ntmps6
  go_upto_region 2 with fail
  rw [← HNN.out]
  go_upto_region 3 with fail
  rw [HA.out]
  clear m0 m3 HNN HA hx2 hz2 hn0
  go_wp2_with fail
  refine HN.out.mono ?_
  rintro e w1 ⟨b, F, rfl, hW⟩
  have H1 := Lib.hid hW
  clear hW HN
  go_wp2_with fail
  go_loopg [10] n (fun kx iv wr => ∃ (k : Nat) (F : Nat → Prop) (s : Bs), iv = .int .i64 ((k : Int) + 1) ∧ k ≤ n ∧ n - k ≤ kx ∧ Hid (Sep w wr [obBonds b F s]) ∧ Hid (Sts s k (fun _ => 1) (fun _ => [])))
  case atStart => exact ⟨0, F, Bs.new, rfl, Nat.zero_le _, by omega, H1, Lib.hid Sts.new⟩
  case round =>
    obtain ⟨k, F2, s, rfl, hk, hkx, HW, HS⟩ := hrel
    clear H1
    by_cases hlt : k < n
    · have p1 : (k : Int) + 1 ≤ (n : Int) := by omega
      have HO := Lib.hid (bs_next HW.out HS.out (by omega))
      clear HW HS HAL HAH
      go_wp2_with fail
      refine HO.out.mono ?_
      rintro e w3 ⟨F3, s3, rfl, hW, hS⟩
      have H3 := Lib.hid hW
      have HS3 := Lib.hid (open_next hS)
      clear hW hS HO
      go_wp2_with fail
      go_roundg (n - (k + 1))
      case rel => exact ⟨k + 1, F3, s3, by go_num, by omega, by omega, H3, HS3⟩
      case measure => omega
    · obtain rfl : k = n := by omega
      have p1 : ¬ (k : Int) + 1 ≤ (k : Int) := by omega
      have HND := Lib.hid (need_new HS.out)
      have HWA := Lib.hid (HW.out.bools 1024 35)
      clear HS hk hkx hlt
      have hal := HAL.out
      go_wp2_with fail
      clear hal HAL
      generalize hg1 : wr.heap.size = g1 at *
      clear hg1 HW
      go_loopg [12] 100 (fun kx iv wx => ∃ (i : Nat) (F : Nat → Prop) (s : Bs) (N : List Bool), iv = .int .i64 (i : Int) ∧ i ≤ 100 ∧ 100 - i ≤ kx ∧ Hid (Sep w wx [obBools g1 N 35, obBonds b F s]) ∧ Hid (Need s k N))
      case atStart => exact ⟨0, F2, s, List.replicate 1024 false, rfl, by omega, by omega, HWA, HND⟩
      case round =>
        obtain ⟨i, F3, s3, N, rfl, hi, hix, H3, HN3⟩ := hrel
        clear HWA HND
        have q0 : (0 : Int) ≤ (i : Int) := by omega
        go_upto_region 13 with fail
        go_cut [57] (fun s57 wx => s57 = .bool (decide (i < l1.length ∧ i < l2.length ∧ i < 100)) ∧ wx = wr)
        case first =>
          as_aux_lemma =>
            by_cases e1 : i < l1.length
            · have p1 : (i : Int) < (l1.length : Int) := by omega
              by_cases e2 : i < l2.length
              · have p2 : (i : Int) < (l2.length : Int) := by omega
                by_cases e3 : i < 100
                · have p3 : (i : Int) < 100 := by omega
                  have HD := Lib.hid (decide_eq_true (And.intro e1 (And.intro e2 e3)))
                  clear e1 e2 e3
                  go_wp2_with fail
                  go_meet
                  case rel => exact ⟨by rw [HD.out]; try rfl, rfl⟩
                · have p3 : ¬ (i : Int) < 100 := by omega
                  have HD := Lib.hid (decide_eq_false (fun h : i < l1.length ∧ i < l2.length ∧ i < 100 => e3 h.2.2))
                  clear e1 e2 e3
                  go_wp2_with fail
                  go_meet
                  case rel => exact ⟨by rw [HD.out]; try rfl, rfl⟩
              · have p2 : ¬ (i : Int) < (l2.length : Int) := by omega
                have HD := Lib.hid (decide_eq_false (fun h : i < l1.length ∧ i < l2.length ∧ i < 100 => e2 h.2.1))
                clear e1 e2
                go_wp2_with fail
                go_meet
                case rel => exact ⟨by rw [HD.out]; try rfl, rfl⟩
            · have p1 : ¬ (i : Int) < (l1.length : Int) := by omega
              have HD := Lib.hid (decide_eq_false (fun h : i < l1.length ∧ i < l2.length ∧ i < 100 => e1 h.1))
              clear e1
              go_wp2_with fail
              go_meet
              case rel => exact ⟨by rw [HD.out]; try rfl, rfl⟩
        case rest =>
         as_aux_lemma =>
          obtain ⟨rfl, rfl⟩ := hcut
          by_cases hin : i < l1.length ∧ i < l2.length ∧ i < 100
          · rw [decide_eq_true hin]
            obtain ⟨e1, e2, e3⟩ := hin
            have p1 : (i : Int) < (l1.length : Int) := by omega
            have p2 : (i : Int) < (l2.length : Int) := by omega
            have hbl := H3.out.bel
            obtain ⟨ga, oa, rfl⟩ := J1.out i e1
            obtain ⟨gb, ob, rfl⟩ := J2.out i e2
            have d1 := (R1.out.later hbl).at_ e1
            have d2 := (R2.out.later hbl).at_ e2
            have m1 := i64_and255 (l1.getD i 0)
            have m2 := i64_and255 (l2.getD i 0)
            obtain ⟨p, hp, hp2⟩ : ∃ p : Nat, l1.getD i 0 % 256 = p ∧ p < 256 := ⟨(l1.getD i 0 % 256).toNat, by omega, by omega⟩
            obtain ⟨q, hq, hq2⟩ : ∃ q : Nat, l2.getD i 0 % 256 = q ∧ q < 256 := ⟨(l2.getD i 0 % 256).toNat, by omega, by omega⟩
            rw [hp] at m1
            rw [hq] at m2
            have hk0 : ((k : Int) == 0) = false := by simp; omega
            have hqp : (p : Int) % k = ((p % k : Nat) : Int) := by simp
            have hqq : (q : Int) % k = ((q % k : Nat) : Int) := by simp
            obtain ⟨xx, hx, x1, x2⟩ : ∃ a : Nat, wrap64 ((p : Int) % k + 1) = a ∧ 1 ≤ a ∧ a ≤ k := ⟨p % k + 1, by have := Nat.mod_lt p (show 0 < k by omega); rw [hqp]; unfold wrap64; omega, by omega, by have := Nat.mod_lt p (show 0 < k by omega); omega⟩
            obtain ⟨yy, hy, y1, y2⟩ : ∃ a : Nat, wrap64 ((q : Int) % k + 1) = a ∧ 1 ≤ a ∧ a ≤ k := ⟨q % k + 1, by have := Nat.mod_lt q (show 0 < k by omega); rw [hqq]; unfold wrap64; omega, by omega, by have := Nat.mod_lt q (show 0 < k by omega); omega⟩
            have HX := Lib.hid hx
            have HY := Lib.hid hy
            have HSD := Lib.hid (fun n => H3.out.still ((Mod.refl (fun _ => False) wc).drewN n))
            generalize l1.getD i 0 = f1 at *
            generalize l2.getD i 0 = f2 at *
            clear hp hq hqp hqq hx hy hbl H3 HAH
            go_upto_region 15 with fail
            go_quiet (fail)
            rw [HX.out, HY.out]
            have H4 := Lib.hid (HSD.out nq)
            generalize wc.drewN nq = wq at *
            clear HSD d1 d2 m1 m2 hk0 HX HY hp2 hq2
            by_cases hyx : yy < xx
            · have p3 : ¬ (xx : Int) ≤ (yy : Int) := by omega
              have HB := Lib.hid ((bs_bind H4.out.swap (id := (xx : Int)) (tz := (yy : Int)) (wf_int (by omega) (by omega)) (wf_int (by omega) (by omega))).mono (fun e w' (h : ∃ F' c t, _) => (by
                obtain ⟨F', c, t, he, hb, hS⟩ := h
                obtain ⟨rfl, hN⟩ := need_bind HN3.out n2 y1 hyx x2 hb
                exact ⟨F', t, he, hS.swap, hN⟩ : ∃ F' t, e = .returned (.int .i64 0) ∧ Sep w w' [obBools g1 N 35, obBonds b F' t] ∧ Need t k (N.set (xx * 32 + yy) true))))
              have HLN := Lib.hid HN3.out.len
              clear H4 HN3
              go_wp2_with fail
              refine HB.out.mono ?_
              rintro e w5 ⟨F5, s5, rfl, hW, hN⟩
              have H5 := Lib.hid hW
              have HN5 := Lib.hid hN
              have c5 := hW.bools_at (i := xx * 32 + yy) (by rw [HLN.out]; omega)
              have z5 := blk_free hW.head (xx * 32 + yy)
              have b1 : (xx : Int) < 32 := by omega
              have b2 : (yy : Int) < 32 := by omega
              have b3 : (0 : Int) ≤ (xx : Int) := by omega
              have b4 : (0 : Int) ≤ (yy : Int) := by omega
              clear hW hN HB
              have H6 := Lib.hid (H5.out.bools_set (xx * 32 + yy) true)
              go_wp2_with fail
              go_roundg (100 - (i + 1))
              case rel => exact ⟨i + 1, F5, s5, N.set (xx * 32 + yy) true, by go_num, by omega, by omega, H6, HN5⟩
              case measure => omega
            · have p3 : (xx : Int) ≤ (yy : Int) := by omega
              go_wp2_with fail
              go_roundg (100 - (i + 1))
              case rel => exact ⟨i + 1, F3, s3, N, by go_num, by omega, by omega, H4, HN3⟩
              case measure => omega
          · rw [decide_eq_false hin]
            clear hin hi hix q0 J1 J2 R1 R2
            have hah := HAH.out
            have hwh := H3.out.bools 32 34
            clear H3 HAH
            go_upto_region 21 with fail
            rw [show (#[.bool false, .bool false, .bool false, .bool false, .bool false, .bool false, .bool false, .bool false, .bool false, .bool false, .bool false, .bool false, .bool false, .bool false, .bool false, .bool false, .bool false, .bool false, .bool false, .bool false, .bool false, .bool false, .bool false, .bool false, .bool false, .bool false, .bool false, .bool false, .bool false, .bool false, .bool false, .bool false] : Array Value) = boolCells (List.replicate 32 false) from rfl]
            generalize wc.alloc (.cells (boolCells (List.replicate 32 false)) 34) = wa at *
            generalize wc.heap.size = g2 at *
            have c1 := hwh.bools_at (i := a) (by simp; omega)
            have z1 := blk_free hwh.head a
            have b1 : (a : Int) < 32 := by omega
            have b2 : (0 : Int) ≤ (a : Int) := by omega
            have H7 := Lib.hid ((hwh.bools_set a true).row_nil .i64 3)
            have HI7 := Lib.hid (Hit.start HN3.out n2 a1 a2)
            have HWT := Lib.hid (show Wanted s3 a (a + 1) [] from ⟨List.Pairwise.nil, fun y => ⟨fun h => by simp at h, fun h => by omega⟩⟩)
            clear hwh hah
            go_wp2_with fail
            clear c1 z1
            generalize wa.setCell ⟨g2, a, none⟩ (.bool true) = wd at *
            generalize (List.replicate 32 false).set a true = H0 at *
            go_loopg [16, 17] k (fun kx wv iv wx => ∃ (i : Nat) (W : List Int) (H : List Bool), iv = .int .i64 (i : Int) ∧ a + 1 ≤ i ∧ i ≤ k + 1 ∧ k + 1 - i ≤ kx ∧ Hid (Sep w wx [obRow .i64 3 wv W, obBools g2 H 34, obBools g1 N 35, obBonds b F3 s3]) ∧ Hid (Hit s3 k a i H) ∧ Hid (Wanted s3 a i W))
            case atStart => exact ⟨a + 1, [], H0, by simp, Nat.le_refl _, by omega, by omega, H7, HI7, HWT⟩
            case round =>
              obtain ⟨i, W, H, rfl, hi1, hi2, hix, HWi, HHi, HTi⟩ := hrel
              clear H7 HI7 HWT
              by_cases hik : i ≤ k
              · have p3 : (i : Int) ≤ (k : Int) := by omega
                have HKi := Lib.hid HHi.out.enter
                obtain ⟨M, hM⟩ : ∃ M : Nat, M = gk := ⟨_, rfl⟩
                rw [← hM] at hix
                clear HHi
                go_wp2_with fail
                go_loopg [18] i (fun kx jv wx => ∃ (j : Nat) (H : List Bool), jv = .int .i64 (j : Int) ∧ 1 ≤ j ∧ j ≤ i ∧ i - j ≤ kx ∧ Hid (Sep w wx [obRow .i64 3 u16 W, obBools g2 H 34, obBools g1 N 35, obBonds b F3 s3]) ∧ Hid (HitK s3 k a i j H))
                case atStart => exact ⟨1, H, rfl, Nat.le_refl _, by omega, by omega, HWi, HKi⟩
                case round =>
                  obtain ⟨j, H, rfl, hj1, hj2, hjx, HWj, HKj⟩ := hrel
                  clear HWi HKi
                  by_cases hji : j < i
                  · have p4 : (j : Int) < (i : Int) := by omega
                    have ci := HWj.out.swap.bools_at (i := i) (by rw [HKj.out.len]; omega)
                    have cj := HWj.out.swap.bools_at (i := j) (by rw [HKj.out.len]; omega)
                    have cn := HWj.out.bring3.bools_at (i := i * 32 + j) (by rw [HN3.out.len]; omega)
                    have zi := blk_free HWj.out.second i
                    have HKn := Lib.hid (HKj.out.step HN3.out n2 hik hj1 hji)
                    have HST := Lib.hid (fun v => (HWj.out.swap.bools_set i v).swap)
                    have b3 : (i : Int) < 32 := by omega
                    have b4 : (0 : Int) ≤ (i : Int) := by omega
                    have b5 : (j : Int) < 32 := by omega
                    have b6 : (0 : Int) ≤ (j : Int) := by omega
                    clear HWj HKj
                    generalize H.getD i false = bi at *
                    generalize H.getD j false = bj at *
                    generalize N.getD (i * 32 + j) false = bn at *
                    rcases Bool.eq_false_or_eq_true bi with rfl | rfl
                    · have HS2 := Lib.hid (HST.out true)
                      clear HST
                      go_wp2_with fail
                      go_roundg (i - (j + 1))
                      case rel => exact ⟨j + 1, H.set i true, by go_num, by omega, by omega, by omega, HS2, HKn⟩
                      case measure => omega
                    · rcases Bool.eq_false_or_eq_true bn with rfl | rfl
                      · rcases Bool.eq_false_or_eq_true bj with rfl | rfl
                        · have HS2 := Lib.hid (HST.out true)
                          clear HST
                          go_wp2_with fail
                          go_roundg (i - (j + 1))
                          case rel => exact ⟨j + 1, H.set i true, by go_num, by omega, by omega, by omega, HS2, HKn⟩
                          case measure => omega
                        · have HS2 := Lib.hid (HST.out false)
                          clear HST
                          go_wp2_with fail
                          go_roundg (i - (j + 1))
                          case rel => exact ⟨j + 1, H.set i false, by go_num, by omega, by omega, by omega, HS2, HKn⟩
                          case measure => omega
                      · have HS2 := Lib.hid (HST.out false)
                        clear HST
                        go_wp2_with fail
                        go_roundg (i - (j + 1))
                        case rel => exact ⟨j + 1, H.set i false, by go_num, by omega, by omega, by omega, HS2, HKn⟩
                        case measure => omega
                  · obtain rfl : j = i := by omega
                    have HHn := Lib.hid (HKj.out.leave HN3.out hik hj1 (by omega))
                    have ci := HWj.out.swap.bools_at (i := j) (by rw [HHn.out.len]; omega)
                    have hdo := HHn.out.done j hj1 (by omega) hik
                    have b3 : (j : Int) < 32 := by omega
                    have b4 : (0 : Int) ≤ (j : Int) := by omega
                    have hWl : W.length ≤ 2000 := by
                      have := nodup_le (S := W) (L := upto k) (HTi.out.1.imp (fun h => by omega)) (fun y hy => by have := (HTi.out.2 y).1 hy; exact mem_upto.2 (by omega))
                      rw [upto_len] at this
                      omega
                    clear HKj hjx hji hj2
                    generalize H.getD j false = bi at *
                    rcases Bool.eq_false_or_eq_true bi with rfl | rfl
                    · have HTn := Lib.hid (HTi.out.yes (hdo.1 rfl) (by omega))
                      have HR := Lib.hid (HWj.out.head : Owned .i64 3 wr u16 W)
                      have hrl : W.length + 1 ≤ 1099511627776 := by omega
                      clear hdo HTi
                      go_wp2_with (at_builtin; refine walk_append (zero := .int .i64 0) (base := 0) (n := W.length) (m := 1) (xs := W.map (Value.int .i64)) (ys := [.int .i64 (j : Int)]) rfl (.tmp 122) (.tmp 124) rfl Try.underlying25 info_int rfl Nat.zero_lt_one (Nat.le_of_ble_eq_true rfl) rfl (World.ownsRow.alloc HR.out _) rfl (SrcAt.one (blk_at (by simp))) (ints_one .i64 [_]) hrl (Nat.zero_le _) ?_)
                      intro v' w5 hA
                      have HW5 := Lib.hid (HWj.out.append (ys := [(j : Int)]) ((Mod.refl _ _).alloc _) hA rfl rfl)
                      clear hA HR HWj
                      go_wp2_with fail
                      go_roundg (k + 1 - (j + 1))
                      case rel => exact ⟨j + 1, W ++ [(j : Int)], H, by go_num, by omega, by omega, by omega, HW5, HHn, HTn⟩
                      case measure => omega
                    · have HTn := Lib.hid (HTi.out.no (fun hd => by have := hdo.2 hd; simp at this))
                      clear hdo HTi
                      go_wp2_with fail
                      go_roundg (k + 1 - (j + 1))
                      case rel => exact ⟨j + 1, W, H, by go_num, by omega, by omega, by omega, HWj, HHn, HTn⟩
                      case measure => omega
              · obtain rfl : i = k + 1 := by omega
                have p3 : ¬ ((k + 1 : Nat) : Int) ≤ (k : Int) := by omega
                have hma := HN3.out.sts.mem (x := (a : Int)) (by omega) (by omega)
                have HBD := Lib.hid (bs_bad_yes HWi.out.bring4 (id := (a : Int)) (wf_int (by omega) (by omega)) hma (.inl (HN3.out.st _ (by omega) (by omega))))
                have hids : ∀ y, Doom s3 a y → y ∈ s3.ids := fun y hy => by
                  cases hy with
                  | self => exact hma
                  | step _ h _ _ => exact h
                have HLW := Lib.hid (show ∀ l, Rise l (fun y => Doom s3 a y ∧ s3.st y = 1 ∧ y ≠ a) → l = W from fun l hl => hl.eq HTi.out (fun y => by
                  constructor
                  · rintro ⟨h1, _, h3⟩
                    have := HN3.out.sts.le (hids y h1)
                    have := doom_above (fun x hx z hz => (HN3.out.lesser x hx z hz).1) h1
                    exact ⟨h1, by omega, by omega⟩
                  · rintro ⟨h1, h2, h3⟩
                    exact ⟨h1, HN3.out.st y (by omega) (by omega), by omega⟩))
                have HFS := Lib.hid (show ∀ P, (∀ y, y ∈ P ↔ Doom s3 a y) → ∀ y : Nat, 1 ≤ y → y ≤ k → ((s3.doomed P).turn a 4).stOf y = if y = a then 4 else if H.getD y false = true then 2 else 1 from fun P hP y h1 h2 => by
                  rw [((HN3.out.sts.doomed P).turn a 4).stOf (by omega) (by omega)]
                  by_cases e : y = a
                  · rw [if_pos e, if_pos (by omega)]
                  · rw [if_neg e, if_neg (by omega)]
                    by_cases h : H.getD y false = true
                    · rw [if_pos h, if_pos ⟨(hP _).2 ((HHi.out.done y h1 (by omega) h2).1 h), rfl⟩]
                    · rw [if_neg h, if_neg (fun g => h ((HHi.out.done y h1 (by omega) h2).2 ((hP _).1 g.1)))])
                have HLH := Lib.hid HHi.out.len
                clear hma hids HWi HHi HTi hik hi1 hi2 hix
                go_wp2_with fail
                refine HBD.out.mono ?_
                rintro e w4 ⟨v, l, P, rfl, hP, hr, hW⟩
                obtain rfl := HLW.out l hr
                have HF2 := Lib.hid (HFS.out P hP)
                generalize (s3.doomed P).turn (a : Int) 4 = s4 at *
                have H4 := Lib.hid hW
                clear hP hr hW HBD HLW HFS
                go_wp2_with fail
                refine (same_ints H4.out.read (Owned.row (H4.out.third : Owned .i64 3 w4 u16 _))).mono ?_
                rintro e w5 ⟨rfl, hb5⟩
                have H5 := Lib.hid (H4.out.below hb5)
                rw [decide_eq_true (rfl : l = l)]
                clear hb5 H4
                go_wp2_with fail
                go_loopg [21] (k + 1) (fun kx iv wx => ∃ i : Nat, iv = .int .i64 (i : Int) ∧ 1 ≤ i ∧ i ≤ k + 1 ∧ k + 1 - i ≤ kx ∧ wx = w5)
                case atStart => exact ⟨1, rfl, Nat.le_refl _, by omega, by omega, rfl⟩
                case round =>
                  obtain ⟨i, rfl, hi1, hi2, hix, rfl⟩ := hrel
                  by_cases hik : i ≤ k
                  · have p4 : (i : Int) ≤ (k : Int) := by omega
                    have ci := H5.out.tail.tail.tail.bools_at (i := i) (by rw [HLH.out]; omega)
                    have hf := HF2.out i hi1 hik
                    have hst := bs_state H5.out.tail (id := (i : Int)) (wf_int (by omega) (by omega))
                    rw [hf] at hst
                    have b1 : (i : Int) < 32 := by omega
                    have b2 : (0 : Int) ≤ (i : Int) := by omega
                    generalize H.getD i false = bi at *
                    clear hf
                    by_cases e : i = a
                    · rw [if_pos e] at hst
                      have e1 : ((i : Int) == (a : Int)) = true := by simp; omega
                      have HST := Lib.hid hst
                      clear hst e
                      go_wp2_with fail
                      refine HST.out.mono ?_
                      rintro e w7 ⟨rfl, rfl⟩
                      go_wp2_with fail
                      go_roundg (k + 1 - (i + 1))
                      case rel => exact ⟨i + 1, by go_num, by omega, by omega, by omega, rfl⟩
                      case measure => omega
                    · rw [if_neg e] at hst
                      have e1 : ((i : Int) == (a : Int)) = false := by simp; omega
                      rcases Bool.eq_false_or_eq_true bi with rfl | rfl
                      · rw [if_pos rfl] at hst
                        have HST := Lib.hid hst
                        clear hst e
                        go_wp2_with fail
                        refine HST.out.mono ?_
                        rintro e w7 ⟨rfl, rfl⟩
                        go_wp2_with fail
                        go_roundg (k + 1 - (i + 1))
                        case rel => exact ⟨i + 1, by go_num, by omega, by omega, by omega, rfl⟩
                        case measure => omega
                      · rw [if_neg (by simp)] at hst
                        have HST := Lib.hid hst
                        clear hst e
                        go_wp2_with fail
                        refine HST.out.mono ?_
                        rintro e w7 ⟨rfl, rfl⟩
                        go_wp2_with fail
                        go_roundg (k + 1 - (i + 1))
                        case rel => exact ⟨i + 1, by go_num, by omega, by omega, by omega, rfl⟩
                        case measure => omega
                  · have p4 : ¬ (i : Int) ≤ (k : Int) := by omega
                    have HB8 := Lib.hid H5.out.bel
                    clear H5 HF2
                    go_wp2_with fail
                    refine (awake16_any _).mono ?_
                    rintro e w8 ⟨rfl, hb8⟩
                    have HB9 := Lib.hid hb8
                    clear hb8
                    go_wp2_with fail
                    go_ret
                    exact ⟨rfl, bl_next HB8.out HB9.out⟩
end Go.Proofs.Ytbihfjehlbaahaa
