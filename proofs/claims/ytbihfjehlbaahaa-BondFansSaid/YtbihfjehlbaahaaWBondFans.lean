/- BondFans holds: one for whom many wait sets them all free, or dooms them all; one who waits for many is free with the last of them. No condition. -/
import Derived.Test.YtbihfjehlbaahaaJK
namespace Go.Proofs.Ytbihfjehlbaahaa
open Go.RowKit Go.ChangeShapes

theorem open_next {s : Bs} {k : Nat} (h : Sts s (k + 1) (fun x => if x = (k : Int) + 1 then 1 else 1) (fun x => if x = (k : Int) + 1 then [] else [])) : Sts s (k + 1) (fun _ => 1) (fun _ => []) :=
  h.congr (fun x _ _ => by simp) (fun x _ _ => by simp)

set_option maxRecDepth 100000 in
set_option maxHeartbeats 6400000 in
theorem fans_true {a0 a2 : Int} {w : World} (_w0 : (Lit.int .i64 a0).wf = true) (_w2 : (Lit.int .i64 a2).wf = true) :
    Calls Try.prog 10 #[.int .i64 a0, .bool true, .int .i64 a2] w fun e w' => e = .returned (.bool true) ∧ Below w.heap.size w w' := by
  have m0 := i64_and255 a0
  have m2 := i64_and255 a2
  obtain ⟨x, hx, hx2⟩ : ∃ x : Nat, a0 % 256 = x ∧ x < 256 := ⟨(a0 % 256).toNat, by omega, by omega⟩
  obtain ⟨z, hz, hz2⟩ : ∃ z : Nat, a2 % 256 = z ∧ z < 256 := ⟨(a2 % 256).toNat, by omega, by omega⟩
  rw [hx] at m0
  rw [hz] at m2
  clear hx hz _w0 _w2
  have HN := Lib.hid (bs_new (Sep.nil w))
  obtain ⟨n, hn, n1, n2⟩ : ∃ n : Nat, ((n : Int) = (x : Int) % 60 + 1) ∧ 1 ≤ n ∧ n ≤ 60 := ⟨x % 60 + 1, by omega, by omega, by omega⟩
  have HNN := Lib.hid hn
  have M2 := Lib.hid m2
  clear hn m2
  go_enter Try.func10, Try.ntmps10
  go_upto_region 2 with fail
  rw [← HNN.out]
  clear m0 HNN hx2
  go_wp2_with fail
  refine HN.out.mono ?_
  rintro e w1 ⟨b, F, rfl, hW⟩
  have H1 := Lib.hid (bs_new hW)
  clear hW HN
  go_wp2_with fail
  refine H1.out.mono ?_
  rintro e w2 ⟨d, G, rfl, hW⟩
  have H2 := Lib.hid hW.swap
  clear hW H1
  go_wp2_with fail
  go_loopg [9] (n + 1) (fun kx iv wr => ∃ (k : Nat) (F G : Nat → Prop) (s t : Bs), iv = .int .i64 ((k : Int) + 1) ∧ k ≤ n + 1 ∧ n + 1 - k ≤ kx ∧ Hid (Sep w wr [obBonds b F s, obBonds d G t]) ∧ Hid (Sts s k (fun _ => 1) (fun _ => []) ∧ Sts t k (fun _ => 1) (fun _ => [])))
  case atStart => exact ⟨0, F, G, Bs.new, Bs.new, rfl, Nat.zero_le _, by omega, H2, Lib.hid ⟨Sts.new, Sts.new⟩⟩
  case round =>
    obtain ⟨k, F2, G2, s, t, rfl, hk, hkx, HW, HS⟩ := hrel
    clear H2
    by_cases hlt : k < n + 1
    · have p1 : (k : Int) + 1 ≤ (n : Int) + 1 := by omega
      have HO := Lib.hid (bs_next HW.out HS.out.1 (by omega))
      clear HW
      go_wp2_with fail
      refine HO.out.mono ?_
      rintro e w3 ⟨F3, s3, rfl, hW, hS⟩
      have HO2 := Lib.hid (bs_next hW.swap HS.out.2 (by omega))
      have HS3 := Lib.hid (open_next hS)
      clear hW hS HO HS
      go_wp2_with fail
      refine HO2.out.mono ?_
      rintro e w4 ⟨G3, t3, rfl, hW, hS⟩
      have H4 := Lib.hid hW.swap
      have HS4 := Lib.hid (And.intro HS3.out (open_next hS))
      clear hW hS HO2 HS3
      go_wp2_with fail
      go_roundg (n + 1 - (k + 1))
      case rel => exact ⟨k + 1, F3, G3, s3, t3, by go_num, by omega, by omega, H4, HS4⟩
      case measure => omega
    · obtain rfl : k = n + 1 := by omega
      have p1 : ¬ ((n + 1 : Nat) : Int) + 1 ≤ (n : Int) + 1 := by omega
      have HS2 := Lib.hid (And.intro (HS.out.1.congr (on' := fanB 0) (fun _ _ _ => rfl) (fun x h1 h2 => by unfold fanB; rw [if_neg (by omega)])) (HS.out.2.congr (on' := fanD 0) (fun _ _ _ => rfl) (fun x h1 h2 => by unfold fanD; split <;> rfl)))
      clear HS hk hkx hlt
      go_wp2_with fail
      go_loopg [10] n (fun kx iv wr => ∃ (j : Nat) (F G : Nat → Prop) (s t : Bs), iv = .int .i64 ((j : Int) + 2) ∧ j ≤ n ∧ n - j ≤ kx ∧ Hid (Sep w wr [obBonds b F s, obBonds d G t]) ∧ Hid (Sts s (n + 1) (fun _ => 1) (fanB j) ∧ Sts t (n + 1) (fun _ => 1) (fanD j)))
      case atStart => exact ⟨0, F2, G2, s, t, rfl, Nat.zero_le _, by omega, HW, HS2⟩
      case round =>
        obtain ⟨j, F3, G3, s3, t3, rfl, hj, hjx, H3, HS3⟩ := hrel
        clear HW HS2
        by_cases hjt : j < n
        · have p2 : (j : Int) + 2 ≤ (n : Int) + 1 := by omega
          have HB := Lib.hid (bs_bind H3.out (id := (j : Int) + 2) (tz := 1) (wf_int (by omega) (by omega)) (by decide))
          clear H3
          go_wp2_with fail
          refine HB.out.mono ?_
          rintro e w4 ⟨F4, c4, s4, rfl, hb, hW⟩
          obtain ⟨rfl, hS4⟩ := fanB_step HS3.out.1 (by omega) hb
          have HB2 := Lib.hid (bs_bind hW.swap (id := 1) (tz := (j : Int) + 2) (by decide) (wf_int (by omega) (by omega)))
          have HS4 := Lib.hid hS4
          have HT3 := Lib.hid HS3.out.2
          clear hW hb hS4 HB HS3
          go_wp2_with fail
          refine HB2.out.mono ?_
          rintro e w5 ⟨G5, c5, t5, rfl, hb, hW⟩
          obtain ⟨rfl, hS5⟩ := fanD_step HT3.out (by omega) hb
          have H5 := Lib.hid hW.swap
          have HS5 := Lib.hid (And.intro HS4.out hS5)
          clear hW hb hS5 HB2 HS4 HT3
          go_wp2_with fail
          go_roundg (n - (j + 1))
          case rel => exact ⟨j + 1, F4, G5, s4, t5, by go_num, by omega, by omega, H5, HS5⟩
          case measure => omega
        · obtain rfl : j = n := by omega
          have p2 : ¬ (j : Int) + 2 ≤ (j : Int) + 1 := by omega
          have hSB := HS3.out.1
          have HG := Lib.hid (bs_good_yes H3.out (id := 1) (by decide) (hSB.mem (by omega) (by omega)) (hSB.st 1 (by omega) (by omega)) (fun y hy => by rw [hSB.on 1 (by omega) (by omega)] at hy; unfold fanB at hy; rw [if_neg (by omega)] at hy; simp at hy))
          have HL := Lib.hid (fun l hl => fan_good hSB (l := l) hl)
          have HU := Lib.hid (show (s3.turn 1 3).stOf 2 = 1 by rw [(hSB.turn 1 3).stOf (by omega) (by omega)]; rfl)
          have HT := Lib.hid (show Sts t3 (j + 1) (stD z j 0) (fanD j) from HS3.out.2)
          clear hSB H3 HS3 hj hjx hjt
          go_wp2_with fail
          refine HG.out.mono ?_
          rintro e w4 ⟨v, l, rfl, hr, hW⟩
          obtain rfl := HL.out l hr
          have H4 := Lib.hid hW
          clear hr hW HL
          obtain ⟨la, lc, rfl, hl2, hl3⟩ := RowAt.form H4.out.read
          rw [runL_len] at *
          have HST := Lib.hid (bs_state_of H4.out.tail (id := 2) (v := 1) (by decide) HU.out)
          have H5 := Lib.hid H4.out.tail.tail
          clear hl2 hl3 H4 HU HG
          go_wp2_with fail
          refine HST.out.mono ?_
          rintro e w5 ⟨rfl, rfl⟩
          clear HST
          go_wp2_with fail
          go_loopg [13] j (fun kx iv wr => ∃ (i : Nat) (G : Nat → Prop) (t : Bs), iv = .int .i64 (i : Int) ∧ i ≤ j ∧ j - i ≤ kx ∧ Hid (Sep w wr [obBonds d G t]) ∧ Hid (Sts t (j + 1) (stD z j i) (fanD j)))
          case atStart => exact ⟨0, G3, t3, rfl, Nat.zero_le _, by omega, H5, HT⟩
          case round =>
            obtain ⟨i, G6, t6, rfl, hi, hix, H6, HT6⟩ := hrel
            clear H5 HT
            have q0 : (0 : Int) ≤ (i : Int) := by omega
            by_cases hij : i < j
            · have p3 : (i : Int) < (j : Int) := by omega
              have hnx := fanD_next HT6.out (by omega) hij
              have hwt := fanD_waits HT6.out (by omega) (Nat.le_of_lt hij)
              have hq : ((i : Int) + (z : Int)) % (j : Int) = (((i + z) % j : Nat) : Int) := by simp
              have hqlt : (i + z) % j < j := Nat.mod_lt _ (by omega)
              have hj0 : ((j : Int) == 0) = false := by simp; omega
              generalize (i + z) % j = q at *
              have hne : (((j - i : Nat) : Int) != (j : Int) - (i : Int)) = false := by simp; omega
              have HWT := Lib.hid (bs_waits_of H6.out (id := 1) (by decide) hwt)
              have HNX := Lib.hid hnx
              have hqp : (0 : Int) ≤ (q : Int) := by omega
              have hqb : (q : Int) < (j : Int) := by omega
              have m2 := M2.out
              clear hnx hwt H6 HT6
              go_wp2_with fail
              refine HWT.out.mono ?_
              rintro e w7 ⟨rfl, hW⟩
              have HGD := Lib.hid (bs_good_yes hW (id := (q : Int) + 2) (wf_int (by omega) (by omega)) HNX.out.1.1 HNX.out.1.2.1 HNX.out.1.2.2)
              clear hW HWT
              go_wp2_with fail
              refine HGD.out.mono ?_
              rintro e w8 ⟨v8, l8, rfl, hr, hW⟩
              have hlen := HNX.out.2.2 l8 hr
              have H8 := Lib.hid hW.tail
              have HT8 := Lib.hid HNX.out.2.1
              obtain ⟨la8, lc8, rfl, hl2, hl3⟩ := RowAt.form hW.read
              generalize t6.turn ((q : Int) + 2) 3 = t8 at *
              clear hl2 hl3 hW hr HGD HNX hne m2 hj0 hq
              by_cases e : i + 1 = j
              · rw [if_pos e] at hlen
                rw [hlen]
                have e1 : ((i : Int) + 1 == (j : Int)) = true := by simp; omega
                clear hlen e
                go_wp2_with fail
                go_roundg (j - (i + 1))
                case rel => exact ⟨i + 1, G6, t8, by go_num, by omega, by omega, H8, HT8⟩
                case measure => omega
              · rw [if_neg e] at hlen
                rw [hlen]
                have e1 : ((i : Int) + 1 == (j : Int)) = false := by simp; omega
                clear hlen e
                go_wp2_with fail
                go_roundg (j - (i + 1))
                case rel => exact ⟨i + 1, G6, t8, by go_num, by omega, by omega, H8, HT8⟩
                case measure => omega
            · obtain rfl : i = j := by omega
              have h1s : t6.st 1 = 1 := by
                rw [HT6.out.st 1 (by omega) (by omega)]
                have : ∀ k, stD z i k 1 = 1 := fun k => by
                  induction k with
                  | zero => rfl
                  | succ k ih => unfold stD; rw [if_neg (by omega)]; exact ih
                exact this _
              have HGD := Lib.hid (bs_good_yes H6.out (id := 1) (by decide) (HT6.out.mem (by omega) (by omega)) h1s ((fanD_free HT6.out (by omega) (Nat.le_refl _)).2 rfl))
              clear H6 HT6 h1s
              go_wp2_with fail
              refine HGD.out.mono ?_
              rintro e w8 ⟨v8, l8, rfl, hr, hW⟩
              have HB8 := Lib.hid hW.bel
              clear hr hW HGD
              go_wp2_with fail
              refine (awake16_any _).mono ?_
              rintro e w9 ⟨rfl, hb⟩
              have HB9 := Lib.hid hb
              clear hb
              go_wp2_with fail
              go_ret
              exact ⟨rfl, bl_next HB8.out HB9.out⟩

set_option maxRecDepth 100000 in
set_option maxHeartbeats 6400000 in
theorem fans_false {a0 a2 : Int} {w : World} (_w0 : (Lit.int .i64 a0).wf = true) (_w2 : (Lit.int .i64 a2).wf = true) :
    Calls Try.prog 10 #[.int .i64 a0, .bool false, .int .i64 a2] w fun e w' => e = .returned (.bool true) ∧ Below w.heap.size w w' := by
  have m0 := i64_and255 a0
  have m2 := i64_and255 a2
  obtain ⟨x, hx, hx2⟩ : ∃ x : Nat, a0 % 256 = x ∧ x < 256 := ⟨(a0 % 256).toNat, by omega, by omega⟩
  obtain ⟨z, hz, hz2⟩ : ∃ z : Nat, a2 % 256 = z ∧ z < 256 := ⟨(a2 % 256).toNat, by omega, by omega⟩
  rw [hx] at m0
  rw [hz] at m2
  clear hx hz _w0 _w2
  have HN := Lib.hid (bs_new (Sep.nil w))
  obtain ⟨n, hn, n1, n2⟩ : ∃ n : Nat, ((n : Int) = (x : Int) % 60 + 1) ∧ 1 ≤ n ∧ n ≤ 60 := ⟨x % 60 + 1, by omega, by omega, by omega⟩
  have HNN := Lib.hid hn
  have M2 := Lib.hid m2
  clear hn m2
  go_enter Try.func10, Try.ntmps10
  go_upto_region 2 with fail
  rw [← HNN.out]
  clear m0 HNN hx2
  go_wp2_with fail
  refine HN.out.mono ?_
  rintro e w1 ⟨b, F, rfl, hW⟩
  have H1 := Lib.hid (bs_new hW)
  clear hW HN
  go_wp2_with fail
  refine H1.out.mono ?_
  rintro e w2 ⟨d, G, rfl, hW⟩
  have H2 := Lib.hid hW.swap
  clear hW H1
  go_wp2_with fail
  go_loopg [9] (n + 1) (fun kx iv wr => ∃ (k : Nat) (F G : Nat → Prop) (s t : Bs), iv = .int .i64 ((k : Int) + 1) ∧ k ≤ n + 1 ∧ n + 1 - k ≤ kx ∧ Hid (Sep w wr [obBonds b F s, obBonds d G t]) ∧ Hid (Sts s k (fun _ => 1) (fun _ => []) ∧ Sts t k (fun _ => 1) (fun _ => [])))
  case atStart => exact ⟨0, F, G, Bs.new, Bs.new, rfl, Nat.zero_le _, by omega, H2, Lib.hid ⟨Sts.new, Sts.new⟩⟩
  case round =>
    obtain ⟨k, F2, G2, s, t, rfl, hk, hkx, HW, HS⟩ := hrel
    clear H2
    by_cases hlt : k < n + 1
    · have p1 : (k : Int) + 1 ≤ (n : Int) + 1 := by omega
      have HO := Lib.hid (bs_next HW.out HS.out.1 (by omega))
      clear HW
      go_wp2_with fail
      refine HO.out.mono ?_
      rintro e w3 ⟨F3, s3, rfl, hW, hS⟩
      have HO2 := Lib.hid (bs_next hW.swap HS.out.2 (by omega))
      have HS3 := Lib.hid (open_next hS)
      clear hW hS HO HS
      go_wp2_with fail
      refine HO2.out.mono ?_
      rintro e w4 ⟨G3, t3, rfl, hW, hS⟩
      have H4 := Lib.hid hW.swap
      have HS4 := Lib.hid (And.intro HS3.out (open_next hS))
      clear hW hS HO2 HS3
      go_wp2_with fail
      go_roundg (n + 1 - (k + 1))
      case rel => exact ⟨k + 1, F3, G3, s3, t3, by go_num, by omega, by omega, H4, HS4⟩
      case measure => omega
    · obtain rfl : k = n + 1 := by omega
      have p1 : ¬ ((n + 1 : Nat) : Int) + 1 ≤ (n : Int) + 1 := by omega
      have HS2 := Lib.hid (And.intro (HS.out.1.congr (on' := fanB 0) (fun _ _ _ => rfl) (fun x h1 h2 => by unfold fanB; rw [if_neg (by omega)])) (HS.out.2.congr (on' := fanD 0) (fun _ _ _ => rfl) (fun x h1 h2 => by unfold fanD; split <;> rfl)))
      clear HS hk hkx hlt
      go_wp2_with fail
      go_loopg [10] n (fun kx iv wr => ∃ (j : Nat) (F G : Nat → Prop) (s t : Bs), iv = .int .i64 ((j : Int) + 2) ∧ j ≤ n ∧ n - j ≤ kx ∧ Hid (Sep w wr [obBonds b F s, obBonds d G t]) ∧ Hid (Sts s (n + 1) (fun _ => 1) (fanB j) ∧ Sts t (n + 1) (fun _ => 1) (fanD j)))
      case atStart => exact ⟨0, F2, G2, s, t, rfl, Nat.zero_le _, by omega, HW, HS2⟩
      case round =>
        obtain ⟨j, F3, G3, s3, t3, rfl, hj, hjx, H3, HS3⟩ := hrel
        clear HW HS2
        by_cases hjt : j < n
        · have p2 : (j : Int) + 2 ≤ (n : Int) + 1 := by omega
          have HB := Lib.hid (bs_bind H3.out (id := (j : Int) + 2) (tz := 1) (wf_int (by omega) (by omega)) (by decide))
          clear H3
          go_wp2_with fail
          refine HB.out.mono ?_
          rintro e w4 ⟨F4, c4, s4, rfl, hb, hW⟩
          obtain ⟨rfl, hS4⟩ := fanB_step HS3.out.1 (by omega) hb
          have HB2 := Lib.hid (bs_bind hW.swap (id := 1) (tz := (j : Int) + 2) (by decide) (wf_int (by omega) (by omega)))
          have HS4 := Lib.hid hS4
          have HT3 := Lib.hid HS3.out.2
          clear hW hb hS4 HB HS3
          go_wp2_with fail
          refine HB2.out.mono ?_
          rintro e w5 ⟨G5, c5, t5, rfl, hb, hW⟩
          obtain ⟨rfl, hS5⟩ := fanD_step HT3.out (by omega) hb
          have H5 := Lib.hid hW.swap
          have HS5 := Lib.hid (And.intro HS4.out hS5)
          clear hW hb hS5 HB2 HS4 HT3
          go_wp2_with fail
          go_roundg (n - (j + 1))
          case rel => exact ⟨j + 1, F4, G5, s4, t5, by go_num, by omega, by omega, H5, HS5⟩
          case measure => omega
        · obtain rfl : j = n := by omega
          have p2 : ¬ (j : Int) + 2 ≤ (j : Int) + 1 := by omega
          have hSB := HS3.out.1
          have HG := Lib.hid (bs_bad_yes H3.out (id := 1) (by decide) (hSB.mem (by omega) (by omega)) (.inl (hSB.st 1 (by omega) (by omega))))
          have HL := Lib.hid (fun P l hP hl => fan_bad hSB (P := P) (l := l) hP hl n1)
          have HT := Lib.hid (show Sts t3 (j + 1) (stD z j 0) (fanD j) from HS3.out.2)
          clear hSB H3 HS3 hj hjx hjt
          go_wp2_with fail
          refine HG.out.mono ?_
          rintro e w4 ⟨v, l, P, rfl, hP, hr, hW⟩
          obtain ⟨rfl, hu⟩ := HL.out P l hP hr
          have H4 := Lib.hid hW
          have HU := Lib.hid hu
          clear hr hW HL hP hu
          obtain ⟨la, lc, rfl, hl2, hl3⟩ := RowAt.form H4.out.read
          rw [runL_len] at *
          have HST := Lib.hid (bs_state_of H4.out.tail (id := 2) (v := 2) (by decide) HU.out)
          have H5 := Lib.hid H4.out.tail.tail
          clear hl2 hl3 H4 HU HG
          go_wp2_with fail
          refine HST.out.mono ?_
          rintro e w5 ⟨rfl, rfl⟩
          clear HST
          go_wp2_with fail
          go_loopg [13] j (fun kx iv wr => ∃ (i : Nat) (G : Nat → Prop) (t : Bs), iv = .int .i64 (i : Int) ∧ i ≤ j ∧ j - i ≤ kx ∧ Hid (Sep w wr [obBonds d G t]) ∧ Hid (Sts t (j + 1) (stD z j i) (fanD j)))
          case atStart => exact ⟨0, G3, t3, rfl, Nat.zero_le _, by omega, H5, HT⟩
          case round =>
            obtain ⟨i, G6, t6, rfl, hi, hix, H6, HT6⟩ := hrel
            clear H5 HT
            have q0 : (0 : Int) ≤ (i : Int) := by omega
            by_cases hij : i < j
            · have p3 : (i : Int) < (j : Int) := by omega
              have hnx := fanD_next HT6.out (by omega) hij
              have hwt := fanD_waits HT6.out (by omega) (Nat.le_of_lt hij)
              have hq : ((i : Int) + (z : Int)) % (j : Int) = (((i + z) % j : Nat) : Int) := by simp
              have hqlt : (i + z) % j < j := Nat.mod_lt _ (by omega)
              have hj0 : ((j : Int) == 0) = false := by simp; omega
              generalize (i + z) % j = q at *
              have hne : (((j - i : Nat) : Int) != (j : Int) - (i : Int)) = false := by simp; omega
              have HWT := Lib.hid (bs_waits_of H6.out (id := 1) (by decide) hwt)
              have HNX := Lib.hid hnx
              have hqp : (0 : Int) ≤ (q : Int) := by omega
              have hqb : (q : Int) < (j : Int) := by omega
              have m2 := M2.out
              clear hnx hwt H6 HT6
              go_wp2_with fail
              refine HWT.out.mono ?_
              rintro e w7 ⟨rfl, hW⟩
              have HGD := Lib.hid (bs_good_yes hW (id := (q : Int) + 2) (wf_int (by omega) (by omega)) HNX.out.1.1 HNX.out.1.2.1 HNX.out.1.2.2)
              clear hW HWT
              go_wp2_with fail
              refine HGD.out.mono ?_
              rintro e w8 ⟨v8, l8, rfl, hr, hW⟩
              have hlen := HNX.out.2.2 l8 hr
              have H8 := Lib.hid hW.tail
              have HT8 := Lib.hid HNX.out.2.1
              obtain ⟨la8, lc8, rfl, hl2, hl3⟩ := RowAt.form hW.read
              generalize t6.turn ((q : Int) + 2) 3 = t8 at *
              clear hl2 hl3 hW hr HGD HNX hne m2 hj0 hq
              by_cases e : i + 1 = j
              · rw [if_pos e] at hlen
                rw [hlen]
                have e1 : ((i : Int) + 1 == (j : Int)) = true := by simp; omega
                clear hlen e
                go_wp2_with fail
                go_roundg (j - (i + 1))
                case rel => exact ⟨i + 1, G6, t8, by go_num, by omega, by omega, H8, HT8⟩
                case measure => omega
              · rw [if_neg e] at hlen
                rw [hlen]
                have e1 : ((i : Int) + 1 == (j : Int)) = false := by simp; omega
                clear hlen e
                go_wp2_with fail
                go_roundg (j - (i + 1))
                case rel => exact ⟨i + 1, G6, t8, by go_num, by omega, by omega, H8, HT8⟩
                case measure => omega
            · obtain rfl : i = j := by omega
              have h1s : t6.st 1 = 1 := by
                rw [HT6.out.st 1 (by omega) (by omega)]
                have : ∀ k, stD z i k 1 = 1 := fun k => by
                  induction k with
                  | zero => rfl
                  | succ k ih => unfold stD; rw [if_neg (by omega)]; exact ih
                exact this _
              have HGD := Lib.hid (bs_good_yes H6.out (id := 1) (by decide) (HT6.out.mem (by omega) (by omega)) h1s ((fanD_free HT6.out (by omega) (Nat.le_refl _)).2 rfl))
              clear H6 HT6 h1s
              go_wp2_with fail
              refine HGD.out.mono ?_
              rintro e w8 ⟨v8, l8, rfl, hr, hW⟩
              have HB8 := Lib.hid hW.bel
              clear hr hW HGD
              go_wp2_with fail
              refine (awake16_any _).mono ?_
              rintro e w9 ⟨rfl, hb⟩
              have HB9 := Lib.hid hb
              clear hb
              go_wp2_with fail
              go_ret
              exact ⟨rfl, bl_next HB8.out HB9.out⟩

theorem bondFans_walk {a0 : Int} {a1 : Bool} {a2 : Int} {w : World} (w0 : (Lit.int .i64 a0).wf = true) (w2 : (Lit.int .i64 a2).wf = true) :
    Calls Try.prog 10 #[.int .i64 a0, .bool a1, .int .i64 a2] w fun e w' => e = .returned (.bool true) ∧ Below w.heap.size w w' := by
  cases a1 with
  | true => exact fans_true w0 w2
  | false => exact fans_false w0 w2
end Go.Proofs.Ytbihfjehlbaahaa
