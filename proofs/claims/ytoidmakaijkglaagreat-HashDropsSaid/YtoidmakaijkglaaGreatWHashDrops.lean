/- HashDrops holds: a key is dropped when its chain is empty, and not ahead of it; put again it has an empty chain; the others keep theirs. No condition. -/
import Derived.Test.YtoidmakaijkglaaGreatHX
namespace Go.Proofs.YtoidmakaijkglaaGreat
open Go.RowKit
theorem small_of (a : Int) : ∃ n : Nat, bits .and .i64 a 63 = (n : Int) ∧ n < 64 := ⟨(a % 64).toNat, by rw [i64_and63]; omega, by omega⟩
theorem byte_of (a : Int) : ∃ n : Nat, bits .and .i64 a 255 = (n : Int) ∧ n < 256 := ⟨(a % 256).toNat, by rw [i64_and255]; omega, by omega⟩
theorem next_of {k : Nat} (_h : k < 64) : ∃ n : Nat, bits .and .i64 ((k : Int) + 1) 63 = (n : Int) ∧ n < 64 ∧ k ≠ n := ⟨((k + 1) % 64), by rw [i64_and63]; omega, by omega, by omega⟩
theorem made_two {ka kb : Nat} (h : ka ≠ kb) (C : Nat → Nat) (ca cb : Nat) : updC (updC C ka ca) kb cb ka = ca ∧ updC (updC C ka ca) kb cb kb = cb := ⟨by rw [updC_ne h, updC_same], updC_same _ _ _⟩
theorem pushed_two {ka kb : Nat} (h : ka ≠ kb) (L : Nat → List Int) (z y : Int) : ((updC (updC L ka (z :: L ka)) kb (y :: updC L ka (z :: L ka) kb)) ka).length = (L ka).length + 1 ∧ ((updC (updC L ka (z :: L ka)) kb (y :: updC L ka (z :: L ka) kb)) kb).length = (L kb).length + 1 := by
  rw [updC_ne h, updC_same, updC_same, updC_ne (fun e => h e.symm)]
  exact ⟨rfl, rfl⟩
theorem drop_two {ka kb : Nat} (h : ka ≠ kb) : dropK [ka, kb] ka = [kb] := by
  have : kb ≠ ka := fun e => h e.symm
  simp [dropK, this]
set_option maxRecDepth 100000 in
set_option maxHeartbeats 12800000 in
theorem hashDrops_walk {a0 a1 a2 a3 : Int} {w : World} (_w0 : (Lit.int .i64 a0).wf = true) (_w1 : (Lit.int .i64 a1).wf = true) (_w2 : (Lit.int .i64 a2).wf = true) (_w3 : (Lit.int .i64 a3).wf = true) :
    Calls Tryz.prog 3 #[.int .i64 a0, .int .i64 a1, .int .i64 a2, .int .i64 a3] w fun e w' => e = .returned (.bool true) ∧ Below w.heap.size w w' := by
  obtain ⟨ka, hka, hka2⟩ := small_of a0
  obtain ⟨k1, hk1, hk12⟩ := small_of a1
  obtain ⟨m, hm, hm2⟩ := small_of a2
  obtain ⟨x, hx, hx2⟩ := byte_of a3
  obtain ⟨k2, hk2, hk22, hk23⟩ := next_of hka2
  have HAW := Lib.hid awake10_any
  have HST := Lib.hid (store_new 40 w (by decide) (by decide))
  go_enter Tryz.func3, Tryz.ntmps3
  go_upto_region 1 with fail
  go_cut [0, 1, 2, 3] from 29 to 40 (fun s0 s1 s2 s3 wx => ∃ nb n : Nat, s0 = .int .i64 ka ∧ s1 = .int .i64 k1 ∧ s2 = .int .i64 nb ∧ s3 = .int .i64 n ∧ Hid (1 ≤ nb ∧ nb ≤ 64 ∧ 1 ≤ n ∧ n ≤ 10) ∧ wx = w)
  case first =>
    go_wp2_with fail
    go_meet
    case rel => exact ⟨m + 1, x % 10 + 1, rfl, rfl, by congr 1, by congr 1, Lib.hid (by omega), rfl⟩
  case rest =>
  obtain ⟨nb, n, rfl, rfl, rfl, rfl, HN0, rfl⟩ := hcut
  clear hka hk1 hm hm2 hx hx2
  go_upto_if 42 with fail
  go_cut [1] from 43 to 46 (fun s1 wx => ∃ kb : Nat, s1 = .int .i64 kb ∧ Hid (kb < 64 ∧ ka ≠ kb) ∧ wx = wc)
  case first =>
    by_cases hab : ka = k1
    · subst hab
      have hw1 : IntKind.i64.wrap ((ka : Int) + 1) = (ka : Int) + 1 := IntWalk.i64_in _ (by omega)
      go_wp2_with fail
      go_meet
      case rel => exact ⟨k2, by congr 1, Lib.hid ⟨hk22, hk23⟩, rfl⟩
    · have hne : ((ka : Int) == (k1 : Int)) = false := by simp; omega
      go_wp2_with fail
      go_meet
      case rel => exact ⟨k1, rfl, Lib.hid ⟨hk12, hab⟩, rfl⟩
  case rest =>
  obtain ⟨kb, rfl, HK, rfl⟩ := hcut
  have HN := Lib.hid (And.intro HK.out.1 (And.intro HK.out.2 HN0.out))
  obtain ⟨wi, rfl⟩ : ∃ x, x = wc := ⟨_, rfl⟩
  clear HK HN0 hk12 hk2 hk22 hk23
  go_wp2_with fail
  refine HST.out.mono ?_
  rintro e w1 ⟨sb, Fs, rfl, p1, B1, f1⟩
  have S1 := Lib.hid ((Sep.nil wi).new (A := obStore sb Fs (RS.new 40)) B1 p1 f1)
  clear p1 B1 f1 HST
  have HNX := Lib.hid (hx_new S1.out sb (n := nb) HN.out.2.2.1 HN.out.2.2.2.1)
  clear S1
  go_wp2_with fail
  refine HNX.out.mono ?_
  rintro e w2 ⟨xb, ab, Fa, rfl, h2, -⟩
  have H2 := Lib.hid (hw_new h2 (by decide) (by decide) (fun _ => 0))
  have HPA := Lib.hid (hw_put H2.out HN.out.2.2.1 HN.out.2.2.2.1 hka2 (by simp))
  clear h2 HNX H2
  go_wp2_with fail
  refine HPA.out.mono ?_
  rintro e w3 ⟨ca, rfl, h3⟩
  have H3 := Lib.hid h3
  have HPB := Lib.hid (hw_put H3.out HN.out.2.2.1 HN.out.2.2.2.1 HN.out.1 (by have := HN.out.2.1; simp; omega))
  clear h3 HPA H3
  go_wp2_with fail
  refine HPB.out.mono ?_
  rintro e w4 ⟨cb, rfl, h4⟩
  obtain ⟨hca, hcb⟩ := made_two HN.out.2.1 (fun _ => 0) ca cb
  generalize updC (updC (fun _ => 0) ka ca) kb cb = C at *
  have HCA := Lib.hid hca
  have HCB := Lib.hid hcb
  have H4 := Lib.hid h4
  clear h4 HPB hca hcb
  go_wp2_with fail
  go_loopg [17] n (fun kx iv wx => ∃ (k : Nat) (L : Nat → List Int) (live : List Int), iv = .int .i64 k ∧ k ≤ n ∧ n - k ≤ kx ∧ Hid (live.length = 2 * k ∧ (L ka).length = k ∧ (L kb).length = k) ∧ Hid (HW wi xb sb ab 40 nb live [ka, kb] C L [] wx))
  case atStart => exact ⟨0, _, _, rfl, Nat.zero_le _, Nat.le_refl _, Lib.hid ⟨rfl, rfl, rfl⟩, H4⟩
  case round =>
    obtain ⟨k, L, live, rfl, hk, hkx, HL, HP⟩ := hrel
    clear H4
    have k0 : (0 : Int) ≤ (k : Int) := by omega
    by_cases hlt : k < n
    · have k1 : (k : Int) < (n : Int) := by omega
      have hn10 := HN.out.2.2.2.2.2
      have kw : IntKind.i64.wrap ((k : Int) + 1) = (k : Int) + 1 := IntWalk.i64_in _ (by omega)
      have HSUB := Lib.hid HP.out.facts.2.2.2.1
      have HM1 := Lib.hid (hw_make HP.out (key := ka) (v := k) (x := 1) (y := 2) (by have := HL.out.1; omega) (by omega) (by omega) (by omega) (by omega))
      go_wp2_with fail
      refine HM1.out.mono ?_
      rintro e w5 ⟨z, rfl, hz, h5⟩
      have HZ := Lib.hid hz
      have HM2 := Lib.hid (hw_make h5 (key := kb) (v := k) (x := 1) (y := 2) (by have := HL.out.1; simp; omega) (by omega) (by have := HN.out.1; omega) (by omega) (by omega))
      clear hz h5 HM1 HP
      go_wp2_with fail
      refine HM2.out.mono ?_
      rintro e w6 ⟨y, rfl, hy, h6⟩
      have HY := Lib.hid hy
      have h7 := hw_push h6 (k := ka) (by simp) (z := z) (by simp) (fun j hj hm => HZ.out (HSUB.out j hj z hm))
      rw [HCA.out] at h7
      have H7 := Lib.hid h7
      clear hy h6 h7 HM2
      go_wp2_with fail
      refine H7.out.mono ?_
      rintro e w7 ⟨rfl, h7⟩
      have h8 := hw_push h7 (k := kb) (by simp) (z := y) (by simp) (fun j hj hm => by
        by_cases e : j = ka
        · subst e
          rw [updC_same] at hm
          rcases List.mem_cons.1 hm with rfl | hm
          · exact HY.out (by simp)
          · exact HY.out (List.mem_append_left _ (HSUB.out j hj y hm))
        · rw [updC_ne e] at hm
          exact HY.out (List.mem_append_left _ (HSUB.out j hj y hm)))
      rw [HCB.out] at h8
      have H8 := Lib.hid h8
      clear h7 h8 H7
      go_wp2_with fail
      refine H8.out.mono ?_
      rintro e w8 ⟨rfl, h8⟩
      have H9 := Lib.hid h8
      clear h8 H8
      have hLL := pushed_two HN.out.2.1 L z y
      generalize updC (updC L ka (z :: L ka)) kb (y :: updC L ka (z :: L ka) kb) = L2 at *
      have HLL := Lib.hid hLL
      clear hLL
      go_wp2_with fail
      go_roundg (n - (k + 1))
      case rel => exact ⟨k + 1, L2, _, by go_num, by omega, by omega, Lib.hid (by
        have h1 := HL.out
        have h2 := HLL.out
        refine ⟨by simp; omega, by omega, by omega⟩), H9⟩
      case measure => omega
    · obtain rfl : k = n := by omega
      have j1 : ¬ (k : Int) < (k : Int) := by omega
      have HL0 := Lib.hid HL.out.2
      clear HL hlt hkx hk
      go_wp2_with fail
      go_loopg [22] k (fun kx iv wx => ∃ (i : Nat) (L : Nat → List Int), iv = .int .i64 i ∧ i ≤ k ∧ k - i ≤ kx ∧ Hid ((L ka).length = k - i ∧ (L kb).length = k) ∧ Hid (HW wi xb sb ab 40 nb live [ka, kb] C L [] wx))
      case atStart => exact ⟨0, L, rfl, Nat.zero_le _, Nat.le_refl _, HL0, HP⟩
      case round =>
        clear HP HL0
        obtain ⟨i, L, rfl, hi, hix, HL, HP⟩ := hrel
        have i0 : (0 : Int) ≤ (i : Int) := by omega
        by_cases hlt : i < k
        · have i1 : (i : Int) < (k : Int) := by omega
          have hn10 := HN.out.2.2.2.2.2
          have iw : IntKind.i64.wrap ((i : Int) + 1) = (i : Int) + 1 := IntWalk.i64_in _ (by omega)
          obtain ⟨z, r, hzr⟩ : ∃ z r, L ka = z :: r := by
            have h1 := HL.out.1
            cases h : L ka with
            | nil => rw [h] at h1; simp at h1; omega
            | cons z r => exact ⟨z, r, rfl⟩
          have HZR := Lib.hid hzr
          have HD := Lib.hid (hw_drop_full HP.out HN.out.2.2.1 HN.out.2.2.2.1 (k := ka) (by simp) (by rw [hzr]; simp))
          clear hzr HP hn10
          go_wp2_with fail
          refine HD.out.mono ?_
          rintro e w5 ⟨rfl, h5⟩
          have h6 := hw_head h5 (k := ka) (by simp)
          rw [HCA.out, HZR.out] at h6
          simp only [List.getD_cons_zero] at h6
          have H6 := Lib.hid h6
          clear h5 h6 HD
          go_wp2_with fail
          refine H6.out.mono ?_
          rintro e w6 ⟨rfl, h6⟩
          have h7 := hw_cut h6 (k := ka) (by simp) HZR.out
          rw [HCA.out] at h7
          have H7 := Lib.hid h7
          clear h6 h7 H6
          go_wp2_with fail
          refine H7.out.mono ?_
          rintro e w7 ⟨rfl, h7⟩
          have H8 := Lib.hid h7
          have HLL := Lib.hid (show (updC L ka r ka).length = k - (i + 1) ∧ (updC L ka r kb).length = k by
            have h1 := HL.out
            rw [HZR.out] at h1
            rw [updC_same, updC_ne (fun e => HN.out.2.1 e.symm)]
            simp at h1
            omega)
          clear h7 H7 HZR
          generalize updC L ka r = L2 at *
          go_wp2_with fail
          go_roundg (k - (i + 1))
          case rel => exact ⟨i + 1, L2, by go_num, by omega, by omega, HLL, H8⟩
          case measure => omega
        · obtain rfl : i = k := by omega
          have j1 : ¬ (i : Int) < (i : Int) := by omega
          have HLA := Lib.hid (show L ka = [] from List.eq_nil_of_length_eq_zero (by have := HL.out.1; omega))
          have HLB := Lib.hid HL.out.2
          have hd := hw_drop HP.out HN.out.2.2.1 HN.out.2.2.2.1 (k := ka) (by simp) HLA.out
          rw [drop_two HN.out.2.1] at hd
          have HD := Lib.hid hd
          clear HL hlt hix hi HP hd
          go_wp2_with fail
          refine HD.out.mono ?_
          rintro e w5 ⟨rfl, h5⟩
          have HNO := Lib.hid (show ∀ k ∈ [kb], (k : Int) ≠ (ka : Int) from fun k hk => by
            have := HN.out.2.1
            simp at hk
            omega)
          have HD2 := Lib.hid (hw_drop_no h5 HN.out.2.2.1 HN.out.2.2.2.1 HNO.out)
          clear h5 HD
          go_wp2_with fail
          refine HD2.out.mono ?_
          rintro e w6 ⟨rfl, h6⟩
          have HF1 := Lib.hid (hw_find_no h6 HN.out.2.2.1 HN.out.2.2.2.1 HNO.out)
          clear h6 HD2 HNO
          go_wp2_with fail
          refine HF1.out.mono ?_
          rintro e w7 ⟨rfl, h7⟩
          have h8 := hw_find h7 HN.out.2.2.1 HN.out.2.2.2.1 (k := kb) (by simp)
          rw [HCB.out] at h8
          have HF2 := Lib.hid h8
          clear h7 h8 HF1
          go_wp2_with fail
          refine HF2.out.mono ?_
          rintro e w8 ⟨rfl, h8⟩
          have h9 := hw_len h8 (k := kb) (by simp)
          rw [HCB.out, HLB.out] at h9
          have HF3 := Lib.hid h9
          clear h8 h9 HF2
          go_wp2_with fail
          refine HF3.out.mono ?_
          rintro e w9 ⟨rfl, h9⟩
          have HF4 := Lib.hid (hw_put h9 HN.out.2.2.1 HN.out.2.2.2.1 hka2 (by have := HN.out.2.1; simpa using this))
          have hii : ((i : Int) != (i : Int)) = false := by simp
          clear h9 HF3
          go_wp2_with fail
          refine HF4.out.mono ?_
          rintro e w10 ⟨cc, rfl, h10⟩
          have h11 := hw_len h10 (k := ka) (by simp)
          rw [updC_same, HLA.out] at h11
          simp only [List.length_nil] at h11
          have HF5 := Lib.hid h11
          clear h10 h11 HF4
          go_wp2_with fail
          refine HF5.out.mono ?_
          rintro e w11 ⟨rfl, h11⟩
          have HF6 := Lib.hid (hw_keys h11 HN.out.2.2.1 HN.out.2.2.2.1)
          clear h11 HF5
          go_wp2_with fail
          refine HF6.out.mono ?_
          rintro e w12 ⟨sv, rfl, h12⟩
          have hl2 : (upK ([kb] ++ [ka])).length = 2 := upK_len h12.facts.1 h12.facts.2.1
          have hsv : ∃ a m, sv = .slice a 2 m := by
            rcases (h12.first : RowAt .i64 w12 sv (upK ([kb] ++ [ka]))) with ⟨h0, _⟩ | ⟨b, off, cap, rfl, _⟩
            · rw [h0] at hl2
              simp at hl2
            · rw [hl2]
              exact ⟨_, _, rfl⟩
          obtain ⟨a, m, rfl⟩ := hsv
          have HB := Lib.hid h12.bel
          have HAW2 := Lib.hid (HAW.out w12)
          clear h12 hl2 HF6
          go_wp2_with fail
          refine HAW2.out.mono ?_
          rintro e w13 ⟨rfl, h13⟩
          have HB2 := Lib.hid (bl_next HB h13)
          clear h13
          go_wp2_with fail
          go_ret
          exact ⟨rfl, HB2.out⟩
end Go.Proofs.YtoidmakaijkglaaGreat
