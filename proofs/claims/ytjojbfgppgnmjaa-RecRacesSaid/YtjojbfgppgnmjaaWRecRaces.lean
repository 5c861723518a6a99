/- RecRaces holds: of several that would put an end to one version one does, and that one's word stands there. No condition. -/
import Derived.Test.YtjojbfgppgnmjaaT5
namespace Go.Proofs.Ytjojbfgppgnmjaa
open Go.RowKit Go.ChangeShapes

set_option maxRecDepth 100000 in
set_option maxHeartbeats 3200000 in
theorem recRaces_walk {a0 : Option Addr} {len0 cap0 : Nat} {l0 : List Int} {w : World} (n0 : l0.length = len0) (r0 : RowAt .u64 w (.slice a0 len0 cap0) l0) (_w0 : ∀ x ∈ l0, (Lit.int .u64 x).wf = true) :
    Calls Try.prog 3 #[.slice a0 len0 cap0] w fun e w' => e = .returned (.bool true) ∧ Below w.heap.size w w' := by
  have H0 := Lib.hid r0
  have N0 := Lib.hid n0
  clear r0 n0 _w0
  have HN := Lib.hid (store_new 2 w (by decide) (by decide))
  by_cases hbig : 40 < len0
  · have hd : decide ((40 : Int) < len0) = true := by simp; omega
    clear hbig
    go_enter Try.func3, Try.ntmps3
    go_wp2_with fail
    refine HN.out.mono ?_
    rintro e w1 ⟨b, F1, rfl, p1, B1, f1⟩
    clear p1 HN f1
    go_wp2_with fail
    refine (awake6_any w1).mono ?_
    rintro e w2 ⟨rfl, b2⟩
    go_wp2_with fail
    go_ret
    exact ⟨rfl, bl_next B1 b2⟩
  · have hd : decide ((40 : Int) < len0) = false := by simp; omega
    have hle : len0 ≤ 40 := by omega
    clear hbig
    go_enter Try.func3, Try.ntmps3
    go_wp2_with fail
    refine HN.out.mono ?_
    rintro e w1 ⟨b, F1, rfl, p1, B1, f1⟩
    have S1 : Hid (Sep w w1 [obStore b F1 (RS.new (1 + 1))]) := Lib.hid ((Sep.nil w).new (A := obStore b F1 (RS.new (1 + 1))) B1 p1 f1)
    clear p1 HN B1 f1
    go_wp2_with fail
    refine (ref_forever _).mono ?_
    rintro e w2 ⟨rfl, rfl⟩
    go_wp2_with fail
    refine (make_ok b F1 (RS.new (1 + 1)) (dn (1 + 1) 1) 0 5 6 1 2305843009213693952 w1 S1.out.head (by decide) (by decide) (by decide) (by decide) (one_free 1)).mono ?_
    rw [one_make, one_link]
    rintro e w2 ⟨rfl, hl⟩
    obtain ⟨F2, hS2⟩ := S1.out.store hl
    have S2 := Lib.hid hS2
    clear hl hS2 S1
    go_wp2_with fail
    go_loopw [8, 9, 10] (fun fv wv i wr => ∃ (k : Nat) (x y : Int) (F : Nat → Prop), k ≤ len0 ∧ i = .int .i64 k ∧ fv = .int .u64 x ∧ wv = .int .i64 y ∧ 0 ≤ y ∧ y ≤ k ∧ ((k = 0 ∧ x = 2305843009213693952 ∧ y = 0) ∨ (0 < k ∧ 0 < y)) ∧ Sep w wr [obStore b F (one 1 5 6 1 x 0)]) (fun _ _ i _ => len0 - (intOf i).toNat)
    case atStart => exact ⟨0, 2305843009213693952, 0, F2, Nat.zero_le _, rfl, rfl, rfl, by omega, by omega, .inl ⟨rfl, rfl, rfl⟩, S2.out⟩
    case round =>
      obtain ⟨k, x, y, F, hk, rfl, rfl, rfl, hy0, hyk, hst, hS⟩ := hrel
      have HS := Lib.hid hS
      clear hS S2
      by_cases hlt : k < len0
      · rcases H0.out with ⟨h0, _⟩ | ⟨b', off, cap, hv, _, _, hbl, hc⟩
        · have := N0.out; rw [h0] at this; simp at this; omega
        have c1 := (HS.out.bel.cell (p := ⟨b', off + k, none⟩) hbl).trans (hc k (N0.out.symm ▸ hlt))
        have HCC := Lib.hid (fun W (hW : Below w.heap.size w W) => (hW.cell (p := ⟨b', off + k, none⟩) hbl).trans (hc k (N0.out.symm ▸ hlt)))
        simp only [Value.slice.injEq] at hv
        obtain ⟨rfl, hnl, rfl⟩ := hv
        clear hnl hc
        generalize l0.getD k 0 = z at *
        have HE := Lib.hid (rec_end b F (one 1 5 6 1 x 0) 1 2305843009213693952 z wr HS.out.head (by decide) (by decide))
        by_cases hx : x = 2305843009213693952
        · subst hx
          go_wp2_with fail
          refine HE.out.mono ?_
          rintro e w3 (⟨_, _, rfl, hl⟩ | ⟨hc, _⟩)
          · rw [one_end] at hl
            obtain ⟨F3, hS3⟩ := HS.out.store hl
            have S3 := Lib.hid hS3
            have c2 := HCC.out w3 hS3.bel
            clear hl hS3 HS c1 HE
            go_wp2_with fail
            go_roundw
            case rel => exact ⟨k + 1, z, y + 1, F3, by omega, by go_num, rfl, rfl, by omega, by omega, .inr ⟨by omega, by omega⟩, S3.out⟩
            case measure => simp [intOf]; omega
          · exact absurd ⟨one_live _ _ _ _ _ _, rfl⟩ hc
        · have hxb : (x == 2305843009213693952) = false := by simpa using hx
          have hky : 0 < k ∧ 0 < y := by omega
          have HX := Lib.hid hx
          clear hx hst
          go_wp2_with fail
          refine HE.out.mono ?_
          rintro e w3 (⟨_, hc, _⟩ | ⟨_, rfl, hl⟩)
          · exact absurd hc HX.out
          · obtain ⟨F3, hS3⟩ := HS.out.store hl
            have S3 := Lib.hid hS3
            clear hl hS3 HS c1 HE HX
            go_wp2_with fail
            go_roundw
            case rel => exact ⟨k + 1, x, y, F3, by omega, by go_num, rfl, rfl, by omega, by omega, .inr ⟨by omega, by omega⟩, S3.out⟩
            case measure => simp [intOf]; omega
      · obtain rfl : k = len0 := by omega
        have hxb : (x == x) = true := by simp
        have hyb : (decide (0 < y) == decide ((0 : Int) < k)) = true := by
          rcases hst with ⟨h1, _, h3⟩ | ⟨h1, h2⟩
          · rw [h1, h3]; rfl
          · rw [decide_eq_true h2, decide_eq_true (by omega)]; rfl
        have hyc : (decide (0 < y) = true ∧ decide (0 < k) = true) ∨ (decide (0 < y) = false ∧ decide (0 < k) = false) := by
          rcases hst with ⟨h1, _, h3⟩ | ⟨h1, h2⟩
          · right; rw [h1, h3]; decide
          · left; exact ⟨decide_eq_true h2, decide_eq_true h1⟩
        clear hst hlt hyb
        have HG := Lib.hid (get_live b F (one 1 5 6 1 x 0) 1 wr HS.out.head (by decide) (by decide) (one_live _ _ _ _ _ _))
        rcases hyc with ⟨y1, y2⟩ | ⟨y1, y2⟩
        all_goals
          go_wp2_with fail
          refine HG.out.mono ?_
          rw [one_ver]
          simp only [Ver.value]
          rintro e w3 ⟨rfl, hl⟩
          obtain ⟨F3, hS3⟩ := HS.out.store hl
          have B3 := hS3.bel
          clear hl hS3 HS HG
          go_wp2_with fail
          refine (awake6_any _).mono ?_
          rintro e w4 ⟨rfl, b4⟩
          go_wp2_with fail
          go_ret
          exact ⟨rfl, B3.trans ((((Below.refl _ _).alloc (Nat.le_refl _) _).trans (b4.mono (by simp))).mono B3.size)⟩

end Go.Proofs.Ytjojbfgppgnmjaa
