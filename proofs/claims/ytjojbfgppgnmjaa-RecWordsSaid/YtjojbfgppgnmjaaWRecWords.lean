/- RecWords holds: a version's words are turned from what they are alone; the one is turned without the other; key and value stay. No condition. -/
import Derived.Test.YtjojbfgppgnmjaaT5
namespace Go.Proofs.Ytjojbfgppgnmjaa
open Go.RowKit Go.ChangeShapes

theorem wrap_ne {x : Int} (_h : 0 ≤ x ∧ x ≤ 18446744073709551615) : ¬ x = IntKind.u64.wrap (x + 1) := by
  rw [IntKind.wrap_u64]
  omega
theorem xor_ne {x : Int} (_h : 0 ≤ x ∧ x ≤ 18446744073709551615) : ¬ x = bits .xor .u64 x 1 := by
  intro e
  have e2 : bits .xor .u64 x 1 = IntKind.u64.wrap ((BitVec.ofInt 64 x ^^^ BitVec.ofInt 64 1).toNat : Nat) := rfl
  rw [e2, IntKind.wrap_u64] at e
  have hlt := (BitVec.ofInt 64 x ^^^ BitVec.ofInt 64 1).isLt
  have e3 : (BitVec.ofInt 64 x ^^^ BitVec.ofInt 64 1).toNat = (BitVec.ofInt 64 x).toNat := by
    rw [BitVec.toNat_ofInt]
    omega
  have e4 := BitVec.eq_of_toNat_eq e3
  have e5 : BitVec.ofInt 64 1 = 0#64 := by
    have := congrArg (BitVec.ofInt 64 x ^^^ ·) e4
    simp only [← BitVec.xor_assoc, BitVec.xor_self, BitVec.zero_xor] at this
    exact this
  exact absurd e5 (by decide)
set_option maxRecDepth 100000 in
set_option maxHeartbeats 3200000 in
theorem recWords_walk {a0 a1 : Int} {a2 : Option Addr} {len2 cap2 : Nat} {l2 : List Int} {w : World} (_w0 : (Lit.int .u64 a0).wf = true) (_w1 : (Lit.int .u64 a1).wf = true) (n2 : l2.length = len2) (r2 : RowAt .u64 w (.slice a2 len2 cap2) l2) (_w2 : ∀ x ∈ l2, (Lit.int .u64 x).wf = true) :
    Calls Try.prog 4 #[.int .u64 a0, .int .u64 a1, .slice a2 len2 cap2] w fun e w' => e = .returned (.bool true) ∧ Below w.heap.size w w' := by
  have H0 := Lib.hid r2
  have N0 := Lib.hid n2
  have bd0 := bounds_u64 _w0
  have bd1 := bounds_u64 _w1
  have HBD := Lib.hid (fun k (hk : k < len2) => (show 0 ≤ l2.getD k 0 ∧ l2.getD k 0 ≤ 18446744073709551615 from by
    have := bounds_u64 (_w2 l2[k] (List.getElem_mem (by omega)))
    have e : l2.getD k 0 = l2[k]'(by omega) := by simp [List.getD_eq_getElem?_getD, show k < l2.length by omega]
    rw [e]
    exact this))
  clear r2 n2 _w0 _w1 _w2
  have HN := Lib.hid (store_new 3 w (by decide) (by decide))
  go_enter Try.func4, Try.ntmps4
  go_wp2_with fail
  refine HN.out.mono ?_
  rintro e w1 ⟨b, F1, rfl, p1, B1, f1⟩
  have S1 : Hid (Sep w w1 [obStore b F1 (RS.new (2 + 1))]) := Lib.hid ((Sep.nil w).new (A := obStore b F1 (RS.new (2 + 1))) B1 p1 f1)
  clear p1 HN B1 f1
  go_wp2_with fail
  refine (make_ok b F1 (RS.new (2 + 1)) (dn (2 + 1) 2) 0 9 8 a0 a1 w1 S1.out.head (by decide) (by decide) (by decide) (by decide) (one_free 2)).mono ?_
  rw [one_make, one_link]
  rintro e w2 ⟨rfl, hl⟩
  obtain ⟨F2, hS2⟩ := S1.out.store hl
  have S2 := Lib.hid hS2
  clear hl hS2 S1
  go_wp2_with fail
  go_loopw [0, 1, 11] (fun xv yv i wr => ∃ (k : Nat) (x y : Int) (F : Nat → Prop), k ≤ len2 ∧ k ≤ 40 ∧ i = .int .i64 k ∧ xv = .int .u64 x ∧ yv = .int .u64 y ∧ (0 ≤ x ∧ x ≤ 18446744073709551615) ∧ (0 ≤ y ∧ y ≤ 18446744073709551615) ∧ Sep w wr [obStore b F (one 2 9 8 x y 0)]) (fun _ _ i _ => 40 - (intOf i).toNat)
  case atStart => exact ⟨0, a0, a1, F2, Nat.zero_le _, Nat.zero_le _, rfl, rfl, rfl, bd0, bd1, S2.out⟩
  case round =>
    obtain ⟨k, x, y, F, hk, hk4, rfl, rfl, rfl, hx, hy, hS⟩ := hrel
    have HS := Lib.hid hS
    clear hS S2 bd0 bd1
    by_cases hlt : k < len2 ∧ k < 40
    · obtain ⟨hlt, hlt4⟩ := hlt
      rcases H0.out with ⟨h0, _⟩ | ⟨b', off, cap, hv, _, _, hbl, hc⟩
      · have := N0.out; rw [h0] at this; simp at this; omega
      have HCC := Lib.hid (fun W (hW : Below w.heap.size w W) => (hW.cell (p := ⟨b', off + k, none⟩) hbl).trans (hc k (N0.out.symm ▸ hlt)))
      simp only [Value.slice.injEq] at hv
      obtain ⟨rfl, hnl, rfl⟩ := hv
      have hz := HBD.out k hlt
      clear hnl hc
      generalize l2.getD k 0 = z at *
      have c1 := HCC.out wr HS.out.bel
      have HX := Lib.hid hx
      have HY := Lib.hid hy
      have HZ := Lib.hid hz
      clear hx hy hz
      have hpar : ((k : Int) % 2 = 0) ∨ ((k : Int) % 2 = 1) := by omega
      rcases hpar with hp | hp
      · go_wp2_with fail
        refine (rec_begin b F (one 2 9 8 x y 0) 1 (IntKind.u64.wrap (x + 1)) z wr HS.out.head (by decide) (by decide)).mono ?_
        rintro e w3 (⟨_, hc, _⟩ | ⟨_, rfl, hl⟩)
        · exact absurd (show x = IntKind.u64.wrap (x + 1) from hc) (wrap_ne HX.out)
        obtain ⟨F3, hS3⟩ := HS.out.store hl
        have S3 := Lib.hid hS3
        have c3 := HCC.out w3 hS3.bel
        clear hl hS3 HS c1
        go_wp2_with fail
        refine (rec_begin b F3 (one 2 9 8 x y 0) 1 x z w3 S3.out.head (by decide) (by decide)).mono ?_
        rintro e w4 (⟨_, _, rfl, hl⟩ | ⟨hc, _⟩)
        · rw [one_beg] at hl
          obtain ⟨F4, hS4⟩ := S3.out.store hl
          have S4 := Lib.hid hS4
          have c4 := HCC.out w4 hS4.bel
          clear hl hS4 S3 c3
          go_wp2_with fail
          refine (get_live b F4 (one 2 9 8 z y 0) 1 w4 S4.out.head (by decide) (by decide) (one_live _ _ _ _ _ _)).mono ?_
          rw [one_ver]
          simp only [Ver.value]
          rintro e w5 ⟨rfl, hl⟩
          obtain ⟨F5, hS5⟩ := S4.out.store hl
          have S5 := Lib.hid (hS5.below ((Below.refl w5.heap.size w5).alloc (Nat.le_refl _) (.cells #[.int .i64 9, .int .i64 8, .int .u64 z, .int .u64 y, .int .u64 0] 34)))
          clear hl hS5 S4 c4
          go_wp2_with fail
          go_roundw
          case rel => exact ⟨k + 1, z, y, F5, by omega, by omega, by go_num, rfl, rfl, HZ.out, HY.out, S5.out⟩
          case measure => simp [intOf]; omega
        · exact absurd ⟨one_live _ _ _ _ _ _, rfl⟩ hc
      · go_wp2_with fail
        refine (rec_end b F (one 2 9 8 x y 0) 1 (bits .xor .u64 y 1) z wr HS.out.head (by decide) (by decide)).mono ?_
        rintro e w3 (⟨_, hc, _⟩ | ⟨_, rfl, hl⟩)
        · exact absurd (show y = bits .xor .u64 y 1 from hc) (xor_ne HY.out)
        obtain ⟨F3, hS3⟩ := HS.out.store hl
        have S3 := Lib.hid hS3
        have c3 := HCC.out w3 hS3.bel
        clear hl hS3 HS c1
        go_wp2_with fail
        refine (rec_end b F3 (one 2 9 8 x y 0) 1 y z w3 S3.out.head (by decide) (by decide)).mono ?_
        rintro e w4 (⟨_, _, rfl, hl⟩ | ⟨hc, _⟩)
        · rw [one_end] at hl
          obtain ⟨F4, hS4⟩ := S3.out.store hl
          have S4 := Lib.hid hS4
          have c4 := HCC.out w4 hS4.bel
          clear hl hS4 S3 c3
          go_wp2_with fail
          refine (get_live b F4 (one 2 9 8 x z 0) 1 w4 S4.out.head (by decide) (by decide) (one_live _ _ _ _ _ _)).mono ?_
          rw [one_ver]
          simp only [Ver.value]
          rintro e w5 ⟨rfl, hl⟩
          obtain ⟨F5, hS5⟩ := S4.out.store hl
          have S5 := Lib.hid (hS5.below ((Below.refl w5.heap.size w5).alloc (Nat.le_refl _) (.cells #[.int .i64 9, .int .i64 8, .int .u64 x, .int .u64 z, .int .u64 0] 34)))
          clear hl hS5 S4 c4
          go_wp2_with fail
          go_roundw
          case rel => exact ⟨k + 1, x, z, F5, by omega, by omega, by go_num, rfl, rfl, HX.out, HZ.out, S5.out⟩
          case measure => simp [intOf]; omega
        · exact absurd ⟨one_live _ _ _ _ _ _, rfl⟩ hc
    · have hd : decide (k < len2) = false ∨ (decide (k < len2) = true ∧ decide ((k : Int) < 40) = false) := by simp; omega
      clear hlt
      rcases hd with hd | ⟨hd, hd2⟩
      all_goals
        go_wp2_with fail
        refine (awake6_any wr).mono ?_
        rintro e w4 ⟨rfl, b4⟩
        go_wp2_with fail
        go_ret
        exact ⟨rfl, bl_next HS.out.bel b4⟩

end Go.Proofs.Ytjojbfgppgnmjaa
