/- PoolEnds holds: a pool may have as many slots, and as great tags, as the bounds say; raw links are given back in vain. No condition. -/
import Derived.Test.YtfjoghbkfkbbdaaP5
namespace Go.Proofs.Ytfjoghbkfkbbdaa
open Go.RowKit Go.ChangeShapes

theorem new_bad (n most : Int) (w : World) (h : 4096 < n ∨ 65535 < most) (h0 : 1 ≤ n) (g0 : 0 ≤ most) :
    Calls Try.prog 34 #[.int .i64 n, .int .i64 most] w fun e w' => e = .returned (.tuple #[.pointer none, .int .i64 1]) ∧ w = w' := by
  have hd : decide (4096 < n) = true ∨ (decide (4096 < n) = false ∧ decide (65535 < most) = true) := by simp; omega
  clear h
  rcases hd with hd | ⟨hd, hd2⟩
  all_goals
    go_enter Try.func34, Try.ntmps34
    go_wp2_with fail
    go_ret2
    exact ⟨rfl, rfl⟩

def qa : PS := PS.new 2 0
def qb : PS := ⟨0, [⟨0, true⟩, slot0], [1], true, 0⟩
def qc : PS := ⟨0, [⟨0, false⟩, slot0], [1], true, 1⟩
theorem qa_live (x : Int) : qa.live x = false := by
  unfold PS.live
  have : ∀ i, (qa.sl.getD i slot0).taken = false := by
    intro i
    match i with
    | 0 => rfl
    | 1 => rfl
    | n + 2 => rfl
  rw [this]
  simp
theorem qb_live (x : Int) (h0 : 0 ≤ x) : qb.live x = (x == 1) := by
  by_cases h : x = 1
  · subst h
    decide
  · have hx : (x == 1) = false := by simp [h]
    rw [hx]
    cases hl : qb.live x
    · rfl
    · obtain ⟨i, hi, _, ht, hlk⟩ := live_yes hl
      have hi2 : i < 2 := hi
      match i with
      | 0 =>
        have : (1 : Int) = x := hlk
        omega
      | 1 => cases ht

theorem u64_range {x : Int} (h : (Lit.int .u64 x).wf = true) : 0 ≤ x ∧ x ≤ 18446744073709551615 := by
  have := bounds_u64 h
  omega

set_option maxRecDepth 100000 in
set_option maxHeartbeats 3200000 in
theorem poolEnds_walk {a0 a1 x : Int} {w : World} (_w0 : (Lit.int .i64 a0).wf = true) (_w1 : (Lit.int .i64 a1).wf = true) (_w2 : (Lit.int .u64 x).wf = true) :
    Calls Try.prog 8 #[.int .i64 a0, .int .i64 a1, .int .u64 x] w fun e w' => e = .returned (.bool true) ∧ Below w.heap.size w w' := by
  have m0 := i64_and7 a0
  have m1 := i64_and7 a1
  have hx := u64_range _w2
  obtain ⟨n, hn⟩ : ∃ n : Nat, a0 % 8 = n := ⟨(a0 % 8).toNat, by omega⟩
  obtain ⟨m, hm⟩ : ∃ n : Nat, a1 % 8 = n := ⟨(a1 % 8).toNat, by omega⟩
  have bn : n ≤ 7 := by omega
  have bm : m ≤ 7 := by omega
  rw [hn] at m0
  rw [hm] at m1
  obtain ⟨hx0, hx1⟩ := hx
  have HNEW := Lib.hid (pool_new (4093 + n) (65532 + m) w (by omega))
  have HBAD := Lib.hid (new_bad (4093 + n) (65532 + m) w)
  have HL1 := Lib.hid (qa_live x)
  have HL2 := Lib.hid (qb_live x hx0)
  clear hn hm _w0 _w1 _w2
  by_cases hg : n ≤ 3 ∧ m ≤ 3
  · obtain ⟨g1, g2⟩ := hg
    have HN := Lib.hid (HNEW.out (by omega) (by omega) (by omega))
    have d1 : decide ((4093 + n : Int) ≤ 4096) = true := by simp; omega
    have d2 : decide ((65532 + m : Int) ≤ 65535) = true := by simp; omega
    clear HNEW HBAD
    go_enter Try.func8, Try.ntmps8
    go_wp2_with fail
    have hc := HN.out
    simp only [Int.natCast_add, Int.cast_ofNat_Int] at hc
    refine hc.mono ?_
    rintro e w1 ⟨b, F1, rfl, p1, B1, f1⟩
    clear p1 hc HN f1
    have BB := B1
    clear B1
    go_wp2_with fail
    refine (pool_new 2 0 w1 (by decide) (by decide) (by decide) (by decide)).mono ?_
    rintro e w2 ⟨b2, F2, rfl, p2, B2, f2⟩
    have P2 : Hid (PoolAt w2 b2 F2 qa) := Lib.hid p2
    have C2 := BB.trans (B2.mono BB.size)
    clear p2
    go_wp2_with fail
    refine (pool_live b2 F2 qa x w2 P2.out hx0 hx1).mono ?_
    rintro e w3 ⟨rfl, rfl⟩
    rw [HL1.out]
    go_wp2_with fail
    refine (give_stale b2 F2 qa x w2 P2.out hx0 hx1 HL1.out).mono ?_
    rintro e w3 ⟨rfl, rfl⟩
    go_wp2_with fail
    refine (take_some b2 F2 qa [1] 0 w2 P2.out rfl).mono ?_
    rintro e w3 ⟨rfl, F3, p3, m3, g3⟩
    have P3 : Hid (PoolAt w3 b2 F3 qb) := Lib.hid p3
    have hf2 : ∀ k, F2 k → w.heap.size ≤ k := fun k hk => Nat.le_trans BB.size (f2 k hk)
    have f3 := g3.from_ hf2 C2.size
    have C3 := C2.trans (m3.below hf2 C2.size)
    clear p3 m3 g3 P2
    go_wp2_with fail
    refine (pool_live b2 F3 qb x w3 P3.out hx0 hx1).mono ?_
    rintro e w4 ⟨rfl, rfl⟩
    rw [HL2.out]
    go_wp2_with fail
    refine (pool_give b2 F3 qb 1 w3 P3.out (by decide) (by decide)).mono ?_
    rintro e w4 (⟨h, _⟩ | ⟨_, rfl, F4, p4, m4, g4⟩)
    · exact absurd h (by decide)
    have P4 : Hid (PoolAt w4 b2 F4 qc) := Lib.hid p4
    have f4 := g4.from_ f3 C3.size
    have C4 := C3.trans (m4.below f3 C3.size)
    clear p4 m4 g4 P3
    go_wp2_with fail
    refine (pool_worn b2 F4 qc w4 P4.out).mono ?_
    rintro e w5 ⟨rfl, rfl⟩
    go_wp2_with fail
    refine (pool_free b2 F4 qc w4 P4.out).mono ?_
    rintro e w5 ⟨rfl, F5, p5, m5, g5⟩
    have C5 := C4.trans (m5.below f4 C4.size)
    clear p5 m5 g5 P4
    go_wp2_with fail
    refine (awake3_any w5).mono ?_
    rintro e w6 ⟨rfl, b6⟩
    go_wp2_with fail
    go_ret
    exact ⟨rfl, bl_next C5 b6⟩
  · have hd : decide ((4093 + n : Int) ≤ 4096) = false ∨ (decide ((4093 + n : Int) ≤ 4096) = true ∧ decide ((65532 + m : Int) ≤ 65535) = false) := by simp; omega
    have HB := Lib.hid (HBAD.out (by omega) (by omega) (by omega))
    clear HNEW HBAD hg
    rcases hd with d1 | ⟨d1, d2⟩
    all_goals
      go_enter Try.func8, Try.ntmps8
      go_wp2_with fail
      refine HB.out.mono ?_
      rintro e w1 ⟨rfl, rfl⟩
      have BB := Below.refl w.heap.size w
      go_wp2_with fail
      refine (pool_new 2 0 w (by decide) (by decide) (by decide) (by decide)).mono ?_
      rintro e w2 ⟨b2, F2, rfl, p2, B2, f2⟩
      have P2 : Hid (PoolAt w2 b2 F2 qa) := Lib.hid p2
      have C2 := BB.trans (B2.mono BB.size)
      clear p2
      go_wp2_with fail
      refine (pool_live b2 F2 qa x w2 P2.out hx0 hx1).mono ?_
      rintro e w3 ⟨rfl, rfl⟩
      rw [HL1.out]
      go_wp2_with fail
      refine (give_stale b2 F2 qa x w2 P2.out hx0 hx1 HL1.out).mono ?_
      rintro e w3 ⟨rfl, rfl⟩
      go_wp2_with fail
      refine (take_some b2 F2 qa [1] 0 w2 P2.out rfl).mono ?_
      rintro e w3 ⟨rfl, F3, p3, m3, g3⟩
      have P3 : Hid (PoolAt w3 b2 F3 qb) := Lib.hid p3
      have hf2 : ∀ k, F2 k → w.heap.size ≤ k := fun k hk => Nat.le_trans BB.size (f2 k hk)
      have f3 := g3.from_ hf2 C2.size
      have C3 := C2.trans (m3.below hf2 C2.size)
      clear p3 m3 g3 P2
      go_wp2_with fail
      refine (pool_live b2 F3 qb x w3 P3.out hx0 hx1).mono ?_
      rintro e w4 ⟨rfl, rfl⟩
      rw [HL2.out]
      go_wp2_with fail
      refine (pool_give b2 F3 qb 1 w3 P3.out (by decide) (by decide)).mono ?_
      rintro e w4 (⟨h, _⟩ | ⟨_, rfl, F4, p4, m4, g4⟩)
      · exact absurd h (by decide)
      have P4 : Hid (PoolAt w4 b2 F4 qc) := Lib.hid p4
      have f4 := g4.from_ f3 C3.size
      have C4 := C3.trans (m4.below f3 C3.size)
      clear p4 m4 g4 P3
      go_wp2_with fail
      refine (pool_worn b2 F4 qc w4 P4.out).mono ?_
      rintro e w5 ⟨rfl, rfl⟩
      go_wp2_with fail
      refine (pool_free b2 F4 qc w4 P4.out).mono ?_
      rintro e w5 ⟨rfl, F5, p5, m5, g5⟩
      have C5 := C4.trans (m5.below f4 C4.size)
      clear p5 m5 g5 P4
      go_wp2_with fail
      refine (awake3_any w5).mono ?_
      rintro e w6 ⟨rfl, b6⟩
      go_wp2_with fail
      go_ret
      exact ⟨rfl, bl_next C5 b6⟩

end Go.Proofs.Ytfjoghbkfkbbdaa
