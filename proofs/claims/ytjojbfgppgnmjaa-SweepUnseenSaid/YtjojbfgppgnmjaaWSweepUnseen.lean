/- SweepUnseen holds: what is swept is seen by nobody who looks at the lowest time or later, whoever it is. No condition. -/
import Derived.Test.YtjojbfgppgnmjaaN8
import Derived.Test.YtjojbfgppgnmjaaN9
namespace Go.Proofs.Ytjojbfgppgnmjaa
open Go.RowKit Go.ChangeShapes

theorem lookS_en {l : List Oth} (h : ∀ i, (l.getD i zeroOth).tx.wf) (n : Int) : 0 ≤ (lookS l n).1.en := by
  unfold lookS
  split
  · exact (bounds_u64 (h _).2.2.2).1
  · decide
/-- What is garbage is seen by nobody. -/
theorem unseen {L : Int → Tx × Bool} {b e me at_ low : Int} (h : deadB L low b e = true) (hlow : low ≤ at_) (hb : ¬ b = 4611686018427387904 + me) : (seeK L b e me at_ = 2 ∨ seeK L b e me at_ = 3) ∧ seeL L b e me at_ = [] := by
  have hbk := wordK_range L b me at_ 2 (.inr rfl)
  have main : (wordK L b me at_ 2 = 2 ∨ wordK L b me at_ 2 = 3) ∨ wordK L e me at_ 1 = 1 := by
    unfold deadB at h
    rw [Bool.or_eq_true] at h
    rcases h with h | h
    · right
      unfold garb at h
      rw [decide_eq_true_iff] at h
      have he : rdK e = 1 ∧ rdN e = e := by
        have := rd_cases e
        omega
      unfold wordK
      rw [if_pos he.1, he.2]
      exact pastK_yes (by omega)
    · left
      rw [Bool.and_eq_true] at h
      obtain ⟨h1, h2⟩ := h
      have h1 : rdK b = 2 := by simpa using h1
      have hn : ¬ rdN b = me := by
        have := rd_cases b
        omega
      unfold wordK
      rw [if_neg (by rw [h1]; decide), if_pos h1]
      unfold sayK
      rw [if_neg hn]
      unfold lostS at h2
      unfold toldS
      generalize L (rdN b) = r at *
      obtain ⟨⟨lv, st, bg, en⟩, ok⟩ := r
      simp only at h2 ⊢
      cases ok
      · simp
      · simp only [Bool.not_true, Bool.false_or, Bool.or_eq_true, beq_iff_eq, Bool.and_eq_true] at h2
        rcases h2 with rfl | ⟨rfl, _⟩
        · simp
        · simp
  unfold seeK seeL
  rcases main with hk | hk
  · rw [if_pos hk, if_pos hk]
    exact ⟨hk, rfl⟩
  · by_cases hb2 : wordK L b me at_ 2 = 2 ∨ wordK L b me at_ 2 = 3
    · rw [if_pos hb2, if_pos hb2]
      exact ⟨hb2, rfl⟩
    · rw [if_neg hb2, if_neg hb2, hk]
      simp [whoL]
theorem RowAt.nil_len {k : IntKind} {w : World} {v : Value} (h : RowAt k w v []) : ∃ a cap, v = .slice a 0 cap := by
  rcases h with ⟨_, a, cap, rfl, _⟩ | ⟨b, off, cap, rfl, _⟩
  · exact ⟨a, cap, rfl⟩
  · exact ⟨_, _, rfl⟩
theorem RowAt.cell_ {k : IntKind} {w : World} {a : Option Addr} {n cap : Nat} {l : List Int} (h : RowAt k w (.slice a n cap) l) {i : Nat} (hi : i < l.length) (hn : n = l.length) : ∃ b off, a = some ⟨b, off, none⟩ ∧ b < w.heap.size ∧ ∀ j, j < l.length → w.cell? ⟨b, off + j, none⟩ = some (.int k (l.getD j 0)) := by
  rcases h with ⟨rfl, _⟩ | ⟨b, off, cap', hv, _, _, hb, hc⟩
  · simp at hi
  · simp only [Value.slice.injEq] at hv
    obtain ⟨rfl, _, _⟩ := hv
    exact ⟨b, off, rfl, hb, hc⟩

set_option maxRecDepth 100000 in
set_option maxHeartbeats 1600000 in
theorem sweepUnseen_walk {a0 a1 a3 : Option Addr} {len0 len1 len3 cap0 cap1 cap3 : Nat} {a2 a4 a5 : Int} {l0 l1 : List Int} {l3 : List Oth} {w : World} (n0 : l0.length = len0) (r0 : RowAt .i64 w (.slice a0 len0 cap0) l0) (_w0 : ∀ x ∈ l0, (Lit.int .i64 x).wf = true)
    (n1 : l1.length = len1) (r1 : RowAt .u64 w (.slice a1 len1 cap1) l1) (w1 : ∀ x ∈ l1, (Lit.int .u64 x).wf = true) (_w2 : (Lit.int .u64 a2).wf = true) (n3 : l3.length = len3) (r3 : OthAt w (.slice a3 len3 cap3) l3) (_w3 : ∀ i, (l3.getD i zeroOth).tx.wf)
    (_w4 : (Lit.int .i64 a4).wf = true) (_w5 : (Lit.int .u64 a5).wf = true) :
    Calls Try.prog 14 #[.slice a0 len0 cap0, .slice a1 len1 cap1, .int .u64 a2, .slice a3 len3 cap3, .int .i64 a4, .int .u64 a5] w fun e w' => e = .returned (.bool true) ∧ Below w.heap.size w w' := by
  subst n0 n1
  by_cases h20 : 20 < len3
  · clear r0 r1 w1 r3
    have h20' : (20 : Int) < len3 := by omega
    go_enter Try.func14, Try.ntmps14
    go_wp2_with fail
    refine (awake22_any _).mono ?_
    rintro e w1 ⟨rfl, hb⟩
    go_wp2_with fail
    go_ret
    exact ⟨rfl, bl_next (bl_alloc (Below.refl _ _) _) hb⟩
  · have m2 := u64_and1099511627775 a2
    have m4 := i64_and4095 a4
    have m5 := u64_and255 a5
    obtain ⟨low, hlow⟩ : ∃ x, a2 % 1099511627776 = x := ⟨_, rfl⟩
    obtain ⟨mm, hmm⟩ : ∃ x, a4 % 4096 = x := ⟨_, rfl⟩
    obtain ⟨lt, hlt⟩ : ∃ x, a5 % 256 = x := ⟨_, rfl⟩
    rw [hlow] at m2
    rw [hmm] at m4
    rw [hlt] at m5
    have q1 : 0 ≤ low ∧ low < 1099511627776 := by omega
    have q2 : 0 ≤ mm ∧ mm < 4096 := by omega
    have q3 : 0 ≤ lt ∧ lt < 256 := by omega
    have x1 : IntKind.u64.wrap (low + lt) = low + lt := by rw [IntKind.wrap_u64]; omega
    have x2 : IntKind.i64.wrap (mm + 100) = mm + 100 := IntWalk.i64_in _ (by omega)
    have hl1 := r3.later (bl_alloc (Below.refl _ w) (.cells #[.slice a3 len3 cap3] 73))
    have HT := Lib.hid (sweepUnseenClo_tells l3 (.slice a3 len3 cap3) w.heap.size (w.alloc (.cells #[.slice a3 len3 cap3] 73)) (by simp) hl1)
    have HK := Lib.hid r0
    have HN := Lib.hid r1
    have HW := Lib.hid w1
    clear hl1 r0 r1 r3 hlow hmm hlt w1
    go_enter Try.func14, Try.ntmps14
    go_wp2_with fail
    go_loopw [15] (fun iv wr => ∃ (i : Nat), i ≤ 30 ∧ iv = .int .i64 i ∧ Below (w.alloc (.cells #[.slice a3 len3 cap3] 73)).heap.size (w.alloc (.cells #[.slice a3 len3 cap3] 73)) wr) (fun iv _ => 30 - (intOf iv).toNat)
    case atStart => exact ⟨0, Nat.zero_le _, rfl, Below.refl _ _⟩
    case round =>
      obtain ⟨i, hi, rfl, hB⟩ := hrel
      have HB := Lib.hid hB
      have HBW := Lib.hid (show Below w.heap.size w wr from bl_next (bl_alloc (Below.refl _ _) _) hB)
      have x3 : IntKind.i64.wrap ((i : Int) + 1) = (i : Int) + 1 := IntWalk.i64_in _ (by omega)
      by_cases hin : i < l0.length ∧ i + 1 < l1.length ∧ i < 30
      · obtain ⟨h1, h2, h3⟩ := hin
        obtain ⟨b0, o0, rfl, g0, c0⟩ := (HK.out.later HBW.out).cell_ h1 rfl
        obtain ⟨b1, o1, rfl, g1, c1⟩ := (HN.out.later HBW.out).cell_ (i := i) (by omega) rfl
        have d0 := c0 i h1
        have d1 := c1 i (by omega)
        have d2 := c1 (i + 1) h2
        have e1 := HW.out _ (getD_mem (show i < l1.length by omega))
        have e2 := HW.out _ (getD_mem h2)
        clear c0 c1 hB
        have hi1 : i < l1.length := by omega
        have p0 : (0 : Int) ≤ i := by omega
        have p1 : (i : Int) < l1.length := by omega
        have p2 : (i : Int) < l0.length := by omega
        have p3 : (i : Int) + 1 < l1.length := by omega
        have p4 : (0 : Int) ≤ (i : Int) + 1 := by omega
        have x4 : ((i : Int) + 1).toNat = i + 1 := by omega
        generalize l0.getD i 0 = k0 at *
        generalize l1.getD i 0 = x0 at *
        generalize l1.getD (i + 1) 0 = x1' at *
        go_wp2_with fail
        go_quiet ((go_at_call 47; refine Calls.quiet_of_same ((word_any _ _ _).mono fun _ _ h => ⟨h.1, h.2.symm⟩)))
        have HQ := Lib.hid (show Below wr.heap.size wr (wr.drewN nq) from below_drewN (Below.refl _ _) nq)
        obtain ⟨g1, g2⟩ := wordOf_range k0 x0 (bounds_u64 e1).1 (bounds_u64 e1).2
        obtain ⟨g3, g4⟩ := wordOf_range (k0 / 4) x1' (bounds_u64 e2).1 (bounds_u64 e2).2
        clear d0 d1 d2 e1 e2
        generalize wordOf k0 x0 = b at *
        generalize wordOf (k0 / 4) x1' = e at *
        have x5 : IntKind.u64.wrap (mm + 100) = mm + 100 := by rw [IntKind.wrap_u64]; omega
        have x6 : IntKind.u64.wrap (4611686018427387904 + (mm + 100)) = 4611686018427387904 + (mm + 100) := by rw [IntKind.wrap_u64]; omega
        have HT1 := Lib.hid (HT.out.at_ (bl_next HB.out HQ.out))
        by_cases hbq : b = 4611686018427387904 + (mm + 100)
        · have hb1 : (b == 4611686018427387904 + (mm + 100)) = true := by simpa using hbq
          clear hbq
          go_wp2_with fail
          go_roundw
          case rel => exact ⟨i + 1, by omega, by go_num, bl_next HB.out HQ.out⟩
          case measure => simp [intOf]; omega
        · have hb1 : (b == 4611686018427387904 + (mm + 100)) = false := by simpa using hbq
          have HNB := Lib.hid hbq
          clear hbq
          have HD := Lib.hid (dead_any 1 0 b e 0 low _ _ _ HT1.out g1 g2 g3 g4)
          rcases Bool.eq_false_or_eq_true (deadB (lookS l3) low b e) with hdd | hdd
          · have hus := unseen (at_ := low + lt) hdd (by omega) HNB.out
            rw [hdd] at HD
            have HS := Lib.hid (fun w1 (hw1 : Below (wr.drewN nq).heap.size (wr.drewN nq) w1) => see_any b e (mm + 100) (low + lt) _ _ _ w1 HT1.out hw1 g1 g2 g3 g4)
            rw [hus.2] at HS
            obtain ⟨sk, hsk⟩ : ∃ x, seeK (lookS l3) b e (mm + 100) (low + lt) = x := ⟨_, rfl⟩
            rw [hsk] at HS hus
            have hus1 := hus.1
            clear hdd hus hsk
            go_wp2_with fail
            refine HD.out.mono ?_
            rintro r w2 ⟨rfl, hb2⟩
            have HB2 := Lib.hid hb2
            clear hb2 HD
            go_wp2_with fail
            refine (HS.out _ HB2.out).mono ?_
            rintro r w3 ⟨sv, rfl, hi3, hb3⟩
            have HB3 := Lib.hid (bl_next HB2.out hb3)
            obtain ⟨sa, sc, rfl⟩ := hi3.nil_len
            clear hi3 hb3 HS
            rcases hus1 with rfl | rfl
            all_goals
              go_wp2_with fail
              go_roundw
              case rel => exact ⟨i + 1, by omega, by go_num, bl_next HB.out (bl_next HQ.out HB3.out)⟩
              case measure => simp [intOf]; omega
          · rw [hdd] at HD
            clear hdd
            go_wp2_with fail
            refine HD.out.mono ?_
            rintro r w2 ⟨rfl, hb2⟩
            have HB2 := Lib.hid hb2
            clear hb2 HD
            go_wp2_with fail
            go_roundw
            case rel => exact ⟨i + 1, by omega, by go_num, bl_next HB.out (bl_next HQ.out HB2.out)⟩
            case measure => simp [intOf]; omega
      · clear hB
        have hd : (l0.length : Int) ≤ i ∨ ((i : Int) < l0.length ∧ (l1.length : Int) ≤ (i : Int) + 1) ∨ ((i : Int) < l0.length ∧ (i : Int) + 1 < l1.length ∧ i = 30) := by omega
        clear hin
        rcases hd with hd | ⟨hd, hd2⟩ | ⟨hd, hd2, rfl⟩
        all_goals
          go_wp2_with fail
          refine (awake22_any _).mono ?_
          rintro e w1 ⟨rfl, hb⟩
          go_wp2_with fail
          go_ret
          exact ⟨rfl, bl_next HBW.out hb⟩
end Go.Proofs.Ytjojbfgppgnmjaa
