/- SeeTurned holds: a word of one that has committed says just what its end would say in its place. No condition. -/
import Derived.Test.YtbiadeniplmkfaaF0
import Derived.Test.YtbiadeniplmkfaaC1
namespace Go.Proofs.Ytbiadeniplmkfaa
open Go.RowKit Go.ChangeShapes

theorem lookS_en {l : List Oth} (h : ∀ i, (l.getD i zeroOth).tx.wf) (n : Int) : 0 ≤ (lookS l n).1.en := by
  unfold lookS
  split
  · exact (bounds_u64 (h _).2.2.2).1
  · decide
theorem lookS_en2 {l : List Oth} (h : ∀ i, (l.getD i zeroOth).tx.wf) (n : Int) : (lookS l n).1.en ≤ 18446744073709551615 := by
  unfold lookS
  split
  · exact (bounds_u64 (h _).2.2.2).2
  · decide

def ofN (l : List Oth) (x : Int) : Int := if rdK x = 2 then (lookS l (rdN x)).1.en else 0
def ofB (l : List Oth) (x : Int) : Bool := if rdK x = 2 then ((lookS l (rdN x)).2 && ((lookS l (rdN x)).1.st == 3) && decide ((lookS l (rdN x)).1.en ≤ 1099511627776)) else false
theorem tupub {a b : Int} {c d : Bool} (h : a = b) (g : c = d) : Ending.returned (.tuple #[.int .u64 a, .bool c]) = Ending.returned (.tuple #[.int .u64 b, .bool d]) := by rw [h, g]

set_option maxHeartbeats 800000 in
theorem of_any (l : List Oth) (v : Value) (x : Int) (w : World) (hl : OthAt w v l) (h0 : 0 ≤ x) (h1 : x ≤ 18446744073709551615) :
    Calls Try.prog 31 #[.int .u64 x, v] w fun e w' => e = .returned (.tuple #[.int .u64 (ofN l x), .bool (ofB l x)]) ∧ Below w.heap.size w w' := by
  have HR := Lib.hid (fun w => ref_read x w h0 h1)
  have hx := rd_ways x
  unfold ofN ofB
  have HT := Lib.hid (fun w1 n hl => look_any l v n w1 hl)
  have HL := Lib.hid hl
  clear hl
  generalize rdK x = k at *
  generalize rdN x = n at *
  rcases hx with ⟨rfl, hn, hm⟩ | ⟨rfl, hn, hm⟩ | ⟨rfl, hn⟩ | ⟨rfl, hn, hm⟩
  case inr.inl =>
    have HT' := Lib.hid (fun w1 hw1 => HT.out w1 n hw1)
    clear HT
    simp only [reduceIte]
    generalize lookS l n = r at *
    obtain ⟨⟨lv, st, bg, en⟩, ok⟩ := r
    simp only [Tx.val] at HT' ⊢
    rcases Bool.eq_false_or_eq_true ok with rfl | rfl
    · rcases Bool.eq_false_or_eq_true (st == 3) with e3 | e3
      all_goals
        rcases Bool.eq_false_or_eq_true (decide (en ≤ 1099511627776)) with e4 | e4
      all_goals
        rw [e3, e4]
        go_enter Try.func31, Try.ntmps31
        go_wp2_with fail
        refine (HR.out _).mono ?_
        rintro e w1 ⟨rfl, hb1⟩
        go_wp2_with fail
        refine (HT'.out _ (HL.out.later (bl_alloc hb1 _))).mono ?_
        rintro e w2 ⟨rfl, hb2⟩
        have hB := bl_next (bl_alloc hb1 _) hb2
        go_wp2_with fail
        go_quiet (fail)
        go_wp2
        go_ret2
        exact ⟨tupub rfl rfl, below_drewN (bl_alloc hB _) _⟩
    · go_enter Try.func31, Try.ntmps31
      go_wp2_with fail
      refine (HR.out _).mono ?_
      rintro e w1 ⟨rfl, hb1⟩
      go_wp2_with fail
      refine (HT'.out _ (HL.out.later (bl_alloc hb1 _))).mono ?_
      rintro e w2 ⟨rfl, hb2⟩
      have hB := bl_next (bl_alloc hb1 _) hb2
      go_wp2_with fail
      go_quiet (fail)
      go_wp2
      go_ret2
      exact ⟨tupub rfl rfl, below_drewN (bl_alloc hB _) _⟩
  all_goals
    simp only [Int.reduceEq, reduceIte]
    clear hn
    go_enter Try.func31, Try.ntmps31
    go_wp2_with fail
    refine (HR.out _).mono ?_
    rintro e w1 ⟨rfl, hb1⟩
    go_wp2_with fail
    go_ret2
    exact ⟨tupub rfl rfl, bl_alloc hb1 _⟩

/-- A word of one that committed says what its end says. -/
theorem turned {l : List Oth} {x me at_ : Int} (o : Int) (hl : l.length ≤ 20) (hme : 20 < me) (h : ofB l x = true) (h0 : 0 ≤ ofN l x) :
    wordK (lookS l) (ofN l x) me at_ o = wordK (lookS l) x me at_ o ∧ wordN (lookS l) (ofN l x) me at_ = wordN (lookS l) x me at_ := by
  unfold ofB at h
  by_cases hk : rdK x = 2
  · rw [if_pos hk] at h
    simp only [Bool.and_eq_true, beq_iff_eq, decide_eq_true_iff] at h
    obtain ⟨⟨h1, h2⟩, h3⟩ := h
    have e : ofN l x = (lookS l (rdN x)).1.en := by unfold ofN; rw [if_pos hk]
    rw [← e] at h3
    have r1 := rd_cases (ofN l x)
    have hk1 : rdK (ofN l x) = 1 ∧ rdN (ofN l x) = ofN l x := by omega
    have hid : rdN x ≠ me := by
      intro hh
      have : lookS l (rdN x) = (Tx.zero, false) := by unfold lookS; rw [if_neg (by intro ⟨_, b, _⟩; omega)]
      rw [this] at h1
      cases h1
    unfold wordK wordN sayK sayN toldS
    rw [hk1.1, hk1.2, hk, h1, h2, e]
    simp [hid]
  · rw [if_neg hk] at h
    cases h

set_option maxHeartbeats 1600000 in
theorem seeTurned_walk {a0 a1 a2 a3 a4 a5 : Int} {a6 : Option Addr} {len cap : Nat} {l : List Oth} {w : World} (_w0 : (Lit.int .i64 a0).wf = true) (w1 : (Lit.int .u64 a1).wf = true) (_w2 : (Lit.int .i64 a2).wf = true) (w3 : (Lit.int .u64 a3).wf = true) (_w4 : (Lit.int .i64 a4).wf = true) (_w5 : (Lit.int .u64 a5).wf = true)
    (hn : l.length = len) (hl : OthAt w (.slice a6 len cap) l) (hw : ∀ i, (l.getD i zeroOth).tx.wf) :
    Calls Try.prog 8 #[.int .i64 a0, .int .u64 a1, .int .i64 a2, .int .u64 a3, .int .i64 a4, .int .u64 a5, .slice a6 len cap] w fun e w' => e = .returned (.bool true) ∧ Below w.heap.size w w' := by
  by_cases h20 : 20 < len
  · clear hl hw hn
    go_enter Try.func8, Try.ntmps8
    go_wp2_with fail
    refine (awake7_any _).mono ?_
    rintro e w1 ⟨rfl, hb⟩
    go_wp2_with fail
    go_ret
    exact ⟨rfl, bl_next (bl_alloc (Below.refl _ _) _) hb⟩
  · obtain ⟨g0, g1⟩ := wordOf_range a0 a1 (bounds_u64 w1).1 (bounds_u64 w1).2
    obtain ⟨k0, k1⟩ := wordOf_range a2 a3 (bounds_u64 w3).1 (bounds_u64 w3).2
    have hl1 := hl.later (bl_alloc (Below.refl _ w) (.cells #[.slice a6 len cap] 33))
    have HT := Lib.hid (seeTurnedClo_tells l (.slice a6 len cap) w.heap.size (w.alloc (.cells #[.slice a6 len cap] 33)) (by simp) hl1)
    have HL := Lib.hid hl1
    have m1 := i64_and255 a4
    have hmr : 0 ≤ a4 % 256 ∧ a4 % 256 < 256 := by omega
    have HB : Hid (∀ x o, ofB l x = true → wordK (lookS l) (ofN l x) (a4 % 256 + 100) a5 o = wordK (lookS l) x (a4 % 256 + 100) a5 o ∧ wordN (lookS l) (ofN l x) (a4 % 256 + 100) a5 = wordN (lookS l) x (a4 % 256 + 100) a5 ∧ 0 ≤ ofN l x ∧ ofN l x ≤ 18446744073709551615) := by
      intro x o h
      have e0 : 0 ≤ ofN l x ∧ ofN l x ≤ 18446744073709551615 := by
        unfold ofN
        split
        · exact ⟨lookS_en hw _, lookS_en2 hw _⟩
        · decide
      have := @turned l x (a4 % 256 + 100) a5 o (by omega) (by omega) h e0.1
      exact ⟨this.1, this.2, e0.1, e0.2⟩
    clear hl1 hl hw w1 w3 hn
    go_enter Try.func8, Try.ntmps8
    go_wp2_with (go_at_call 19; refine (word_any _ _ _).mono ?_; rintro e w1 ⟨rfl, rfl⟩)
    generalize wordOf a0 a1 = b at *
    generalize wordOf a2 a3 = e at *
    generalize a4 % 256 + 100 = me at *
    refine (of_any l _ b _ HL.out g0 g1).mono ?_
    rintro ee w1 ⟨rfl, B1⟩
    have c1 : w1.cell? ⟨w.heap.size, 0, none⟩ = some (.slice a6 len cap) := keep B1 (by simp)
    have hb := HB.out b
    have he := HB.out e
    have HP := Lib.hid (show ∃ p, (if ofB l b = true then ofN l b else b) = p ∧ 0 ≤ p ∧ p ≤ 18446744073709551615 ∧ wordK (lookS l) p me a5 2 = wordK (lookS l) b me a5 2 ∧ wordN (lookS l) p me a5 = wordN (lookS l) b me a5 from by
      split
      · exact ⟨_, rfl, (hb 2 ‹_›).2.2.1, (hb 2 ‹_›).2.2.2, (hb 2 ‹_›).1, (hb 2 ‹_›).2.1⟩
      · exact ⟨_, rfl, g0, g1, rfl, rfl⟩)
    have HQ := Lib.hid (show ∃ p, (if ofB l e = true then ofN l e else e) = p ∧ 0 ≤ p ∧ p ≤ 18446744073709551615 ∧ wordK (lookS l) p me a5 1 = wordK (lookS l) e me a5 1 ∧ wordN (lookS l) p me a5 = wordN (lookS l) e me a5 from by
      split
      · exact ⟨_, rfl, (he 1 ‹_›).2.2.1, (he 1 ‹_›).2.2.2, (he 1 ‹_›).1, (he 1 ‹_›).2.1⟩
      · exact ⟨_, rfl, k0, k1, rfl, rfl⟩)
    clear hb he HB
    obtain ⟨p, ep, p0, p1, pk, pn⟩ := HP.out
    obtain ⟨q, eq, q0, q1, qk, qn⟩ := HQ.out
    have E1 := Lib.hid (show seeK (lookS l) p q me a5 = seeK (lookS l) b e me a5 by unfold seeK; rw [pk, qk])
    have E2 := Lib.hid (show seeL (lookS l) p q me a5 = seeL (lookS l) b e me a5 by unfold seeL; rw [pk, qk, pn, qn])
    clear HP HQ pk qk pn qn
    have HP := Lib.hid ep
    have HQ := Lib.hid eq
    clear ep eq
    have hob := Bool.eq_false_or_eq_true (ofB l b)
    have hoe := Bool.eq_false_or_eq_true (ofB l e)
    generalize ofB l b = ob at *
    generalize ofN l b = nb at *
    rcases hob with rfl | rfl
    all_goals
      have hp := HP.out
      simp only [reduceIte, Bool.false_eq_true] at hp
      subst hp
      clear HP
      go_wp2_with fail
      refine (of_any l _ e _ (HL.out.later B1) k0 k1).mono ?_
      rintro ee w2 ⟨rfl, hb2⟩
      have B2 := bl_next B1 hb2
      generalize ofB l e = oe at *
      generalize ofN l e = ne at *
      rcases hoe with rfl | rfl
      all_goals
        have hq := HQ.out
        simp only [reduceIte, Bool.false_eq_true] at hq
        subst hq
        clear HQ
        go_wp2_with fail
        refine (see_any b e me a5 _ _ _ _ HT.out B2 g0 g1 k0 k1).mono ?_
        rintro ee w3 ⟨sv, rfl, hi, hb3⟩
        have B3 := bl_next B2 hb3
        go_wp2_with fail
        refine (see_any _ _ me a5 _ _ _ _ HT.out B3 (by assumption) (by assumption) (by assumption) (by assumption)).mono ?_
        rintro ee w4 ⟨sr, rfl, hi2, hb4⟩
        have B4 := bl_next B3 hb4
        have HI := Lib.hid (hi.later hb4)
        try rw [E2.out] at hi2
        try rw [E1.out]
        clear hi
        go_wp2_with fail
        refine (sameInts_any _ _ _ _ _ HI.out hi2).mono ?_
        rintro ee w5 ⟨rfl, hb5⟩
        simp only [decide_true]
        go_wp2_with fail
        refine (awake7_any _).mono ?_
        rintro ee w6 ⟨rfl, hb6⟩
        have B6 := bl_next (bl_next B4 hb5) hb6
        go_wp2_with fail
        go_ret
        exact ⟨rfl, bl_next (bl_alloc (Below.refl _ _) _) B6⟩

namespace seeTurned
open Go.ChangeShapes Go.WideShapes Go.ChangeAt Go.RowKit
set_option maxRecDepth 100000 in
theorem lifted (os : Os) (started : os.Started) (H : Type) (enc : TypeId × Value → H) :
    ReturnsInHanded {} Try.checked os 8 .any (Rows.seeTurnedSpec.pre6 enc Try.prog Try.f8 Rows.seeTurnedRow.domain false) (Rows.seeTurnedSpec.post enc Try.prog Try.f8 false true false false) := by
  refine returnsInHanded_of_change (C := Try.checked) knobOwn started (by kernel_rfl) Try.func8
    (ChangeSpec.witness6 (enc := enc) (C := Try.checked) false ⟨#[], #[.int .i64 0, .int .u64 0, .int .i64 0, .int .u64 0, .int .i64 0, .int .u64 0, .slice none 0 0], []⟩ 8 (by kernel_rfl) (by kernel_rfl) (by kernel_rfl) (by kernel_rfl)) ?_
  intro W base args ds gs before hval0 hW hcnd _
  have hval : ∀ (j : Nat) t v, Try.f8.params[j]? = some t → args[j]? = some v → Value.okWide Try.prog W .any base t v := hval0
  have hW' := hW
  obtain ⟨p, q, hA0, hV, rfl, hfz, hnd⟩ := hW
  have hA : DataW.TrodAll enc Try.prog W 0 (fun _ => true) true Try.f8.params.toList args.toList ds p := hA0
  rw [Try.params8] at hA hval
  obtain ⟨v0, vs0, d0, ds0, p0, q0, hargs, rfl, rfl, h0, r0⟩ := trodAll_cons hA
  obtain ⟨v1, vs1, d1, ds1, p1, q1, rfl, rfl, rfl, h1, r1⟩ := trodAll_cons r0
  obtain ⟨v2, vs2, d2, ds2, p2, q2, rfl, rfl, rfl, h2, r2⟩ := trodAll_cons r1
  obtain ⟨v3, vs3, d3, ds3, p3, q3, rfl, rfl, rfl, h3, r3⟩ := trodAll_cons r2
  obtain ⟨v4, vs4, d4, ds4, p4, q4, rfl, rfl, rfl, h4, r4⟩ := trodAll_cons r3
  obtain ⟨v5, vs5, d5, ds5, p5, q5, rfl, rfl, rfl, h5, r5⟩ := trodAll_cons r4
  obtain ⟨v6, vs6, d6, ds6, p6, q6, rfl, rfl, rfl, h6, r6⟩ := trodAll_cons r5
  obtain ⟨rfl, rfl, rfl⟩ := trodAll_nil r6
  obtain rfl : args = #[v0, v1, v2, v3, v4, v5, v6] := by cases args; simp_all
  obtain ⟨rfl, rfl⟩ := trodVars_none hV
  obtain ⟨a0, rfl, rfl, rfl, w0⟩ := open_int Try.underlying3 (hval 0 3 v0 rfl rfl) h0
  obtain ⟨a1, rfl, rfl, rfl, w1⟩ := open_int Try.underlying22 (hval 1 22 v1 rfl rfl) h1
  obtain ⟨a2, rfl, rfl, rfl, w2⟩ := open_int Try.underlying3 (hval 2 3 v2 rfl rfl) h2
  obtain ⟨a3, rfl, rfl, rfl, w3⟩ := open_int Try.underlying22 (hval 3 22 v3 rfl rfl) h3
  obtain ⟨a4, rfl, rfl, rfl, w4⟩ := open_int Try.underlying3 (hval 4 3 v4 rfl rfl) h4
  obtain ⟨a5, rfl, rfl, rfl, w5⟩ := open_int Try.underlying22 (hval 5 22 v5 rfl rfl) h5
  obtain ⟨a6, len6, cap6, rfl⟩ := okWide_slice Try.underlying33 (hval 6 33 v6 rfl rfl)
  have lt6 : ∀ x ∈ p6, x.block < W.heap.size := by obtain ⟨m, hm⟩ := h6; exact DataW.trod_lt m _ _ _ hm
  obtain ⟨l6, n6, r106, w6⟩ := open_oth h6
  clear hA0 hval0
  refine (seeTurned_walk (w := W) (w0) (w1) (w2) (w3) (w4) (w5) (n6) (r106) (w6)).mono fun e W' ⟨he, bel⟩ => ?_
  subst he
  exact ⟨_, rfl, _, _, _, [], _, [], hW', trodAll_mk1 (shut_bool Try.underlying4 _), (trodAll_cons_mk (shut_int Try.underlying3 w0) (trodAll_cons_mk (shut_int Try.underlying22 w1) (trodAll_cons_mk (shut_int Try.underlying3 w2) (trodAll_cons_mk (shut_int Try.underlying22 w3) (trodAll_cons_mk (shut_int Try.underlying3 w4) (trodAll_cons_mk (shut_int Try.underlying22 w5) (trodAll_cons_mk (Below.trod progLaid (by kernel_rfl) (of_decide_eq_true (by kernel_rfl)) h6 bel lt6) trodAll_mk0))))))), rfl, bel.frame _, fun h => by cases h⟩

theorem over : Rows.seeTurnedRow.holds Try.pinned (OpenSpec.ofChange Rows.seeTurnedSpec) :=
  OpenClaim.holds_of_wide 8 Try.f8 rfl rfl rfl rfl rfl rfl rfl ⟨rfl, rfl, rfl, rfl, rfl⟩ rfl rfl rfl rfl rfl (by kernel_rfl) Try.func8 (by kernel_rfl)
    (of_decide_eq_true (by kernel_rfl)) (by unfold Func.isWrapper; rw [if_neg (of_decide_eq_false (by kernel_rfl))]; exact ⟨rfl, rfl⟩)
    (fun os started H enc _ => lifted os started H enc)

theorem proved : Rows.SeeTurnedSaid := over
#print axioms proved
end seeTurned
end Go.Proofs.Ytbiadeniplmkfaa
