/- SeeTells holds: whether a begin word, an end word and a version is seen, and on whom that hangs, is the document's answer. No condition. -/
import Derived.Test.YtbiadeniplmkfaaF0
import Derived.Test.YtbiadeniplmkfaaC1
namespace Go.Proofs.Ytbiadeniplmkfaa
open Go.RowKit Go.ChangeShapes

theorem lookS_en {l : List Oth} (h : ∀ i, (l.getD i zeroOth).tx.wf) (n : Int) : 0 ≤ (lookS l n).1.en := by
  unfold lookS
  split
  · exact (bounds_u64 (h _).2.2.2).1
  · decide

set_option maxHeartbeats 800000 in
theorem seeTells_walk {a0 a1 a2 a3 a4 a5 : Int} {a6 : Option Addr} {len cap : Nat} {l : List Oth} {w : World} (_w0 : (Lit.int .i64 a0).wf = true) (w1 : (Lit.int .u64 a1).wf = true) (_w2 : (Lit.int .i64 a2).wf = true) (w3 : (Lit.int .u64 a3).wf = true) (_w4 : (Lit.int .i64 a4).wf = true) (_w5 : (Lit.int .u64 a5).wf = true)
    (_hn : l.length = len) (hl : OthAt w (.slice a6 len cap) l) (hw : ∀ i, (l.getD i zeroOth).tx.wf) :
    Calls Try.prog 10 #[.int .i64 a0, .int .u64 a1, .int .i64 a2, .int .u64 a3, .int .i64 a4, .int .u64 a5, .slice a6 len cap] w fun e w' => e = .returned (.bool true) ∧ Below w.heap.size w w' := by
  by_cases h20 : 20 < len
  · clear hl hw
    go_enter Try.func10, Try.ntmps10
    go_wp2_with fail
    refine (awake7_any _).mono ?_
    rintro e w1 ⟨rfl, hb⟩
    go_wp2_with fail
    go_ret
    exact ⟨rfl, bl_next (bl_alloc (Below.refl _ _) _) hb⟩
  · obtain ⟨g0, g1⟩ := wordOf_range a0 a1 (bounds_u64 w1).1 (bounds_u64 w1).2
    obtain ⟨k0, k1⟩ := wordOf_range a2 a3 (bounds_u64 w3).1 (bounds_u64 w3).2
    have hl1 := hl.later (bl_alloc (Below.refl _ w) (.cells #[.slice a6 len cap] 33))
    have HT := Lib.hid (seeTellsClo_tells l (.slice a6 len cap) w.heap.size (w.alloc (.cells #[.slice a6 len cap] 33)) (by simp) hl1)
    have HL := Lib.hid hl1
    have HE := Lib.hid (lookS_en hw)
    clear hl1 hl hw w1 w3
    go_enter Try.func10, Try.ntmps10
    go_wp2_with (go_at_call 19; refine (word_any _ _ _).mono ?_; rintro e w1 ⟨rfl, rfl⟩)
    generalize wordOf a0 a1 = b at *
    generalize wordOf a2 a3 = e at *
    refine (begin_any b a4 a5 _ _ _ _ HT.out (Below.refl _ _) g0 g1).mono ?_
    rintro ee w1 ⟨rfl, B1⟩
    have c1 : w1.cell? ⟨w.heap.size, 0, none⟩ = some (.slice a6 len cap) := keep B1 (by simp)
    go_wp2_with fail
    refine (rbegin_any l _ b a4 a5 _ (HL.out.later B1) HE.out g0 g1).mono ?_
    rintro ee w2 ⟨rfl, hb2⟩
    have B2 := bl_next B1 hb2
    go_wp2_with fail
    refine (end_any e a4 a5 _ _ _ _ HT.out B2 k0 k1).mono ?_
    rintro ee w3 ⟨rfl, hb3⟩
    have B3 := bl_next B2 hb3
    have c3 := keep hb3 (keep hb2 c1)
    clear c1 hb2 B1 hb3 B2
    go_wp2_with fail
    refine (rend_any l _ e a4 a5 _ (HL.out.later B3) HE.out k0 k1).mono ?_
    rintro ee w4 ⟨rfl, hb4⟩
    have B4 := bl_next B3 hb4
    have c4 := keep hb4 c3
    clear c3 B3 hb4
    go_wp2_with fail
    refine (see_any b e a4 a5 _ _ _ _ HT.out B4 g0 g1 k0 k1).mono ?_
    rintro ee w5 ⟨sv, rfl, hi, hb5⟩
    have B5 := bl_next B4 hb5
    have c5 := keep hb5 c4
    clear c4 B4 hb5
    go_wp2_with fail
    refine (rsee_any l _ b e a4 a5 _ (HL.out.later B5) HE.out g0 g1 k0 k1).mono ?_
    rintro ee w6 ⟨sr, rfl, hi2, hb6⟩
    have B6 := bl_next B5 hb6
    have HI := Lib.hid (hi.later hb6)
    clear c5 B5 hb6 hi
    go_wp2_with fail
    refine (sameInts_any _ _ _ _ _ HI.out hi2).mono ?_
    rintro ee w7 ⟨rfl, hb7⟩
    have B7 := bl_next B6 hb7
    simp only [decide_true]
    go_wp2_with fail
    refine (awake7_any _).mono ?_
    rintro ee w8 ⟨rfl, hb8⟩
    have B8 := bl_next (bl_next B6 hb7) hb8
    go_wp2_with fail
    go_ret
    exact ⟨rfl, bl_next (bl_alloc (Below.refl _ _) _) B8⟩

namespace seeTells
open Go.ChangeShapes Go.WideShapes Go.ChangeAt Go.RowKit
set_option maxRecDepth 100000 in
theorem lifted (os : Os) (started : os.Started) (H : Type) (enc : TypeId × Value → H) :
    ReturnsInHanded {} Try.checked os 10 .any (Rows.seeTellsSpec.pre6 enc Try.prog Try.f10 Rows.seeTellsRow.domain false) (Rows.seeTellsSpec.post enc Try.prog Try.f10 false true false false) := by
  refine returnsInHanded_of_change (C := Try.checked) knobOwn started (by kernel_rfl) Try.func10
    (ChangeSpec.witness6 (enc := enc) (C := Try.checked) false ⟨#[], #[.int .i64 0, .int .u64 0, .int .i64 0, .int .u64 0, .int .i64 0, .int .u64 0, .slice none 0 0], []⟩ 8 (by kernel_rfl) (by kernel_rfl) (by kernel_rfl) (by kernel_rfl)) ?_
  intro W base args ds gs before hval0 hW hcnd _
  have hval : ∀ (j : Nat) t v, Try.f10.params[j]? = some t → args[j]? = some v → Value.okWide Try.prog W .any base t v := hval0
  have hW' := hW
  obtain ⟨p, q, hA0, hV, rfl, hfz, hnd⟩ := hW
  have hA : DataW.TrodAll enc Try.prog W 0 (fun _ => true) true Try.f10.params.toList args.toList ds p := hA0
  rw [Try.params10] at hA hval
  obtain ⟨v0, vs0, d0, ds0, p0, q0, hargs, rfl, rfl, h0, r0⟩ := trodAll_cons hA
  obtain ⟨v1, vs1, d1, ds1, p1, q1, rfl, rfl, rfl, h1, r1⟩ := trodAll_cons r0
  obtain ⟨v2, vs2, d2, ds2, p2, q2, rfl, rfl, rfl, h2, r2⟩ := trodAll_cons r1
  obtain ⟨v3, vs3, d3, ds3, p3, q3, rfl, rfl, rfl, h3, r3⟩ := trodAll_cons r2
  obtain ⟨v4, vs4, d4, ds4, p4, q4, rfl, rfl, rfl, h4, r4⟩ := trodAll_cons r3
  obtain ⟨v5, vs5, d5, ds5, p5, q5, rfl, rfl, rfl, h5, r5⟩ := trodAll_cons r4
  obtain ⟨v6, vs6, d6, ds6, p6, q6, rfl, rfl, rfl, h6, r6⟩ := trodAll_cons r5
  obtain ⟨rfl, rfl, rfl⟩ := trodAll_nil r6
  obtain rfl : args = #[v0, v1, v2, v3, v4, v5, v6] := by cases args; simp_all
  obtain ⟨rfl, rfl⟩ := trodVars_none hV
  obtain ⟨a0, rfl, rfl, rfl, w0⟩ := open_int Try.underlying3 (hval 0 3 v0 rfl rfl) h0
  obtain ⟨a1, rfl, rfl, rfl, w1⟩ := open_int Try.underlying22 (hval 1 22 v1 rfl rfl) h1
  obtain ⟨a2, rfl, rfl, rfl, w2⟩ := open_int Try.underlying3 (hval 2 3 v2 rfl rfl) h2
  obtain ⟨a3, rfl, rfl, rfl, w3⟩ := open_int Try.underlying22 (hval 3 22 v3 rfl rfl) h3
  obtain ⟨a4, rfl, rfl, rfl, w4⟩ := open_int Try.underlying3 (hval 4 3 v4 rfl rfl) h4
  obtain ⟨a5, rfl, rfl, rfl, w5⟩ := open_int Try.underlying22 (hval 5 22 v5 rfl rfl) h5
  obtain ⟨a6, len6, cap6, rfl⟩ := okWide_slice Try.underlying33 (hval 6 33 v6 rfl rfl)
  have lt6 : ∀ x ∈ p6, x.block < W.heap.size := by obtain ⟨m, hm⟩ := h6; exact DataW.trod_lt m _ _ _ hm
  obtain ⟨l6, n6, r106, w6⟩ := open_oth h6
  clear hA0 hval0
  refine (seeTells_walk (w := W) (w0) (w1) (w2) (w3) (w4) (w5) (n6) (r106) (w6)).mono fun e W' ⟨he, bel⟩ => ?_
  subst he
  exact ⟨_, rfl, _, _, _, [], _, [], hW', trodAll_mk1 (shut_bool Try.underlying4 _), (trodAll_cons_mk (shut_int Try.underlying3 w0) (trodAll_cons_mk (shut_int Try.underlying22 w1) (trodAll_cons_mk (shut_int Try.underlying3 w2) (trodAll_cons_mk (shut_int Try.underlying22 w3) (trodAll_cons_mk (shut_int Try.underlying3 w4) (trodAll_cons_mk (shut_int Try.underlying22 w5) (trodAll_cons_mk (Below.trod progLaid (by kernel_rfl) (of_decide_eq_true (by kernel_rfl)) h6 bel lt6) trodAll_mk0))))))), rfl, bel.frame _, fun h => by cases h⟩

theorem over : Rows.seeTellsRow.holds Try.pinned (OpenSpec.ofChange Rows.seeTellsSpec) :=
  OpenClaim.holds_of_wide 10 Try.f10 rfl rfl rfl rfl rfl rfl rfl ⟨rfl, rfl, rfl, rfl, rfl⟩ rfl rfl rfl rfl rfl (by kernel_rfl) Try.func10 (by kernel_rfl)
    (of_decide_eq_true (by kernel_rfl)) (by unfold Func.isWrapper; rw [if_neg (of_decide_eq_false (by kernel_rfl))]; exact ⟨rfl, rfl⟩)
    (fun os started H enc _ => lifted os started H enc)

theorem proved : Rows.SeeTellsSaid := over
#print axioms proved
end seeTells
end Go.Proofs.Ytbiadeniplmkfaa
