/- MarkGarbage holds: what is garbage is told as the document says; nobody who lives, or begins later, sees it. No condition. -/
import Derived.Test.YtbihfjehlbaahaaK10
import Derived.Test.YtbihfjehlbaahaaN1
import Derived.Test.YtbihfjehlbaahaaM0
import Derived.Deep.CutRange
import Derived.Deep.CutBlock
import Derived.Deep.DeepCutAuto
namespace Go.Proofs.Ytbihfjehlbaahaa
open Go.RowKit Go.ChangeShapes

def noneL : Int → Tx × Bool := fun _ => (Tx.zero, false)
theorem tells_nil (w : World) : Tells w .nilFunc noneL := .inl ⟨rfl, fun _ => rfl⟩
theorem RowAt.nil_len {k : IntKind} {w : World} {v : Value} (h : RowAt k w v []) : ∃ a cap, v = .slice a 0 cap := by
  rcases h with ⟨_, a, cap, rfl, _⟩ | ⟨b, off, cap, rfl, _⟩
  · exact ⟨a, cap, rfl⟩
  · exact ⟨_, _, rfl⟩
/-- What is garbage is seen by nobody. -/
theorem garb_unseen {L : Int → Tx × Bool} {b e me at_ low : Int} (h : garb e low = true) (hlow : low ≤ at_) : (seeK L b e me at_ = 2 ∨ seeK L b e me at_ = 3) ∧ seeL L b e me at_ = [] := by
  have hk : wordK L e me at_ 1 = 1 := by
    unfold garb at h
    rw [decide_eq_true_iff] at h
    have he : rdK e = 1 ∧ rdN e = e := by
      have := rd_cases e
      omega
    unfold wordK
    rw [if_pos he.1, he.2]
    exact pastK_yes (by omega)
  unfold seeK seeL
  by_cases hb2 : wordK L b me at_ 2 = 2 ∨ wordK L b me at_ 2 = 3
  · rw [if_pos hb2, if_pos hb2]
    exact ⟨hb2, rfl⟩
  · rw [if_neg hb2, if_neg hb2, hk]
    simp [whoL]

set_option maxRecDepth 100000 in
set_option maxHeartbeats 3200000 in
theorem markGarbage_walk {a0 a1 a2 a3 a4 : Int} {w : World} (w0 : (Lit.int .u64 a0).wf = true) (w1 : (Lit.int .u64 a1).wf = true) (w2 : (Lit.int .u64 a2).wf = true) (w3 : (Lit.int .u64 a3).wf = true) (_w4 : (Lit.int .i64 a4).wf = true) :
    Calls Try.prog 3 #[.int .u64 a0, .int .u64 a1, .int .u64 a2, .int .u64 a3, .int .i64 a4] w fun e w' => e = .returned (.bool true) ∧ Below w.heap.size w w' := by
  obtain ⟨b0, b1⟩ := bounds_u64 w0
  obtain ⟨e0, e1⟩ := bounds_u64 w1
  obtain ⟨l0, l1⟩ := bounds_u64 w2
  obtain ⟨t0, t1⟩ := bounds_u64 w3
  have HG := Lib.hid (garbage_any a0 a1 a2 w e0 e1)
  have HR := Lib.hid (fun w => rgarbage_any a1 a2 w)
  have HS := Lib.hid (fun w (me at_ : Int) => see_any a0 a1 me at_ .nilFunc noneL w w (tells_nil w) (Below.refl _ _) b0 b1 e0 e1)
  have m4 := i64_and4095 a4
  obtain ⟨mm, hmm⟩ : ∃ x, a4 % 4096 = x := ⟨_, rfl⟩
  rw [hmm] at m4
  have q2 : 0 ≤ mm ∧ mm < 4096 := by omega
  have x2 : IntKind.i64.wrap (mm + 1) = mm + 1 := IntWalk.i64_in _ (by omega)
  obtain ⟨at_, hat, hlow⟩ : ∃ at_ : Int, (at_ = if a3 ≤ 1099511627776 ∧ a2 ≤ 1099511627776 then a2 + a3 else a2) ∧ a2 ≤ at_ := by
    refine ⟨_, rfl, ?_⟩
    split <;> omega
  have HU := Lib.hid (fun h => @garb_unseen noneL a0 a1 (mm + 1) at_ a2 h hlow)
  have HAT := Lib.hid hat
  clear w0 w1 w2 w3 hmm hat hlow b0 b1 e0 e1
  obtain ⟨g, hg⟩ : ∃ g, garb a1 a2 = g := ⟨_, rfl⟩
  rw [hg] at HG HR HU
  clear hg
  go_enter Try.func3, Try.ntmps3
  go_wp2_with fail
  refine HG.out.mono ?_
  rintro e w2 ⟨rfl, b2⟩
  have B2 := Lib.hid b2
  clear b2 HG
  go_wp2_with fail
  refine (HR.out _).mono ?_
  rintro e w3 ⟨rfl, rfl⟩
  clear HR
  have hgg : (g != g) = false := by simp
  by_cases h1 : a3 ≤ 1099511627776 ∧ a2 ≤ 1099511627776
  · obtain ⟨h3, h2⟩ := h1
    have x5 : IntKind.u64.wrap (a2 + a3) = a2 + a3 := by rw [IntKind.wrap_u64]; omega
    have hat : at_ = a2 + a3 := by rw [HAT.out, if_pos ⟨h3, h2⟩]
    subst hat
    go_wp2_with fail
    refine (HS.out _ _ _).mono ?_
    rintro e w4 ⟨sv, rfl, hi, b4⟩
    have B4 := Lib.hid (bl_next B2.out b4)
    have HI := Lib.hid hi
    clear b4 hi HS
    cases g
    · obtain ⟨sa, sc, hsv, _⟩ : ∃ a cap, sv = .slice a (seeL noneL a0 a1 (mm + 1) (a2 + a3)).length cap ∧ True := by
        rcases HI.out with ⟨h0, a, cap, rfl, _⟩ | ⟨b, off, cap, rfl, _⟩
        · exact ⟨a, cap, by rw [h0]; rfl, trivial⟩
        · exact ⟨_, cap, rfl, trivial⟩
      subst hsv
      clear HI
      generalize (seeL noneL a0 a1 (mm + 1) (a2 + a3)).length = sl at *
      generalize seeK noneL a0 a1 (mm + 1) (a2 + a3) = sk at *
      go_wp2_with fail
      refine (awake17_any _).mono ?_
      rintro e w5 ⟨rfl, b5⟩
      go_wp2_with fail
      go_ret
      exact ⟨rfl, bl_next B4.out b5⟩
    · obtain ⟨hk, hl⟩ := HU.out rfl
      have hi2 := HI.out
      rw [hl] at hi2
      obtain ⟨sa, sc, rfl⟩ := hi2.nil_len
      clear HI hi2 hl HU
      generalize seeK noneL a0 a1 (mm + 1) (a2 + a3) = sk at *
      rcases hk with rfl | rfl
      all_goals
        go_wp2_with fail
        refine (awake17_any _).mono ?_
        rintro e w5 ⟨rfl, b5⟩
        go_wp2_with fail
        go_ret
        exact ⟨rfl, bl_next B4.out b5⟩
  · have hat : at_ = a2 := by rw [HAT.out, if_neg h1]
    subst hat
    have hd : ¬ a3 ≤ 1099511627776 ∨ (a3 ≤ 1099511627776 ∧ ¬ at_ ≤ 1099511627776) := by omega
    rcases hd with hd | ⟨hd, hd2⟩
    all_goals
      go_wp2_with fail
      refine (HS.out _ _ _).mono ?_
      rintro e w4 ⟨sv, rfl, hi, b4⟩
      have B4 := Lib.hid (bl_next B2.out b4)
      have HI := Lib.hid hi
      clear b4 hi HS
      cases g
      · obtain ⟨sa, sc, hsv, _⟩ : ∃ a cap, sv = .slice a (seeL noneL a0 a1 (mm + 1) at_).length cap ∧ True := by
          rcases HI.out with ⟨h0, a, cap, rfl, _⟩ | ⟨b, off, cap, rfl, _⟩
          · exact ⟨a, cap, by rw [h0]; rfl, trivial⟩
          · exact ⟨_, cap, rfl, trivial⟩
        subst hsv
        clear HI
        generalize (seeL noneL a0 a1 (mm + 1) at_).length = sl at *
        generalize seeK noneL a0 a1 (mm + 1) at_ = sk at *
        go_wp2_with fail
        refine (awake17_any _).mono ?_
        rintro e w5 ⟨rfl, b5⟩
        go_wp2_with fail
        go_ret
        exact ⟨rfl, bl_next B4.out b5⟩
      · obtain ⟨hk, hl⟩ := HU.out rfl
        have hi2 := HI.out
        rw [hl] at hi2
        obtain ⟨sa, sc, rfl⟩ := hi2.nil_len
        clear HI hi2 hl HU
        generalize seeK noneL a0 a1 (mm + 1) at_ = sk at *
        rcases hk with rfl | rfl
        all_goals
          go_wp2_with fail
          refine (awake17_any _).mono ?_
          rintro e w5 ⟨rfl, b5⟩
          go_wp2_with fail
          go_ret
          exact ⟨rfl, bl_next B4.out b5⟩
end Go.Proofs.Ytbihfjehlbaahaa
