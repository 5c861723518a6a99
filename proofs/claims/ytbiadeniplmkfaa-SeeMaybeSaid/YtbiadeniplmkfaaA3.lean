/- The document's answer, second part: Begin, End, See compute what the program's do; SameInts compares two rows. -/
import Derived.Test.YtbiadeniplmkfaaA2
namespace Go.Proofs.Ytbiadeniplmkfaa
open Go.RowKit

set_option maxHeartbeats 400000 in
theorem rbegin_any (l : List Oth) (v : Value) (x me at_ : Int) (w : World) (hl : OthAt w v l) (hen : ∀ n, 0 ≤ (lookS l n).1.en) (h0 : 0 ≤ x) (h1 : x ≤ 18446744073709551615) :
    Calls Try.prog 36 #[.int .u64 x, .int .i64 me, .int .u64 at_, v] w fun e w' => e = .returned (.tuple #[.int .i64 (wordK (lookS l) x me at_ 2), .int .i64 (wordN (lookS l) x me at_)]) ∧ Below w.heap.size w w' := by
  have HR := Lib.hid (fun w => ref_read x w h0 h1)
  have HT := Lib.hid (fun w1 n hl => by_any l v n me at_ w1 hl hen)
  have HK := Lib.hid (show wordK (lookS l) x me at_ 2 = if rdK x = 1 then pastK (rdN x) at_ else if rdK x = 2 then sayK (lookS l) (rdN x) me at_ else if rdK x = 3 then 2 else 2 from rfl)
  have HN := Lib.hid (show wordN (lookS l) x me at_ = if rdK x = 2 then sayN (lookS l) (rdN x) me at_ else 0 from rfl)
  have hx := rd_ways x
  have HP := Lib.hid (pastK_ways x at_)
  have HL := Lib.hid hl
  clear hl hen
  generalize rdK x = k at *
  generalize rdN x = n at *
  rcases hx with ⟨rfl, hn, hm⟩ | ⟨rfl, hn, hm⟩ | ⟨rfl, hn⟩ | ⟨rfl, hn, hm⟩
  · have HE := Lib.hid hn
    clear hn
    go_enter Try.func36, Try.ntmps36
    go_wp2_with fail
    refine (HR.out _).mono ?_
    rintro e w1 ⟨rfl, hb1⟩
    go_wp2_with fail
    all_goals
      go_ret2
      have hp := HP.out
      refine ⟨tup2 ?_ (by rw [HN.out]; rfl), bl_alloc hb1 _⟩
      rw [show wordK (lookS l) x me at_ 2 = pastK n at_ from HK.out, HE.out]
      omega
  · go_enter Try.func36, Try.ntmps36
    go_wp2_with fail
    refine (HR.out _).mono ?_
    rintro e w1 ⟨rfl, hb1⟩
    go_wp2_with fail
    refine (HT.out _ _ (HL.out.later (bl_alloc hb1 _))).mono ?_
    rintro e w2 ⟨rfl, hb2⟩
    go_wp2_with fail
    go_ret2
    exact ⟨tup2 (by rw [HK.out]; rfl) (by rw [HN.out]; rfl), bl_next (bl_alloc hb1 _) hb2⟩
  all_goals
    clear hn
    go_enter Try.func36, Try.ntmps36
    go_wp2_with fail
    refine (HR.out _).mono ?_
    rintro e w1 ⟨rfl, hb1⟩
    go_wp2_with fail
    go_ret2
    exact ⟨tup2 (by rw [HK.out]; rfl) (by rw [HN.out]; rfl), bl_alloc hb1 _⟩

set_option maxHeartbeats 400000 in
theorem rend_any (l : List Oth) (v : Value) (x me at_ : Int) (w : World) (hl : OthAt w v l) (hen : ∀ n, 0 ≤ (lookS l n).1.en) (h0 : 0 ≤ x) (h1 : x ≤ 18446744073709551615) :
    Calls Try.prog 37 #[.int .u64 x, .int .i64 me, .int .u64 at_, v] w fun e w' => e = .returned (.tuple #[.int .i64 (wordK (lookS l) x me at_ 1), .int .i64 (wordN (lookS l) x me at_)]) ∧ Below w.heap.size w w' := by
  have HR := Lib.hid (fun w => ref_read x w h0 h1)
  have HT := Lib.hid (fun w1 n hl => by_any l v n me at_ w1 hl hen)
  have HK := Lib.hid (show wordK (lookS l) x me at_ 1 = if rdK x = 1 then pastK (rdN x) at_ else if rdK x = 2 then sayK (lookS l) (rdN x) me at_ else if rdK x = 3 then 2 else 1 from rfl)
  have HN := Lib.hid (show wordN (lookS l) x me at_ = if rdK x = 2 then sayN (lookS l) (rdN x) me at_ else 0 from rfl)
  have hx := rd_ways x
  have HP := Lib.hid (pastK_ways x at_)
  have HL := Lib.hid hl
  clear hl hen
  generalize rdK x = k at *
  generalize rdN x = n at *
  rcases hx with ⟨rfl, hn, hm⟩ | ⟨rfl, hn, hm⟩ | ⟨rfl, hn⟩ | ⟨rfl, hn, hm⟩
  · have HE := Lib.hid hn
    clear hn
    go_enter Try.func37, Try.ntmps37
    go_wp2_with fail
    refine (HR.out _).mono ?_
    rintro e w1 ⟨rfl, hb1⟩
    go_wp2_with fail
    all_goals
      go_ret2
      have hp := HP.out
      refine ⟨tup2 ?_ (by rw [HN.out]; rfl), bl_alloc hb1 _⟩
      rw [show wordK (lookS l) x me at_ 1 = pastK n at_ from HK.out, HE.out]
      omega
  · go_enter Try.func37, Try.ntmps37
    go_wp2_with fail
    refine (HR.out _).mono ?_
    rintro e w1 ⟨rfl, hb1⟩
    go_wp2_with fail
    refine (HT.out _ _ (HL.out.later (bl_alloc hb1 _))).mono ?_
    rintro e w2 ⟨rfl, hb2⟩
    go_wp2_with fail
    go_ret2
    exact ⟨tup2 (by rw [HK.out]; rfl) (by rw [HN.out]; rfl), bl_next (bl_alloc hb1 _) hb2⟩
  all_goals
    clear hn
    go_enter Try.func37, Try.ntmps37
    go_wp2_with fail
    refine (HR.out _).mono ?_
    rintro e w1 ⟨rfl, hb1⟩
    go_wp2_with fail
    go_ret2
    exact ⟨tup2 (by rw [HK.out]; rfl) (by rw [HN.out]; rfl), bl_alloc hb1 _⟩

set_option maxHeartbeats 800000 in
theorem rsee_any (l : List Oth) (v : Value) (b e me at_ : Int) (w : World) (hl : OthAt w v l) (hen : ∀ n, 0 ≤ (lookS l n).1.en) (h0 : 0 ≤ b) (h1 : b ≤ 18446744073709551615) (g0 : 0 ≤ e) (g1 : e ≤ 18446744073709551615) :
    Calls Try.prog 38 #[.int .u64 b, .int .u64 e, .int .i64 me, .int .u64 at_, v] w (RetKInts (seeK (lookS l) b e me at_) (seeL (lookS l) b e me at_) w) := by
  have HB := Lib.hid (rbegin_any l v b me at_ w hl hen h0 h1)
  have HE := Lib.hid (fun w1 hl1 => rend_any l v e me at_ w1 hl1 hen g0 g1)
  have hb := wordK_range (lookS l) b me at_ 2 (.inr rfl)
  have he := wordK_range (lookS l) e me at_ 1 (.inl rfl)
  have HL := Lib.hid hl
  unfold seeK seeL
  clear hen hl
  generalize wordK (lookS l) b me at_ 2 = kb at *
  generalize wordK (lookS l) e me at_ 1 = ke at *
  generalize wordN (lookS l) b me at_ = nb at *
  generalize wordN (lookS l) e me at_ = ne at *
  clear h0 h1 g0 g1
  have hb' : (kb = 1 ∨ kb = 4) ∨ (kb = 2 ∨ kb = 3) := by omega
  clear hb
  rcases hb' with hb' | hb'
  · rcases hb' with rfl | rfl <;> rcases he with rfl | rfl | rfl | rfl
    all_goals
      simp only [reduceIte, Int.reduceEq, or_self, whoL]
      go_enter Try.func38, Try.ntmps38
      go_wp2_with fail
      refine HB.out.mono ?_
      rintro ee w1 ⟨rfl, hb1⟩
      go_wp2_with fail
      refine (HE.out _ (HL.out.later hb1)).mono ?_
      rintro ee w2 ⟨rfl, hb2⟩
      go_wp2_with fail
      go_ret2
      first | exact ⟨_, rfl, IntsAt.nil _, bl_next hb1 hb2⟩ | exact ⟨_, rfl, IntsAt.one _ _ _, bl_alloc (bl_next hb1 hb2) _⟩
  · rcases hb' with rfl | rfl
    all_goals
      simp only [reduceIte, Int.reduceEq, or_true, true_or]
      go_enter Try.func38, Try.ntmps38
      go_wp2_with fail
      refine HB.out.mono ?_
      rintro ee w1 ⟨rfl, hb1⟩
      go_wp2_with fail
      go_ret2
      exact ⟨_, rfl, IntsAt.nil _, hb1⟩
end Go.Proofs.Ytbiadeniplmkfaa
