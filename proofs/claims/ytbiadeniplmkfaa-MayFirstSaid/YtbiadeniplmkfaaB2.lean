/- Which versions may be written: Write, the program's and the document's. -/
import Derived.Test.YtbiadeniplmkfaaA2
import Derived.Test.YtbiadeniplmkfaaB1
namespace Go.Proofs.Ytbiadeniplmkfaa
open Go.RowKit

def mayK (L : Int → Tx × Bool) (x me : Int) : Int := if rdK x = 3 then 1 else if rdK x = 2 then (if rdN x = me then 1 else if (toldS L (rdN x)).2 = false then 3 else if (toldS L (rdN x)).1.st = 4 then 1 else 2) else 2
def mayN (L : Int → Tx × Bool) (x me : Int) : Int := if rdK x = 2 then (if rdN x = me then 0 else if (toldS L (rdN x)).2 = false then 0 else rdN x) else 0
theorem may_plain {L : Int → Tx × Bool} {x me : Int} (h : rdK x ≠ 2) : mayK L x me = (if rdK x = 3 then 1 else 2) ∧ mayN L x me = 0 := by
  unfold mayK mayN
  simp [h]
theorem may_own {L : Int → Tx × Bool} {x me : Int} (h : rdK x = 2) (hm : rdN x = me) : mayK L x me = 1 ∧ mayN L x me = 0 := by
  unfold mayK mayN
  simp [h, hm]
theorem may_cases {L : Int → Tx × Bool} {x me : Int} {lv st bg en : Int} {ok : Bool} (h : rdK x = 2) (hm : rdN x ≠ me) (ht : toldS L (rdN x) = (⟨lv, st, bg, en⟩, ok)) :
    (ok = false ∧ mayK L x me = 3 ∧ mayN L x me = 0) ∨ (ok = true ∧ st = 4 ∧ mayK L x me = 1 ∧ mayN L x me = rdN x) ∨ (ok = true ∧ st ≠ 4 ∧ mayK L x me = 2 ∧ mayN L x me = rdN x) := by
  unfold mayK mayN
  rw [ht]
  simp only [h, if_neg hm]
  cases ok
  · simp
  · by_cases a : st = 4
    · simp [a]
    · simp [a]

set_option maxHeartbeats 400000 in
theorem write_any (x me : Int) (lk : Value) (L : Int → Tx × Bool) (w0 w : World) (ht : Tells w0 lk L) (hw : Below w0.heap.size w0 w) (h0 : 0 ≤ x) (h1 : x ≤ 18446744073709551615) :
    Calls Try.prog 16 #[.int .u64 x, .int .i64 me, lk] w fun e w' => e = .returned (.tuple #[.int .i64 (mayK L x me), .int .i64 (mayN L x me)]) ∧ Below w.heap.size w w' := by
  have HR := Lib.hid (fun w => word_read x w h0 h1)
  have hx := rd_ways x
  have HP := Lib.hid (fun h => @may_plain L x me h)
  have HO := Lib.hid (fun h hm => @may_own L x me h hm)
  have HC := Lib.hid (fun lv st bg en ok h hm ht => @may_cases L x me lv st bg en ok h hm ht)
  have HT := Lib.hid (fun w1 n => told_any n lk L w0 w1 ht)
  clear ht
  generalize rdK x = k at *
  generalize rdN x = n at *
  rcases hx with ⟨rfl, hn, hm⟩ | ⟨rfl, hn, hm⟩ | ⟨rfl, hn⟩ | ⟨rfl, hn, hm⟩
  case inr.inl =>
    by_cases hme : n = me
    · have hb : (n == me) = true := by simp [hme]
      have H := Lib.hid (HO.out rfl hme)
      clear hme
      go_enter Try.func16, Try.ntmps16
      go_wp2_with fail
      refine (HR.out _).mono ?_
      rintro e w1 ⟨rfl, hb1⟩
      go_wp2_with fail
      go_ret2
      exact ⟨tup2 H.out.1.symm H.out.2.symm, bl_alloc hb1 _⟩
    · have hb : (n == me) = false := by simp [hme]
      have H := Lib.hid (fun lv st bg en ok ht => HC.out lv st bg en ok rfl hme ht)
      have HT' := Lib.hid (fun w1 hw1 => HT.out w1 n hw1 (by omega) hm)
      clear HC HT
      generalize toldS L n = r at *
      obtain ⟨⟨lv, st, bg, en⟩, ok⟩ := r
      have H' := Lib.hid (H.out _ _ _ _ _ rfl)
      clear H hme
      simp only [Tx.val] at HT'
      cases ok
      all_goals
        go_enter Try.func16, Try.ntmps16
        go_wp2_with fail
        refine (HR.out _).mono ?_
        rintro e w1 ⟨rfl, hb1⟩
        go_wp2_with fail
        refine (HT'.out _ (hw.trans ((bl_alloc hb1 _).mono hw.size))).mono ?_
        rintro e w2 ⟨rfl, hb2⟩
        obtain ⟨hc2, hf2⟩ := bcell hb2
        have hz2 : w1.heap.size < w2.heap.size := by have := hb2.size; simp at this; omega
        simp only [World.size_alloc] at hc2 hf2
        have hB := bl_next (bl_alloc hb1 _) hb2
        go_wp2_with fail
      · go_ret2
        have := H'.out
        simp at this
        exact ⟨tup2 (by omega) (by omega), bl_alloc hB _⟩
      all_goals
        go_quiet (fail)
        go_wp2
        go_ret2
        have := H'.out
        simp only [beq_iff_eq, beq_eq_false_iff_ne, ne_eq, reduceCtorEq, false_and, true_and, false_or] at *
        exact ⟨tup2 (by omega) (by omega), below_drewN (bl_alloc hB _) _⟩
  all_goals
    have H := Lib.hid (HP.out (by decide))
    clear hn
    go_enter Try.func16, Try.ntmps16
    go_wp2_with fail
    refine (HR.out _).mono ?_
    rintro e w1 ⟨rfl, hb1⟩
    go_wp2_with fail
    go_ret2
    exact ⟨tup2 H.out.1.symm H.out.2.symm, bl_alloc hb1 _⟩
set_option maxHeartbeats 400000 in
theorem rwrite_any (l : List Oth) (v : Value) (x me : Int) (w : World) (hl : OthAt w v l) (h0 : 0 ≤ x) (h1 : x ≤ 18446744073709551615) :
    Calls Try.prog 22 #[.int .u64 x, .int .i64 me, v] w fun e w' => e = .returned (.tuple #[.int .i64 (mayK (lookS l) x me), .int .i64 (mayN (lookS l) x me)]) ∧ Below w.heap.size w w' := by
  have HR := Lib.hid (fun w => ref_read x w h0 h1)
  have hx := rd_ways x
  have HP := Lib.hid (fun h => @may_plain (lookS l) x me h)
  have HO := Lib.hid (fun h hm => @may_own (lookS l) x me h hm)
  have HC := Lib.hid (fun lv st bg en ok h hm ht => @may_cases (lookS l) x me lv st bg en ok h hm ht)
  have HT := Lib.hid (fun w1 n hl => look_any l v n w1 hl)
  have HL := Lib.hid hl
  clear hl
  unfold toldS at HC
  generalize rdK x = k at *
  generalize rdN x = n at *
  rcases hx with ⟨rfl, hn, hm⟩ | ⟨rfl, hn, hm⟩ | ⟨rfl, hn⟩ | ⟨rfl, hn, hm⟩
  case inr.inl =>
    by_cases hme : n = me
    · have hb : (n == me) = true := by simp [hme]
      have H := Lib.hid (HO.out rfl hme)
      clear hme
      go_enter Try.func22, Try.ntmps22
      go_wp2_with fail
      refine (HR.out _).mono ?_
      rintro e w1 ⟨rfl, hb1⟩
      go_wp2_with fail
      go_ret2
      exact ⟨tup2 H.out.1.symm H.out.2.symm, bl_alloc hb1 _⟩
    · have hb : (n == me) = false := by simp [hme]
      have H := Lib.hid (fun lv st bg en ok ht => HC.out lv st bg en ok rfl hme ht)
      have HT' := Lib.hid (fun w1 hw1 => HT.out w1 n hw1)
      clear HC HT
      generalize lookS l n = r at *
      obtain ⟨⟨lv, st, bg, en⟩, ok⟩ := r
      have H' := Lib.hid (H.out _ _ _ _ _ rfl)
      clear H hme
      simp only [Tx.val] at HT'
      cases ok
      all_goals
        go_enter Try.func22, Try.ntmps22
        go_wp2_with fail
        refine (HR.out _).mono ?_
        rintro e w1 ⟨rfl, hb1⟩
        go_wp2_with fail
        refine (HT'.out _ (HL.out.later (bl_alloc hb1 _))).mono ?_
        rintro e w2 ⟨rfl, hb2⟩
        obtain ⟨hc2, hf2⟩ := bcell hb2
        have hz2 : w1.heap.size < w2.heap.size := by have := hb2.size; simp at this; omega
        simp only [World.size_alloc] at hc2 hf2
        have hB := bl_next (bl_alloc hb1 _) hb2
        go_wp2_with fail
      · go_ret2
        have := H'.out
        simp at this
        exact ⟨tup2 (by omega) (by omega), bl_alloc hB _⟩
      all_goals
        try (go_quiet (fail); go_wp2)
        go_ret2
        have := H'.out
        simp only [beq_iff_eq, beq_eq_false_iff_ne, ne_eq, Bool.true_and, bne_iff_ne, bne_eq_false_iff_eq] at *
        exact ⟨tup2 (by omega) (by omega), by first | (with_reducible exact below_drewN (bl_alloc hB _) _) | (with_reducible exact bl_alloc hB _)⟩
  all_goals
    have H := Lib.hid (HP.out (by decide))
    clear hn
    go_enter Try.func22, Try.ntmps22
    go_wp2_with fail
    refine (HR.out _).mono ?_
    rintro e w1 ⟨rfl, hb1⟩
    go_wp2_with fail
    go_ret2
    exact ⟨tup2 H.out.1.symm H.out.2.symm, bl_alloc hb1 _⟩
end Go.Proofs.Ytbiadeniplmkfaa
