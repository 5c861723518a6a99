/- sweep.lost, sweep.Dead over any teller; the teller of a law: a closure that looks into a list of told transactions. -/
import Derived.Test.YtjojbfgppgnmjaaN3
namespace Go.Proofs.Ytjojbfgppgnmjaa
open Go.RowKit

/-- Whether who made a version is gone. -/
def lostS (L : Int → Tx × Bool) (id : Int) : Bool := !(L id).2 || (((L id).1.st == 4) || (((L id).1.st == 5) && ((L id).1.en == 0)))

set_option maxHeartbeats 800000 in
theorem lost_any (n : Int) (lk : Value) (L : Int → Tx × Bool) (w : World) (ht : Tells w lk L) :
    Calls Try.prog 73 #[.int .i64 n, lk] w fun e w' => e = .returned (.bool (lostS L n)) ∧ Below w.heap.size w w' := by
  rcases ht with ⟨rfl, hz⟩ | ⟨f, caps, rfl, hcf, hc⟩
  · have hz' := Lib.hid (hz n)
    clear hz
    have hrun : ∀ w : World, (binOp .eql 78 .nilFunc .nilFunc).run Try.prog w = .ok (.bool true) w := fun w => by kernel_rfl
    go_enter Try.func73, Try.ntmps73
    go_wp2_with fail
    go_ret
    exact ⟨by simp [lostS, hz'.out], Below.refl _ _⟩
  · have hc' : ∀ w1, Below w.heap.size w w1 → Calls Try.prog f (#[.int .i64 n] ++ caps) w1 fun e w2 => e = .returned (.tuple #[(L n).1.val, .bool (L n).2]) ∧ Below w1.heap.size w1 w2 := fun w1 h => hc w1 n h
    clear hc
    unfold lostS
    generalize L n = r at *
    obtain ⟨⟨lv, st, bg, en⟩, ok⟩ := r
    simp only [Tx.val] at *
    have HC := Lib.hid hc'
    clear hc'
    have hrun : ∀ w : World, (binOp .eql 78 (.func (.func f) #[] caps) .nilFunc).run Try.prog w = .ok (.bool false) w := fun w => by kernel_rfl
    rcases Bool.eq_false_or_eq_true (st == 4) with e4 | e4 <;> rcases Bool.eq_false_or_eq_true (st == 5) with e5 | e5 <;> rcases Bool.eq_false_or_eq_true (en == 0) with e0 | e0 <;> cases ok
    all_goals
      rw [e4, e5, e0]
      go_enter Try.func73, Try.ntmps73
      go_wp2_with fail
      refine (HC.out _ (Below.refl _ _)).mono ?_
      rintro e w1 ⟨rfl, hb1⟩
      go_wp2_with fail
      go_ret
      exact ⟨rfl, bl_alloc hb1 _⟩

/-- Whether a version is garbage. -/
def deadB (L : Int → Tx × Bool) (low b e : Int) : Bool := garb e low || ((rdK b == 2) && lostS L (rdN b))

theorem Tells.at_ {W w1 : World} {lk : Value} {L : Int → Tx × Bool} (h : Tells W lk L) (hb : Below W.heap.size W w1) : Tells w1 lk L := by
  rcases h with h | ⟨f, caps, h1, h2, h3⟩
  · exact .inl h
  · exact .inr ⟨f, caps, h1, h2, fun w2 id h => h3 w2 id (bl_next hb h)⟩

set_option maxHeartbeats 800000 in
theorem dead_any (k v b e x low : Int) (lk : Value) (L : Int → Tx × Bool) (w : World) (ht : Tells w lk L) (h0 : 0 ≤ b) (h1 : b ≤ 18446744073709551615) (g0 : 0 ≤ e) (g1 : e ≤ 18446744073709551615) :
    Calls Try.prog 49 #[.agg #[.int .i64 k, .int .i64 v, .int .u64 b, .int .u64 e, .int .u64 x], .int .u64 low, lk] w fun r w' => r = .returned (.bool (deadB L low b e)) ∧ Below w.heap.size w w' := by
  have HR := Lib.hid (fun w => word_read b w h0 h1)
  have HG := Lib.hid (fun w => garbage_any b e low w g0 g1)
  have HT := Lib.hid (fun w1 n hb => lost_any n lk L w1 (ht.at_ hb))
  have hx := rd_ways b
  unfold deadB
  clear ht
  generalize rdK b = rk at *
  generalize rdN b = n at *
  generalize garb e low = g at *
  rcases hx with ⟨rfl, hn, hm⟩ | ⟨rfl, hn, hm⟩ | ⟨rfl, hn⟩ | ⟨rfl, hn, hm⟩
  case inr.inl =>
    have hn2 : IntKind.i64.wrap n = n := IntWalk.i64_in _ (by omega)
    cases g
    all_goals
      go_enter Try.func49, Try.ntmps49
      go_wp2_with fail
      refine (HR.out _).mono ?_
      rintro r w1 ⟨rfl, hb1⟩
      obtain ⟨hc1, hf1⟩ := bcell hb1
      have hz1 : w.heap.size < w1.heap.size := by have := hb1.size; simp at this; omega
      simp only [World.size_alloc] at hc1 hf1
      have B1 := bl_alloc (bl_next (bl_alloc (Below.refl _ w) _) hb1) (.cells #[.int .i64 2, .int .u64 n] 120)
      have HB1 := Lib.hid B1
      clear B1
      go_wp2_with fail
      refine (HG.out _).mono ?_
      rintro r w2 ⟨rfl, hb2⟩
      obtain ⟨hc2, hf2⟩ := bcell hb2
      have hz2 : w1.heap.size < w2.heap.size := by have := hb2.size; simp at this; omega
      simp only [World.size_alloc] at hc2 hf2
      have HB2 := Lib.hid (bl_next HB1.out hb2)
      go_wp2_with fail
    · refine (HT.out _ _ HB2.out).mono ?_
      rintro r w3 ⟨rfl, hb3⟩
      go_wp2_with fail
      go_ret
      exact ⟨ret_boolE (by simp), bl_next HB2.out hb3⟩
    · go_ret
      exact ⟨rfl, HB2.out⟩
  all_goals
    cases g
    all_goals
      go_enter Try.func49, Try.ntmps49
      go_wp2_with fail
      refine (HR.out _).mono ?_
      rintro r w1 ⟨rfl, hb1⟩
      obtain ⟨hc1, hf1⟩ := bcell hb1
      have hz1 : w.heap.size < w1.heap.size := by have := hb1.size; simp at this; omega
      simp only [World.size_alloc] at hc1 hf1
      have HB1 := Lib.hid (fun o => bl_alloc (bl_next (bl_alloc (Below.refl _ w) _) hb1) o)
      go_wp2_with fail
      refine (HG.out _).mono ?_
      rintro r w2 ⟨rfl, hb2⟩
      obtain ⟨hc2, hf2⟩ := bcell hb2
      have hz2 : w1.heap.size < w2.heap.size := by have := hb2.size; simp at this; omega
      simp only [World.size_alloc] at hc2 hf2
      have HB2 := Lib.hid (bl_next (HB1.out _) hb2)
      go_wp2_with fail
      go_ret
      exact ⟨rfl, HB2.out⟩
end Go.Proofs.Ytjojbfgppgnmjaa
