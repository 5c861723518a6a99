/- MayOne holds: of two that live, neither of which is aborted, one at most may put an end to a version whose end is the other's; nobody may to one that has ended. No condition. -/
import Derived.Test.YtbiadeniplmkfaaF0
import Derived.Test.YtbiadeniplmkfaaC2
namespace Go.Proofs.Ytbiadeniplmkfaa
open Go.RowKit Go.ChangeShapes

def sameL (s : Int) : Int → Tx × Bool := fun _ => (⟨1, s, 1, 2⟩, true)

set_option maxHeartbeats 400000 in
theorem oneClo_any (s id : Int) (b : Nat) (w : World) (hs : w.cell? ⟨b, 0, none⟩ = some (.int .i64 s)) :
    Calls Try.prog 24 #[.int .i64 id, .pointer (some ⟨b, 0, none⟩)] w fun e w' => e = .returned (.tuple #[(sameL s id).1.val, .bool (sameL s id).2]) ∧ Below w.heap.size w w' := by
  have hb := cell_lt0 hs
  simp only [sameL, Tx.val]
  go_enter Try.func24, Try.ntmps24
  go_wp2_with fail
  refine bodyPost_ret (v := .tuple #[.agg #[.int .i64 1, .int .i64 s, .int .u64 1, .int .u64 2], .bool true]) (by simp [results, Try.results24, go_sem]) rfl ⟨rfl, ?_⟩
  exact bl_alloc (Below.refl _ _) _

theorem one_may {s me other : Int} (hs : s = 1 ∨ s = 2 ∨ s = 3) (h0 : 1 ≤ other) (h1 : other ≤ 65535) :
    (me = other ∧ mayK (sameL s) (4611686018427387904 + other) me = 1 ∧ mayN (sameL s) (4611686018427387904 + other) me = 0) ∨ (me ≠ other ∧ mayK (sameL s) (4611686018427387904 + other) me = 2 ∧ mayN (sameL s) (4611686018427387904 + other) me = other) := by
  have hr := rd_cases (4611686018427387904 + other)
  have hk : rdK (4611686018427387904 + other) = 2 ∧ rdN (4611686018427387904 + other) = other := by omega
  unfold mayK mayN
  rw [hk.1, hk.2]
  by_cases hm : other = me
  · left; simp [hm]
  · right
    have h4 : s ≠ 4 := by omega
    have h5 : (s != 5) = true := by simp; omega
    simp [hm, toldS, sameL, h4, h5]
    exact fun h => hm h.symm
theorem one_time {s me e : Int} (h1 : e ≤ 65535) : mayK (sameL s) e me = 2 ∧ mayN (sameL s) e me = 0 := by
  have hr := rd_cases e
  have hk : rdK e = 1 := by omega
  have := may_plain (L := sameL s) (x := e) (me := me) (by omega)
  rw [hk] at this
  exact this

set_option maxHeartbeats 1600000 in
theorem mayOne_walk {a0 a1 a2 a3 : Int} {w : World} (_w0 : (Lit.int .i64 a0).wf = true) (_w1 : (Lit.int .i64 a1).wf = true) (_w2 : (Lit.int .i64 a2).wf = true) (_w3 : (Lit.int .u64 a3).wf = true) :
    Calls Try.prog 5 #[.int .i64 a0, .int .i64 a1, .int .i64 a2, .int .u64 a3] w fun e w' => e = .returned (.bool true) ∧ Below w.heap.size w w' := by
  have m0 := i64_and7 a0
  have m1 := i64_and7 a1
  have m2 := i64_and255 a2
  have m3 := u64_and65535 a3
  obtain ⟨x, hx⟩ : ∃ x, x = a0 % 8 := ⟨_, rfl⟩
  obtain ⟨y, hy⟩ : ∃ x, x = a1 % 8 := ⟨_, rfl⟩
  obtain ⟨z, hz⟩ : ∃ x, x = a2 % 256 := ⟨_, rfl⟩
  obtain ⟨t, ht⟩ : ∃ x, x = a3 % 65536 := ⟨_, rfl⟩
  have bx : 0 ≤ x ∧ x < 8 := by omega
  have by_ : 0 ≤ y ∧ y < 8 := by omega
  have bz : 0 ≤ z ∧ z < 256 := by omega
  have bt : 0 ≤ t ∧ t < 65536 := by omega
  rw [← hx] at m0
  rw [← hy] at m1
  rw [← hz] at m2
  rw [← ht] at m3
  clear hx hy hz ht
  have HS := Lib.hid (show z % 3 + 1 = 1 ∨ z % 3 + 1 = 2 ∨ z % 3 + 1 = 3 by omega)
  have HT := Lib.hid (show ∀ s, Tells (w.alloc (.cells #[.int .i64 s] 3)) (.func (.func 24) #[] #[.pointer (some ⟨w.heap.size, 0, none⟩)]) (sameL s) from
    fun s => .inr ⟨_, _, rfl, fun _ _ => by kernel_rfl, fun w1 id hb => oneClo_any s id w.heap.size w1 (keep hb (by simp))⟩)
  go_enter Try.func5, Try.ntmps5
  go_wp2_with fail
  generalize z % 3 + 1 = s at *
  refine (write_any _ _ _ _ _ _ (HT.out s) (Below.refl _ _) (by omega) (by omega)).mono ?_
  rintro ee w1 ⟨rfl, B1⟩
  have h1 := Lib.hid (@one_may s (x + 1) (y + 1) HS.out (by omega) (by omega))
  generalize mayK (sameL s) (4611686018427387904 + (y + 1)) (x + 1) = ka at *
  generalize mayN (sameL s) (4611686018427387904 + (y + 1)) (x + 1) = na at *
  go_wp2_with fail
  refine (write_any _ _ _ _ _ _ (HT.out s) B1 (by omega) (by omega)).mono ?_
  rintro ee w2 ⟨rfl, b2⟩
  have B2 : Below w.heap.size w w2 := bl_next (bl_alloc (Below.refl _ _) _) (bl_next B1 b2)
  rw [(@one_time s (x + 1) t (by omega)).1]
  clear HT B1 b2
  rcases h1.out with ⟨h, rfl, rfl⟩ | ⟨h, rfl, rfl⟩
  all_goals
    first | (have hd : (x + 1 == y + 1) = true := by simpa using h) | (have hd : (x + 1 == y + 1) = false := by simpa using h)
    clear h h1
    go_wp2_with (go_at_call 18; refine (awake8_any _).mono ?_; rintro ee w6 ⟨rfl, hb6⟩)
    go_ret
    exact ⟨rfl, bl_next B2 hb6⟩

end Go.Proofs.Ytbiadeniplmkfaa
