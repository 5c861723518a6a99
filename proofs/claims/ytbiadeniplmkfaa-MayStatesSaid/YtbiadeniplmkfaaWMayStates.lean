/- MayStates holds: a version that another one has put its word on may be written if that one is aborted, must be looked at again if it is done, and may not else. No condition. -/
import Derived.Test.YtbiadeniplmkfaaF0
import Derived.Test.YtbiadeniplmkfaaC2
namespace Go.Proofs.Ytbiadeniplmkfaa
open Go.RowKit Go.ChangeShapes

def byL (s other : Int) : Int → Tx × Bool := fun id => (⟨1, s, 1, 2⟩, id == other)

set_option maxHeartbeats 400000 in
theorem statesClo8_any (s other id : Int) (b c : Nat) (w : World) (hs : w.cell? ⟨b, 0, none⟩ = some (.int .i64 s)) (ho : w.cell? ⟨c, 0, none⟩ = some (.int .i64 other)) :
    Calls Try.prog 15 #[.int .i64 id, .pointer (some ⟨b, 0, none⟩), .pointer (some ⟨c, 0, none⟩)] w fun e w' => e = .returned (.tuple #[(byL s other id).1.val, .bool (byL s other id).2]) ∧ Below w.heap.size w w' := by
  have hb := cell_lt0 hs
  have hc := cell_lt0 ho
  simp only [byL, Tx.val]
  go_enter Try.func15, Try.ntmps15
  go_wp2_with fail
  go_region
  go_wp2_with fail
  refine bodyPost_ret (v := .tuple #[.agg #[.int .i64 1, .int .i64 s, .int .u64 1, .int .u64 2], .bool (id == other)]) (by simp [results, Try.results15, go_sem]) rfl ⟨rfl, ?_⟩
  repeat (with_reducible (first | refine Below.drew ?_ | refine Below.setCell ?_ (by simp) _ | refine bl_alloc ?_ _ | exact Below.refl _ _))

def stK (s : Int) : Int := if s = 5 then 3 else if s = 4 then 1 else 2
def stN (s other : Int) : Int := if s = 5 then 0 else other
def stB (s : Int) : Bool := (s == 4) || (s == 5)
theorem states_may {s me other : Int} (hs : s = 1 ∨ s = 2 ∨ s = 3 ∨ s = 4 ∨ s = 5) (h0 : 1 ≤ other) (h1 : other ≤ 65535) (hm : other ≠ me) (at_ : Int) :
    mayK (byL s other) (4611686018427387904 + other) me = stK s ∧ mayN (byL s other) (4611686018427387904 + other) me = stN s other ∧
    (!([4611686018427387904 + other].any (barB (byL s other) me at_))) = stB s := by
  have hr := rd_cases (4611686018427387904 + other)
  have hk : rdK (4611686018427387904 + other) = 2 ∧ rdN (4611686018427387904 + other) = other := by omega
  have hb := bar_txn (L := byL s other) (me := me) (at_ := at_) hk.1
  rw [hk.2] at hb
  simp only [List.any_cons, List.any_nil, Bool.or_false]
  rw [hb]
  unfold mayK mayN
  rw [hk.1, hk.2]
  rcases hs with rfl | rfl | rfl | rfl | rfl <;> simp [hm, toldS, byL, stK, stN, stB]

set_option maxHeartbeats 1600000 in
theorem mayStates_walk {a0 a1 a2 : Int} {w : World} (_w0 : (Lit.int .i64 a0).wf = true) (_w1 : (Lit.int .i64 a1).wf = true) (_w2 : (Lit.int .i64 a2).wf = true) :
    Calls Try.prog 3 #[.int .i64 a0, .int .i64 a1, .int .i64 a2] w fun e w' => e = .returned (.bool true) ∧ Below w.heap.size w w' := by
  have m0 := i64_and255 a0
  have m1 := i64_and255 a1
  have m2 := i64_and255 a2
  obtain ⟨x, hx⟩ : ∃ x, x = a0 % 256 := ⟨_, rfl⟩
  obtain ⟨y, hy⟩ : ∃ x, x = a1 % 256 := ⟨_, rfl⟩
  obtain ⟨z, hz⟩ : ∃ x, x = a2 % 256 := ⟨_, rfl⟩
  have bx : 0 ≤ x ∧ x < 256 := by omega
  have by_ : 0 ≤ y ∧ y < 256 := by omega
  have bz : 0 ≤ z ∧ z < 256 := by omega
  rw [← hx] at m0
  rw [← hy] at m1
  rw [← hz] at m2
  clear hx hy hz
  have HS := Lib.hid (show x % 5 + 1 = 1 ∨ x % 5 + 1 = 2 ∨ x % 5 + 1 = 3 ∨ x % 5 + 1 = 4 ∨ x % 5 + 1 = 5 by omega)
  have HT := Lib.hid (show ∀ s o, Tells ((w.alloc (.cells #[.int .i64 s] 3)).alloc (.cells #[.int .i64 o] 3)) (.func (.func 15) #[] #[.pointer (some ⟨w.heap.size, 0, none⟩), .pointer (some ⟨w.heap.size + 1, 0, none⟩)]) (byL s o) from
    fun s o => .inr ⟨_, _, rfl, fun _ _ => by kernel_rfl, fun w1 id hb => statesClo8_any s o id w.heap.size (w.heap.size + 1) w1 (keep hb (by simp)) (keep hb (by simp))⟩)
  go_enter Try.func3, Try.ntmps3
  go_wp2_with fail
  go_region
  go_wp2_with fail
  generalize x % 5 + 1 = s at *
  obtain ⟨o, ho⟩ : ∃ o, o = z + 300 := ⟨_, rfl⟩
  obtain ⟨me, hme⟩ : ∃ o, o = y + 1 := ⟨_, rfl⟩
  rw [← ho, ← hme]
  have bo : 300 ≤ o ∧ o < 556 := by omega
  have bme : 1 ≤ me ∧ me < 257 := by omega
  have HM := Lib.hid (@states_may s me o HS.out (by omega) (by omega) (by omega) 5)
  clear ho hme m0 m1 m2 by_ bz
  have T1 := (HT.out s o).later (Below.drew (Below.refl _ _))
  refine (write_any _ _ _ _ _ _ T1 (Below.refl _ _) (by omega) (by omega)).mono ?_
  rintro ee w1 ⟨rfl, B1⟩
  have B1' : Below w.heap.size w w1 := bl_next (Below.drew (bl_alloc (bl_alloc (Below.refl _ _) _) _)) B1
  have c1 : w1.cell? ⟨w.heap.size, 0, none⟩ = some (.int .i64 s) := keep B1 (by simp)
  have c2 : w1.cell? ⟨w.heap.size + 1, 0, none⟩ = some (.int .i64 o) := keep B1 (by simp)
  have T2 := Lib.hid (T1.later B1)
  clear T1 HT B1
  rw [HM.out.1, HM.out.2.1]
  go_wp2_with fail
  have B2 := bl_alloc B1' (.cells #[.int .u64 (4611686018427387904 + o)] 22)
  refine (first_any [4611686018427387904 + o] _ _ _ _ _ _ (T2.out.later (bl_alloc (Below.refl _ _) _)) (RowAt.one _ _ _ _) (fun i hi => by simp at hi; subst hi; simp; omega)).mono ?_
  rintro ee w2 ⟨rfl, b2⟩
  have c3 := keep b2 (keep (bl_alloc (Below.refl _ _) _) c1)
  have c4 := keep b2 (keep (bl_alloc (Below.refl _ _) _) c2)
  have B3 := bl_next B2 b2
  rw [HM.out.2.2]
  have hs := HS.out
  clear HM T2 HS c1 c2 B1' b2 B2 bx
  rcases hs with rfl | rfl | rfl | rfl | rfl
  all_goals
    simp only [stK, stN, stB, reduceIte, Int.reduceEq, Int.reduceBEq, Bool.or_self, Bool.or_true, Bool.true_or]
    go_wp2_with (go_at_call 18; refine (awake8_any _).mono ?_; rintro ee w6 ⟨rfl, hb6⟩)
    go_ret
    exact ⟨rfl, bl_next B3 hb6⟩

end Go.Proofs.Ytbiadeniplmkfaa
