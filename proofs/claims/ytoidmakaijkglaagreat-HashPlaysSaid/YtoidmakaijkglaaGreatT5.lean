/- What stands in vinculumlaw6 beside the laws. -/
import Derived.Test.YtoidmakaijkglaaGreatT4
import Derived.Deep.RegionWith
namespace Go.Proofs.YtoidmakaijkglaaGreat
open Go.RowKit

theorem LeftS.get {w w' w0 : World} {b : Nat} {F : Nat → Prop} {s s' : RS} {L : List Ob} (hS : Sep w0 w (obStore b F s :: L)) (hl : LeftS w b F s' w') : ∃ F', Sep w0 w' (obStore b F' s' :: L) := hS.store hl
theorem Sep.low {w0 w : World} {A : Ob} {L : List Ob} (h : Sep w0 w (A :: L)) : ∀ k, A.F k → w0.heap.size ≤ k := (h.each A (by simp)).2
/-- A store of n slots with one version in slot 0. -/
def one (n : Nat) (key v x y z : Int) : RS := ⟨⟨65535, ⟨0, true⟩ :: List.replicate n slot0, dn (n + 1) n, true, 0⟩, x :: y :: z :: List.replicate (n * 3) 0, (key, v) :: List.replicate n (0, 0)⟩
theorem one_free (n : Nat) : (RS.new (n + 1)).p.listed.free = dn (n + 1) n ++ [((0 : Nat) : Int)] := by
  simp [RS.new, PS.new, PS.listed, dn]
theorem one_make (n : Nat) (key v x y : Int) : (RS.new (n + 1)).make (dn (n + 1) n) 0 key v x y = one n key v x y 0 := by
  simp [RS.make, RS.new, PS.new, PS.listed, one, PS.take, List.replicate_succ, Nat.add_mul, slot0]
theorem one_link (n : Nat) : (RS.new (n + 1)).p.listed.link 0 = 1 := by
  simp [PS.link, RS.new, PS.new, PS.listed, List.replicate_succ, slot0]
theorem one_live (n : Nat) (key v x y z : Int) : (one n key v x y z).p.live 1 = true := by
  rw [live_in (i := 0) (by decide) (by simp [one])]
  simp [one, PS.link]
theorem one_ver (n : Nat) (key v x y z : Int) : (one n key v x y z).ver (slotOf 1) = ⟨key, v, x, y, z⟩ := rfl
theorem one_beg (n : Nat) (key v x y z o : Int) : (one n key v x y z).setw (slotOf 1 * 3 + 0) o = one n key v o y z := rfl
theorem one_end (n : Nat) (key v x y z o : Int) : (one n key v x y z).setw (slotOf 1 * 3 + 1) o = one n key v x o z := rfl
theorem one_cnt (n : Nat) (key v x y z : Int) : cnt (one n key v x y z).p.sl = 1 := by
  simp [cnt, one, slot0, List.countP_replicate]

end Go.Proofs.YtoidmakaijkglaaGreat
