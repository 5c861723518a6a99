/- What stands in vinculumlaw6 beside the laws. -/
import Derived.Test.YtjojbfgppgnmjaaT4
import Derived.Deep.RegionWith
namespace Go.Proofs.Ytjojbfgppgnmjaa
open Go.RowKit

theorem ref_forever (w : World) : Calls Try.prog 17 #[] w fun e w' => e = .returned (.int .u64 2305843009213693952) ∧ w = w' := by
  go_enter Try.func17, Try.ntmps17
  go_wp2_with fail
  go_ret
  exact ⟨rfl, rfl⟩
theorem LeftS.get {w w' w0 : World} {b : Nat} {F : Nat → Prop} {s s' : RS} {L : List Ob} (hS : Sep w0 w (obStore b F s :: L)) (hl : LeftS w b F s' w') : ∃ F', Sep w0 w' (obStore b F' s' :: L) := hS.store hl
theorem Sep.low {w0 w : World} {A : Ob} {L : List Ob} (h : Sep w0 w (A :: L)) : ∀ k, A.F k → w0.heap.size ≤ k := (h.each A (by simp)).2
/-- A store of n slots with one version in slot 0. -/
def one (n : Nat) (key v x y z : Int) : RS := ⟨⟨65535, ⟨0, true⟩ :: List.replicate n slot0, dn (n + 1) n, true, 0⟩, x :: y :: z :: List.replicate (n * 3) 0, (key, v) :: List.replicate n (0, 0)⟩
theorem one_free (n : Nat) : (RS.new (n + 1)).p.listed.free = dn (n + 1) n ++ [((0 : Nat) : Int)] := by
  simp [RS.new, PS.new, PS.listed, dn]
theorem one_make (n : Nat) (key v x y : Int) : (RS.new (n + 1)).make (dn (n + 1) n) 0 key v x y = one n key v x y 0 := by
  simp [RS.make, RS.new, PS.new, PS.listed, one, PS.take, List.replicate_succ, Nat.add_mul, slot0]
theorem one_link (n : Nat) : (RS.new (n + 1)).p.listed.link 0 = 1 := by
  simp [PS.link, RS.new, PS.new, PS.listed, List.replicate_succ, slot0]
theorem one_live (n : Nat) (key v x y z : Int) : (one n key v x y z).p.live 1 = true := by
  rw [live_in (i := 0) (by decide) (by simp [one])]
  simp [one, PS.link]
theorem one_ver (n : Nat) (key v x y z : Int) : (one n key v x y z).ver (slotOf 1) = ⟨key, v, x, y, z⟩ := rfl
theorem one_beg (n : Nat) (key v x y z o : Int) : (one n key v x y z).setw (slotOf 1 * 3 + 0) o = one n key v o y z := rfl
theorem one_end (n : Nat) (key v x y z o : Int) : (one n key v x y z).setw (slotOf 1 * 3 + 1) o = one n key v x o z := rfl
theorem one_cnt (n : Nat) (key v x y z : Int) : cnt (one n key v x y z).p.sl = 1 := by
  simp [cnt, one, slot0, List.countP_replicate]

set_option maxRecDepth 100000 in
set_option maxHeartbeats 3200000 in
theorem awake6_any (w : World) : Calls Try.prog 16 #[] w fun e w' => e = .returned (.bool true) ∧ Below w.heap.size w w' := by
  have HN := Lib.hid (store_new 4 w (by decide) (by decide))
  go_enter Try.func16, Try.ntmps16
  go_wp2_with fail
  refine HN.out.mono ?_
  rintro e w1 ⟨b, F1, rfl, p1, B1, f1⟩
  have S1 : Hid (Sep w w1 [obStore b F1 (RS.new (3 + 1))]) := Lib.hid ((Sep.nil w).new (A := obStore b F1 (RS.new (3 + 1))) B1 p1 f1)
  clear p1 HN B1 f1
  go_wp2_with fail
  refine (ref_forever _).mono ?_
  rintro e w2 ⟨rfl, rfl⟩
  go_wp2_with fail
  refine (make_ok b F1 (RS.new (3 + 1)) (dn (3 + 1) 3) 0 1 2 3 2305843009213693952 w1 S1.out.head (by decide) (by decide) (by decide) (by decide) (one_free 3)).mono ?_
  rw [one_make, one_link]
  rintro e w2 ⟨rfl, hl⟩
  obtain ⟨F2, hS2⟩ := S1.out.store hl
  have S2 := Lib.hid hS2
  clear hl hS2 S1
  go_wp2_with fail
  refine (get_live b F2 _ 1 w2 S2.out.head (by decide) (by decide) (one_live _ _ _ _ _ _)).mono ?_
  rw [one_ver]
  rintro e w3 ⟨rfl, hl⟩
  obtain ⟨F3, hS3⟩ := S2.out.store hl
  have S3 := Lib.hid hS3
  have HU := Lib.hid (fun W (hW : Below w3.heap.size w3 W) => rec_used (b := b) (F := F3) W (hS3.below hW).head)
  clear hl hS3 S2
  simp only [Ver.value]
  rw [one_cnt] at HU
  simp only [show ((1 : Nat) : Int) = 1 from rfl] at HU
  go_wp2_with fail
  go_region_with (first | (go_at_call 17; refine (ref_forever _).mono ?_; rintro e w4 ⟨rfl, rfl⟩) | (go_at_call 24; refine (HU.out _ (by first | exact Below.drew ((Below.refl _ _).alloc (Nat.le_refl _) _) | exact (Below.drew (Below.refl _ _)).alloc (Nat.le_refl _) _)).mono ?_; rintro e w5 ⟨rfl, hl5⟩))
  all_goals
    obtain ⟨F5, _, m5, _⟩ := hl5
    have hb5 : Below w.heap.size w w5 := (S3.out.bel.trans ((Below.drew ((Below.refl _ _).alloc (Nat.le_refl _) _)).mono S3.out.bel.size)).trans (m5.below (fun k hk => S3.out.low k hk) (Nat.le_trans S3.out.bel.size (by simp)))
    have HB5 := Lib.hid hb5
    clear m5 hb5 HU
    go_wp2_with fail
    go_ret
    exact ⟨rfl, HB5.out⟩
end Go.Proofs.Ytjojbfgppgnmjaa
