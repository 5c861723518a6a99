/- slices.IndexFunc and slices.DeleteFunc of the entry with a key. -/
import Derived.Test.YtoidmakaijkglaaGreatHC
import Derived.Lib.SliceRun
import Derived.Deep.CutRange
import Derived.Deep.RegionHeld3
import Derived.ChangeAlike
namespace Go.Proofs.YtoidmakaijkglaaGreat
open Go.RowKit
theorem drop_gives (key k : Int) (c B : Nat) (W : World) (hc : W.cell? ⟨B, 0, none⟩ = some (.int .i64 key)) :
    Calls Tryz.prog 36 #[.agg #[.int .i64 k, .pointer (some ⟨c, 0, none⟩)], .pointer (some ⟨B, 0, none⟩)] W fun e w' => e = .returned (.bool (k == key)) ∧ Below W.heap.size W w' := by
  have hca : ∀ o, (W.alloc o).cell? ⟨B, 0, none⟩ = some (.int .i64 key) := fun o => (World.cell?_alloc_lt W o _ (cell_lt hc)).trans hc
  have HB := Lib.hid (fun o : Obj => bl_alloc2 (Below.refl W.heap.size W) o)
  go_enter Tryz.func36, Tryz.ntmps36
  go_wp2_with fail
  go_ret
  exact ⟨rfl, HB.out _⟩
theorem ent_left {A B : List (Int × Nat)} {i : Nat} (h : i < A.length) : (A ++ B).getD i (0, 0) = A.getD i (0, 0) := by simp [List.getD_eq_getElem?_getD, List.getElem?_append_left h]
theorem ent_mem {A : List (Int × Nat)} {i : Nat} (h : i < A.length) : A.getD i (0, 0) ∈ A := by rw [List.getD_eq_getElem?_getD]; simp [h]
theorem ent_mid {A B : List (Int × Nat)} {x : Int × Nat} : (A ++ x :: B).getD A.length (0, 0) = x := by simp [List.getD_eq_getElem?_getD]

set_option maxRecDepth 100000 in
set_option maxHeartbeats 1600000 in
theorem index_at {w : World} {g n cap : Nat} {A B : List (Int × Nat)} {key : Int} {c kb : Nat} (h : EntRow w (.slice (some ⟨g, 0, none⟩) n cap) (A ++ (key, c) :: B)) (hA : ∀ e ∈ A, e.1 ≠ key) (hl : n ≤ 100000) (hn : n = (A ++ (key, c) :: B).length) (hk : w.cell? ⟨kb, 0, none⟩ = some (.int .i64 key)) :
    Calls Tryz.prog 54 #[.slice (some ⟨g, 0, none⟩) n cap, .func (.func 36) #[] #[.pointer (some ⟨kb, 0, none⟩)]] w fun e w' => e = .returned (.int .i64 A.length) ∧ Below w.heap.size w w' := by
  have hkb := cell_lt hk
  have HO := Lib.hid h
  have HA := Lib.hid hA
  have HK := Lib.hid hk
  have HN := Lib.hid hn
  have hal : A.length < n := by rw [hn]; simp
  have HAL := Lib.hid hal
  clear h hA hk hn
  go_enter Tryz.func54, Tryz.ntmps54
  go_wp2_with fail
  go_loopg [8] n (fun kx iv wr => ∃ i : Nat, iv = .int .i64 i ∧ i ≤ A.length ∧ n - i ≤ kx ∧ Hid (Below w.heap.size w wr))
  case atStart => exact ⟨0, rfl, Nat.zero_le _, by omega, Lib.hid (Below.refl _ _)⟩
  case round =>
    obtain ⟨i, rfl, hi, hik, HX⟩ := hrel
    have i0 : (0 : Int) ≤ (i : Int) := by omega
    have i1 : (i : Int) < (n : Int) := by omega
    have hiw : IntKind.i64.wrap ((i : Int) + 1) = (i : Int) + 1 := IntWalk.i64_in _ (by omega)
    have hat := (HO.out.later HX.out).at_ (i := i) (by rw [← HN.out]; omega)
    have c0 := hat.1
    have c1 := hat.2.1
    clear hat
    have hkk := (HX.out.cell (p := ⟨kb, 0, none⟩) hkb).trans HK.out
    by_cases hia : i < A.length
    · rw [ent_left hia] at c0 c1
      have hne := HA.out _ (ent_mem hia)
      generalize A.getD i (0, 0) = y at *
      obtain ⟨yk, yc⟩ := y
      dsimp only at c0 c1 hne
      have hd := drop_gives key yk yc kb wr hkk
      rw [show (yk == key) = false by simpa using hne] at hd
      have HD := Lib.hid hd
      clear hd hkk hne
      go_wp2_with fail
      refine HD.out.mono ?_
      rintro e w5 ⟨rfl, hb5⟩
      have HX5 := Lib.hid (bl_next HX.out hb5)
      clear hb5 HD
      go_wp2_with fail
      go_roundg (n - (i + 1))
      case rel => exact ⟨i + 1, by go_num, by omega, by omega, HX5⟩
      case measure => have := HAL.out; omega
    · obtain rfl : i = A.length := by omega
      rw [ent_mid] at c0 c1
      dsimp only at c0 c1
      have hd := drop_gives key key c kb wr hkk
      rw [show (key == key) = true by simp] at hd
      have HD := Lib.hid hd
      clear hd hkk
      go_wp2_with fail
      refine HD.out.mono ?_
      rintro e w5 ⟨rfl, hb5⟩
      have HX5 := Lib.hid (bl_next HX.out hb5)
      clear hb5 HD
      go_wp2_with fail
      go_ret
      exact ⟨rfl, HX5.out⟩
end Go.Proofs.YtoidmakaijkglaaGreat
