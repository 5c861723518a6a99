/- A key's bucket. -/
import Derived.Test.YtoidmakaijkglaaGreatHE
namespace Go.Proofs.YtoidmakaijkglaaGreat
open Go.RowKit
def okKey (k : Int) : Bool := decide (0 ≤ k) && decide (k ≤ 63)
/-- The bucket of a key that may be. -/
def bkt (k b : Int) : Int := k * 2654435769 % 4294967296 / 65536 % b
theorem bkt_range {k b : Int} (hb : 1 ≤ b) : 0 ≤ bkt k b ∧ bkt k b < b := ⟨Int.emod_nonneg _ (by omega), Int.emod_lt_of_pos _ (by omega)⟩
set_option maxHeartbeats 800000 in
theorem is_any (k : Int) (w : World) : Calls Tryz.prog 23 #[.int .i64 k] w fun e w' => e = .returned (.bool (okKey k)) ∧ w = w' := by
  unfold okKey
  by_cases h0 : 0 ≤ k
  · by_cases h1 : k ≤ 63
    · have e : (decide (0 ≤ k) && decide (k ≤ 63)) = true := by simp [h0, h1]
      rw [e]
      go_enter Tryz.func23, Tryz.ntmps23
      go_wp2_with fail
      go_ret
      exact ⟨rfl, rfl⟩
    · have e : (decide (0 ≤ k) && decide (k ≤ 63)) = false := by simp [h1]
      rw [e]
      go_enter Tryz.func23, Tryz.ntmps23
      go_wp2_with fail
      go_ret
      exact ⟨rfl, rfl⟩
  · have e : (decide (0 ≤ k) && decide (k ≤ 63)) = false := by simp [h0]
    rw [e]
    go_enter Tryz.func23, Tryz.ntmps23
    go_wp2_with fail
    go_ret
    exact ⟨rfl, rfl⟩
set_option maxHeartbeats 1600000 in
theorem bucket_in {k b : Int} (w : World) (h0 : 0 ≤ k) (h1 : k ≤ 63) (b0 : 1 ≤ b) (b1 : b ≤ 64) :
    Calls Tryz.prog 18 #[.int .i64 k, .int .i64 b] w fun e w' => e = .returned (.int .i64 (bkt k b)) ∧ w = w' := by
  have his := is_any k w
  rw [show okKey k = true by simp [okKey, h0, h1]] at his
  have HIS := Lib.hid his
  clear his
  go_enter Tryz.func18, Tryz.ntmps18
  go_wp2_with fail
  refine HIS.out.mono ?_
  rintro e w' ⟨rfl, rfl⟩
  go_upto_region 3 with fail
  have w1 : IntKind.u64.wrap k = k := IntWalk.u64_in _ (by omega)
  have w2 : IntKind.u64.wrap (k * 2654435769) = k * 2654435769 := IntWalk.u64_in _ (by omega)
  have w3 : IntKind.u32.wrap (k * 2654435769) = k * 2654435769 % 4294967296 := by rw [IntKind.wrap_u32]
  have w4 : IntKind.i64.wrap (k * 2654435769 % 4294967296 / 65536) = k * 2654435769 % 4294967296 / 65536 := IntWalk.i64_in _ (by omega)
  have q1 : ¬ b = 0 := by omega
  go_wp2_with fail
  go_ret
  exact ⟨rfl, rfl⟩
/-- A key's bucket, or -1. -/
def bktD (k b : Int) : Int := if 0 ≤ k ∧ k ≤ 63 ∧ 1 ≤ b ∧ b ≤ 64 then bkt k b else -1
set_option maxHeartbeats 1600000 in
theorem bucket_any (k b : Int) (w : World) (hb : 1 ≤ b ∧ b ≤ 64) : Calls Tryz.prog 18 #[.int .i64 k, .int .i64 b] w fun e w' => e = .returned (.int .i64 (bktD k b)) ∧ w = w' := by
  by_cases hk : 0 ≤ k ∧ k ≤ 63
  · unfold bktD
    rw [if_pos ⟨hk.1, hk.2, hb.1, hb.2⟩]
    exact bucket_in w hk.1 hk.2 hb.1 hb.2
  · unfold bktD
    rw [if_neg (by omega)]
    have his := is_any k w
    rw [show okKey k = false by unfold okKey; simp; omega] at his
    have HIS := Lib.hid his
    clear his
    go_enter Tryz.func18, Tryz.ntmps18
    go_wp2_with fail
    refine HIS.out.mono ?_
    rintro e w' ⟨rfl, rfl⟩
    go_wp2_with fail
    go_ret
    exact ⟨rfl, rfl⟩
set_option maxHeartbeats 1600000 in
theorem ref_bucket (k b : Int) (w : World) (b0 : 1 ≤ b) (b1 : b ≤ 64) : Calls Tryz.prog 17 #[.int .i64 k, .int .i64 b] w fun e w' => e = .returned (.int .i64 (bktD k b)) ∧ w = w' := by
  by_cases hk : 0 ≤ k ∧ k ≤ 63
  · unfold bktD
    rw [if_pos ⟨hk.1, hk.2, b0, b1⟩]
    obtain ⟨h0, h1⟩ := hk
    have w1 : IntKind.u32.wrap k = k := IntWalk.u32_in _ (by omega)
    have w3 : IntKind.u32.wrap (k * 2654435769) = k * 2654435769 % 4294967296 := by rw [IntKind.wrap_u32]
    have w4 : IntKind.i64.wrap (k * 2654435769 % 4294967296 / 65536) = k * 2654435769 % 4294967296 / 65536 := IntWalk.i64_in _ (by omega)
    have q1 : ¬ b = 0 := by omega
    go_enter Tryz.func17, Tryz.ntmps17
    go_wp2_with fail
    go_ret
    exact ⟨rfl, rfl⟩
  · unfold bktD
    rw [if_neg (by omega)]
    by_cases h0 : k < 0
    · go_enter Tryz.func17, Tryz.ntmps17
      go_wp2_with fail
      go_ret
      exact ⟨rfl, rfl⟩
    · have h1 : 63 < k := by omega
      go_enter Tryz.func17, Tryz.ntmps17
      go_wp2_with fail
      go_ret
      exact ⟨rfl, rfl⟩
end Go.Proofs.YtoidmakaijkglaaGreat
