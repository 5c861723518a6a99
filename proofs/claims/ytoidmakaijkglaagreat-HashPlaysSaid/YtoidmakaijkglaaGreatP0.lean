/- Links: word.Link, word.Unlink and word.Mark. No condition. -/
import Derived.Test.YtoidmakaijkglaaGreatE0
namespace Go.Proofs.YtoidmakaijkglaaGreat
open Go.RowKit

theorem or_link {t i : Int} (h0 : 0 ≤ i) (h1 : i ≤ 65535) (g0 : 0 ≤ t) (g1 : t ≤ 65535) : bits .or .u64 (t * 131072) (i + 1) = t * 131072 + i + 1 := by
  obtain ⟨a, rfl⟩ := Int.eq_ofNat_of_zero_le h0
  obtain ⟨b, rfl⟩ := Int.eq_ofNat_of_zero_le g0
  have h2 : a ≤ 65535 := by omega
  have g2 : b ≤ 65535 := by omega
  show IntKind.u64.wrap ((BitVec.ofInt 64 ((b : Int) * 131072) ||| BitVec.ofInt 64 ((a : Int) + 1)).toNat : Nat) = _
  have e1 : (BitVec.ofInt 64 ((b : Int) * 131072)).toNat = b <<< 17 := by
    rw [BitVec.toNat_ofInt, Nat.shiftLeft_eq]
    omega
  have e2 : (BitVec.ofInt 64 ((a : Int) + 1)).toNat = a + 1 := by
    rw [BitVec.toNat_ofInt]
    omega
  rw [BitVec.toNat_or, e1, e2, ← Nat.shiftLeft_add_eq_or_of_lt (by omega), Nat.shiftLeft_eq, IntKind.wrap_u64]
  omega
theorem and_mark {x : Int} (h0 : 0 ≤ x) (h1 : x < 1099511627776) : bits .and .u64 x 1099511627776 = 0 := by
  obtain ⟨a, rfl⟩ := Int.eq_ofNat_of_zero_le h0
  have h2 : a < 2 ^ 40 := by omega
  show IntKind.u64.wrap ((BitVec.ofInt 64 (a : Int) &&& BitVec.ofInt 64 1099511627776).toNat : Nat) = _
  have e1 : (BitVec.ofInt 64 (a : Int)).toNat = a := by
    rw [BitVec.toNat_ofInt]
    omega
  have e2 : (BitVec.ofInt 64 1099511627776).toNat = 2 ^ 40 := by decide
  have key : a &&& 2 ^ 40 = 0 := by
    refine Nat.eq_of_testBit_eq fun i => ?_
    rw [Nat.testBit_and, Nat.testBit_two_pow, Nat.zero_testBit]
    by_cases h : 40 = i
    · subst h
      rw [Nat.testBit_lt_two_pow h2]
      rfl
    · simp [h]
  rw [BitVec.toNat_and, e1, e2, key]
  rfl
theorem or_mark (x : Int) : 1099511627776 ≤ bits .or .u64 x 1099511627776 ∧ bits .or .u64 x 1099511627776 ≤ 18446744073709551615 := by
  have e2 : (BitVec.ofInt 64 1099511627776).toNat = 2 ^ 40 := by decide
  have key : 2 ^ 40 ≤ (BitVec.ofInt 64 x ||| BitVec.ofInt 64 1099511627776).toNat := by
    rw [BitVec.toNat_or, e2]
    exact Nat.right_le_or
  have lt := (BitVec.ofInt 64 x ||| BitVec.ofInt 64 1099511627776).isLt
  have e : bits .or .u64 x 1099511627776 = ((BitVec.ofInt 64 x ||| BitVec.ofInt 64 1099511627776).toNat : Int) := by
    show IntKind.u64.wrap ((BitVec.ofInt 64 x ||| BitVec.ofInt 64 1099511627776).toNat : Nat) = _
    rw [IntKind.wrap_u64]
    omega
  rw [e]
  omega

theorem tup_link {a b : Int} {c : Bool} (h : a = b) : Ending.returned (.tuple #[.int .u64 a, .bool c]) = .returned (.tuple #[.int .u64 b, .bool c]) := by rw [h]
theorem tup_unlink {a b c d : Int} {m n : Bool} (h : a = b) (g : c = d) (k : m = n) : Ending.returned (.tuple #[.int .i64 a, .int .i64 c, .bool m]) = .returned (.tuple #[.int .i64 b, .int .i64 d, .bool n]) := by rw [h, g, k]

set_option maxRecDepth 100000 in
set_option maxHeartbeats 800000 in
theorem word_link (i t : Int) (w : World) (h0 : 0 ≤ i) (h1 : i ≤ 65535) (g0 : 0 ≤ t) (g1 : t ≤ 65535) :
    Calls Tryz.prog 64 #[.int .i64 i, .int .i64 t] w fun e w' => e = .returned (.tuple #[.int .u64 (t * 131072 + i + 1), .bool true]) ∧ w = w' := by
  go_enter Tryz.func64, Tryz.ntmps64
  go_wp2_with fail
  go_ret2
  exact ⟨tup_link (or_link h0 h1 g0 g1), rfl⟩

def markedB (x : Int) : Bool := bits .and .u64 x 1099511627776 != 0
theorem marked_no {x : Int} (h0 : 0 ≤ x) (h1 : x < 1099511627776) : markedB x = false := by unfold markedB; rw [and_mark h0 h1]; rfl

theorem wrap_65535 (x : Int) : wrap64 (x % 65536) = x % 65536 := by
  unfold wrap64; omega

set_option maxRecDepth 100000 in
set_option maxHeartbeats 800000 in
theorem word_unlink (x : Int) (w : World) (_h0 : 0 ≤ x) (_h1 : x ≤ 18446744073709551615) :
    Calls Tryz.prog 49 #[.int .u64 x] w fun e w' => e = .returned (.tuple #[.int .i64 (x % 131072 - 1), .int .i64 (x / 131072 % 65536), .bool (markedB x)]) ∧ w = w' := by
  have m1 := u64_and131071 x
  go_enter Tryz.func49, Tryz.ntmps49
  go_wp2_with fail
  go_ret3
  exact ⟨tup_unlink rfl (show wrap64 (bits .and .u64 (x / 131072) 65535) = _ by rw [u64_and65535, wrap_65535]) rfl, rfl⟩

end Go.Proofs.YtoidmakaijkglaaGreat
