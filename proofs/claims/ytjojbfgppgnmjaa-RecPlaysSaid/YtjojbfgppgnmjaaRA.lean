/- RecPlays: to turn a word of a version that is gone turns nothing. -/
import Derived.Test.YtjojbfgppgnmjaaRZ
namespace Go.Proofs.Ytjojbfgppgnmjaa
open Go.RowKit
set_option maxRecDepth 100000 in
set_option maxHeartbeats 800000 in
theorem slot_same {b pb ab db : Nat} {F Fp Fa : Nat → Prop} {s : RS} (x : Int) (w : World) (h : SP w b F s pb ab db Fp Fa) (h0 : 0 ≤ x) (h1 : x ≤ 18446744073709551615) :
    Calls Try.prog 56 #[.pointer (some ⟨b, 0, none⟩), .int .u64 x] w fun e w' => e = .returned (.tuple #[.int .i64 (x % 131072 - 1), .bool (s.p.live x)]) ∧ w = w' := by
  have hL := fun w' (hw : Below w.heap.size w w') => pool_live pb Fp s.p x w' (h.pool.below hw) h0 h1
  have HL := Lib.hid hL
  have HU := Lib.hid (fun w' => word_unlink x w' h0 h1)
  have c0 := blk_cell h.head 0
  simp [storeCells] at c0
  clear h hL
  generalize s.p.live x = t at *
  generalize x % 131072 - 1 = i at *
  go_enter Try.func56, Try.ntmps56
  go_wp2_with fail
  refine (HU.out _).mono ?_
  rintro e w1 ⟨rfl, rfl⟩
  go_wp2_with fail
  refine (HL.out _ (Below.refl _ _)).mono ?_
  rintro e w1 ⟨rfl, rfl⟩
  go_wp2_with fail
  go_ret2
  exact ⟨rfl, rfl⟩
set_option maxRecDepth 100000 in
set_option maxHeartbeats 800000 in
theorem turn_dead {b : Nat} {F : Nat → Prop} {s : RS} (x j o y : Int) (w : World) (h : StoreAt w b F s) (h0 : 0 ≤ x) (h1 : x ≤ 18446744073709551615) (hl : s.p.live x = false) :
    Calls Try.prog 58 #[.pointer (some ⟨b, 0, none⟩), .int .u64 x, .int .i64 j, .int .u64 o, .int .u64 y] w fun e w' => e = .returned (.bool false) ∧ w = w' := by
  obtain ⟨pb, ab, db, Fp, Fa, h⟩ := h
  have hS := slot_same x w h h0 h1
  rw [hl] at hS
  have HS := Lib.hid hS
  clear h hl hS
  generalize (x % 131072 - 1) = q at *
  go_enter Try.func58, Try.ntmps58
  go_wp2_with fail
  refine HS.out.mono ?_
  rintro e w1 ⟨rfl, rfl⟩
  go_wp2_with fail
  go_ret
  exact ⟨rfl, rfl⟩
section
variable {w0 W : World} {b c : Nat} {L : List Ob} {ov vv : Value} {told : List Int} {vs : List Ver} {s : RS} {t : PS} {x : Int}
set_option maxRecDepth 100000 in
set_option maxHeartbeats 800000 in
theorem rq_begin_dead (h : RQ w0 b c L ov told vv vs s t W) (h0 : 0 ≤ x) (h1 : x ≤ 18446744073709551615) (o y : Int) (hl : s.p.live x = false) :
    Calls Try.prog 21 #[.pointer (some ⟨b, 0, none⟩), .int .u64 x, .int .u64 o, .int .u64 y] W fun e w' => e = .returned (.bool false) ∧ w' = W := by
  obtain ⟨F, G, h⟩ := h
  have HT := Lib.hid (turn_dead x 0 o y W h.third h0 h1 hl)
  clear h hl
  go_enter Try.func21, Try.ntmps21
  go_wp2_with fail
  refine HT.out.mono ?_
  rintro e w1 ⟨rfl, rfl⟩
  go_wp2_with fail
  go_ret
  exact ⟨rfl, rfl⟩
set_option maxRecDepth 100000 in
set_option maxHeartbeats 800000 in
theorem rq_end_dead (h : RQ w0 b c L ov told vv vs s t W) (h0 : 0 ≤ x) (h1 : x ≤ 18446744073709551615) (o y : Int) (hl : s.p.live x = false) :
    Calls Try.prog 19 #[.pointer (some ⟨b, 0, none⟩), .int .u64 x, .int .u64 o, .int .u64 y] W fun e w' => e = .returned (.bool false) ∧ w' = W := by
  obtain ⟨F, G, h⟩ := h
  have HT := Lib.hid (turn_dead x 1 o y W h.third h0 h1 hl)
  clear h hl
  go_enter Try.func19, Try.ntmps19
  go_wp2_with fail
  refine HT.out.mono ?_
  rintro e w1 ⟨rfl, rfl⟩
  go_wp2_with fail
  go_ret
  exact ⟨rfl, rfl⟩
end
end Go.Proofs.Ytjojbfgppgnmjaa
