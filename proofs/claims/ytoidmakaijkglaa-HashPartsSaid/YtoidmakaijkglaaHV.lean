/- A chain's block; chain.New. -/
import Derived.Test.YtoidmakaijkglaaT1
namespace Go.Proofs.Ytoidmakaijkglaa
open Go.RowKit
attribute [local go_sem] Oper.semAt_some
def chCells (sb ab at' : Nat) : Array Value := #[.pointer (some ⟨sb, 0, none⟩), .pointer (some ⟨ab, 0, none⟩), .int .i64 at']
def obChain (cb sb ab at' : Nat) : Ob := obBlk cb (chCells sb ab at') 86
set_option maxRecDepth 100000 in
set_option maxHeartbeats 800000 in
theorem arena_len (b : Nat) (F : Nat → Prop) (l : List Int) (w : World) (h : ArenaAt w b F l) :
    Calls Try.prog 18 #[.pointer (some ⟨b, 0, none⟩)] w fun e w' => e = .returned (.int .i64 l.length) ∧ w = w' := by
  obtain ⟨sb, c, h1, rfl, hb, hs, h2, h3⟩ := h
  have c0 := blk_cell hb 0
  simp at c0
  clear hb hs
  generalize l.length = n at *
  go_enter Try.func18, Try.ntmps18
  go_wp2_with fail
  go_ret
  exact ⟨rfl, rfl⟩

set_option maxRecDepth 100000 in
set_option maxHeartbeats 800000 in
theorem chain_new (sb ab at' : Nat) (F : Nat → Prop) (l : List Int) (w : World) (h : ArenaAt w ab F l) (hi : at' < l.length) :
    Calls Try.prog 14 #[.pointer (some ⟨sb, 0, none⟩), .pointer (some ⟨ab, 0, none⟩), .int .i64 at'] w fun e w' =>
      e = .returned (.tuple #[.pointer (some ⟨w.heap.size, 0, none⟩), .int .i64 0]) ∧ w.alloc (.cells (chCells sb ab at') 86 (0, 0)) = w' := by
  have HL := Lib.hid (arena_len ab F l w h)
  clear h
  generalize l.length = n at *
  go_enter Try.func14, Try.ntmps14
  go_wp2_with fail
  refine HL.out.mono ?_
  rintro e w' ⟨rfl, rfl⟩
  go_wp2_with fail
  go_ret2
  exact ⟨rfl, rfl⟩

end Go.Proofs.Ytoidmakaijkglaa
