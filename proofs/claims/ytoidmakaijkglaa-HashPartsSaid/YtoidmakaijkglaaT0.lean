/- Words that are counted: the arena. -/
import Derived.Test.YtoidmakaijkglaaQ0
namespace Go.Proofs.Ytoidmakaijkglaa
open Go.RowKit

/-- An arena in memory: its words are l. -/
def ArenaAt (w : World) (b : Nat) (F : Nat → Prop) (l : List Int) : Prop :=
  ∃ (sb : Nat) (c : Int), sb ≠ b ∧ (F = fun k => k = b ∨ k = sb) ∧ w.heap[b]? = some (.cells #[.slice (some ⟨sb, 0, none⟩) l.length l.length, .int .i64 c] 83 (0, 0)) ∧
    w.heap[sb]? = some (.cells (l.map (Value.int .u64)).toArray 152 (0, 0)) ∧ 1 ≤ l.length ∧ l.length ≤ 100000
theorem ArenaAt.within {w : World} {b : Nat} {F : Nat → Prop} {l : List Int} (h : ArenaAt w b F l) : Within w F := by
  obtain ⟨sb, c, h1, rfl, hb, hs, _⟩ := h
  rintro k (rfl | rfl)
  · exact blk_lt hb
  · exact blk_lt hs
theorem ArenaAt.mod {w w1 : World} {b : Nat} {F G : Nat → Prop} {l : List Int} (h : ArenaAt w b F l) (hm : Mod G w w1) (hG : Apart F G) : ArenaAt w1 b F l := by
  obtain ⟨sb, c, h1, rfl, hb, hs, h2⟩ := h
  exact ⟨sb, c, h1, rfl, hm.keep hb (hG b (.inl rfl)), hm.keep hs (hG sb (.inr rfl)), h2⟩
theorem ArenaAt.below {w w1 : World} {b : Nat} {F : Nat → Prop} {l : List Int} (h : ArenaAt w b F l) (hm : Below w.heap.size w w1) : ArenaAt w1 b F l :=
  h.mod (G := fun _ => False) (Mod.of_below hm) (fun _ _ h => h)
theorem ArenaAt.len {w : World} {b : Nat} {F : Nat → Prop} {l : List Int} (h : ArenaAt w b F l) : 1 ≤ l.length ∧ l.length ≤ 100000 := by
  obtain ⟨sb, c, h1, rfl, hb, hs, h2⟩ := h
  exact h2
def obArena (b : Nat) (F : Nat → Prop) (l : List Int) : Ob := ⟨F, fun w => ArenaAt w b F l, fun _ h => h.within, fun _ _ _ h hm ha => h.mod hm ha⟩
/-- What a call leaves of an arena. -/
def LeftA (w : World) (b : Nat) (F : Nat → Prop) (l : List Int) (w' : World) : Prop := ArenaAt w' b F l ∧ Mod F w w'

theorem info_word : (Try.prog.info? 152).map (fun i => (i.zero, i.size, i.bytes)) = some (some (.agg #[.int .u64 0]), 1, 8) := by kernel_rfl
def NewArena (w : World) (n : Nat) (e : Ending) (w' : World) : Prop := ∃ b F, e = .returned (.tuple #[.pointer (some ⟨b, 0, none⟩), .int .i64 0]) ∧ ArenaAt w' b F (List.replicate n 0) ∧ Below w.heap.size w w' ∧ ∀ k, F k → w.heap.size ≤ k
theorem made_words (n : Nat) : (madeCells #[.int .u64 0] n).toList = (List.replicate n (0 : Int)).map (Value.int .u64) := by
  rw [toList_madeCells_one]
  simp

set_option maxRecDepth 100000 in
set_option maxHeartbeats 800000 in
theorem arena_new (n : Nat) (w : World) (h0 : 1 ≤ n) (h1 : n ≤ 100000) :
    Calls Try.prog 11 #[.int .i64 n] w (NewArena w n) := by
  have a0 : (1 : Int) ≤ n := by omega
  have a1 : (n : Int) ≤ 100000 := by omega
  obtain ⟨i0, hi, hz0, hz1, hz2⟩ := info_parts info_word
  have hby : i0.bytes * n ≤ 281474976710656 := by rw [hz2]; omega
  have hmx : n ≤ maxLen := by unfold maxLen; omega
  go_enter Try.func11, Try.ntmps11
  go_wp2_with (at_make; refine wpList_make_full _ rfl _ _ 78 rfl w.heap.size 152 i0 (.agg #[.int .u64 0]) 1 Try.underlying78 hi hz0 hz1 .i64 .i64 _ _ n rfl rfl rfl rfl hby hmx (Nat.le_refl _) ?_)
  intro w1 hown hgrow
  have HO : w1.heap[w.heap.size]? = some (.cells ((List.replicate n (0 : Int)).map (Value.int .u64)).toArray 152 (0, 0)) := by
    rcases hown.2 with ⟨h, _⟩ | ⟨g, cap, cur, hv, _, hh, _, _, hsz, htk⟩
    · cases h
    · simp only [Value.slice.injEq, Option.some.injEq, Addr.mk.injEq] at hv
      obtain ⟨⟨rfl, _⟩, _, rfl⟩ := hv
      rw [hh]
      have : cur.toList = (List.replicate n (0 : Int)).map (Value.int .u64) := by
        rw [List.take_of_length_le (by simp; omega)] at htk
        rw [htk]
        exact made_words n
      rw [← this]
  have hz := blk_lt HO
  have hO := Lib.hid HO
  have hB := Lib.hid ((Below.refl w.heap.size w).grown hgrow (Nat.le_refl _) (by simp))
  clear HO hown hgrow
  go_wp2_with fail
  go_ret2
  refine ⟨w1.heap.size, _, rfl, ⟨w.heap.size, 0, by omega, rfl, ?_, blk_alloc hO.out, by simp; omega, by simp; omega⟩, hB.out.alloc hB.out.size _, ?_⟩
  · have := blk_new w1 (.cells #[.slice (some ⟨w.heap.size, 0, none⟩) n n, .int .i64 0] 83 (0, 0))
    simp at this ⊢
    exact this
  · intro k hk
    omega

theorem word_cell {w : World} {sb : Nat} {l : List Int} {T : TypeId} (hs : w.heap[sb]? = some (.cells (l.map (Value.int .u64)).toArray T (0, 0))) {i : Nat} (hi : i < l.length) : w.cell? ⟨sb, i, none⟩ = some (.int .u64 (l.getD i 0)) := by
  rw [blk_cell hs]
  simp [List.getD_eq_getElem?_getD, hi]
/-- The place of a word, counted. -/
def AtWord (w : World) (b : Nat) (F : Nat → Prop) (l : List Int) (i : Nat) (e : Ending) (w' : World) : Prop := ∃ sb, e = .returned (.pointer (some ⟨sb, i, none⟩)) ∧ ArenaAt w' b F l ∧ (F = fun k => k = b ∨ k = sb) ∧ sb ≠ b ∧ w'.heap[sb]? = some (.cells (l.map (Value.int .u64)).toArray 152 (0, 0)) ∧ Mod F w w' ∧
    ∀ v, ArenaAt (w'.setCell ⟨sb, i, none⟩ (.int .u64 v)) b F (l.set i v)
end Go.Proofs.Ytoidmakaijkglaa
