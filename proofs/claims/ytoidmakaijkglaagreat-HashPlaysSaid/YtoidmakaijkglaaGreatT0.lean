/- Words that are counted: the arena. -/
import Derived.Test.YtoidmakaijkglaaGreatQ0
namespace Go.Proofs.YtoidmakaijkglaaGreat
open Go.RowKit

set_option maxRecDepth 100000 in
set_option maxHeartbeats 800000 in
theorem i64_bump (b off : Nat) (n : Int) (w : World) (hc : w.cell? ⟨b, off, none⟩ = some (.int .i64 n)) (hz : w.frozen? ⟨b, off, none⟩ = false) :
    Calls Tryz.prog 65 #[.pointer (some ⟨b, off, none⟩), .int .i64 1] w fun e w' => ∃ m, e = .returned (.int .i64 m) ∧ w.setCell ⟨b, off, none⟩ (.int .i64 m) = w' := by
  have hadd := run_call_add (P := Tryz.prog) Tryz.func85 (by kernel_rfl) (by kernel_rfl) (by kernel_rfl) .i64 (by kernel_rfl) (y := 1) (s := IntKind.i64.wrap (n + 1)) hc hz (by simp [go_sem])
  generalize IntKind.i64.wrap (n + 1) = m at *
  go_enter Tryz.func65, Tryz.ntmps65
  go_wp2
  go_ret
  exact ⟨_, rfl, rfl⟩
set_option maxRecDepth 100000 in
set_option maxHeartbeats 800000 in
theorem u64_load (b off : Nat) (n : Int) (w : World) (hc : w.cell? ⟨b, off, none⟩ = some (.int .u64 n)) :
    Calls Tryz.prog 57 #[.pointer (some ⟨b, off, none⟩)] w fun e w' => e = .returned (.int .u64 n) ∧ w = w' := by
  have hl := run_call_load (P := Tryz.prog) Tryz.func68 (by kernel_rfl) (by kernel_rfl) (by kernel_rfl) .u64 (by kernel_rfl) hc
  go_enter Tryz.func57, Tryz.ntmps57
  go_wp2
  go_ret
  exact ⟨rfl, rfl⟩
set_option maxRecDepth 100000 in
set_option maxHeartbeats 800000 in
theorem u64_store (b off : Nat) (x y : Int) (w : World) (hc : w.cell? ⟨b, off, none⟩ = some (.int .u64 x)) (hz : w.frozen? ⟨b, off, none⟩ = false) :
    Calls Tryz.prog 52 #[.pointer (some ⟨b, off, none⟩), .int .u64 y] w fun e w' => e = .returned (.tuple #[]) ∧ w.setCell ⟨b, off, none⟩ (.int .u64 y) = w' := by
  have hst := run_call_store (P := Tryz.prog) Tryz.func66 (by kernel_rfl) (by kernel_rfl) (by kernel_rfl) (by kernel_rfl) (k := .u64) (y := y) hc hz
  go_enter Tryz.func52, Tryz.ntmps52
  go_wp2
  go_end0
  exact ⟨rfl, rfl⟩
set_option maxRecDepth 100000 in
set_option maxHeartbeats 800000 in
theorem u64_cas_hit (b off : Nat) (x y : Int) (w : World) (hc : w.cell? ⟨b, off, none⟩ = some (.int .u64 x)) (hz : w.frozen? ⟨b, off, none⟩ = false) :
    Calls Tryz.prog 53 #[.pointer (some ⟨b, off, none⟩), .int .u64 x, .int .u64 y] w fun e w' => e = .returned (.bool true) ∧ w.setCell ⟨b, off, none⟩ (.int .u64 y) = w' := by
  have hcas := run_call_cas_hit (P := Tryz.prog) Tryz.func67 (by kernel_rfl) (by kernel_rfl) (by kernel_rfl) .u64 (by kernel_rfl) (y := y) hc hz
  go_enter Tryz.func53, Tryz.ntmps53
  go_wp2
  go_ret
  exact ⟨rfl, rfl⟩
set_option maxRecDepth 100000 in
set_option maxHeartbeats 800000 in
theorem u64_cas_miss (b off : Nat) (x o y : Int) (hne : ¬ x = o) (w : World) (hc : w.cell? ⟨b, off, none⟩ = some (.int .u64 x)) (hz : w.frozen? ⟨b, off, none⟩ = false) :
    Calls Tryz.prog 53 #[.pointer (some ⟨b, off, none⟩), .int .u64 o, .int .u64 y] w fun e w' => e = .returned (.bool false) ∧ w = w' := by
  have hcas := run_call_cas_miss (P := Tryz.prog) Tryz.func67 (by kernel_rfl) (by kernel_rfl) (by kernel_rfl) .u64 (by kernel_rfl) (y := y) hc hz hne
  clear hne
  go_enter Tryz.func53, Tryz.ntmps53
  go_wp2
  go_ret
  exact ⟨rfl, rfl⟩

/-- An arena in memory: its words are l. -/
def ArenaAt (w : World) (b : Nat) (F : Nat → Prop) (l : List Int) : Prop :=
  ∃ (sb : Nat) (c : Int), sb ≠ b ∧ (F = fun k => k = b ∨ k = sb) ∧ w.heap[b]? = some (.cells #[.slice (some ⟨sb, 0, none⟩) l.length l.length, .int .i64 c] 116 (0, 0)) ∧
    w.heap[sb]? = some (.cells (l.map (Value.int .u64)).toArray 139 (0, 0)) ∧ 1 ≤ l.length ∧ l.length ≤ 100000
theorem ArenaAt.within {w : World} {b : Nat} {F : Nat → Prop} {l : List Int} (h : ArenaAt w b F l) : Within w F := by
  obtain ⟨sb, c, h1, rfl, hb, hs, _⟩ := h
  rintro k (rfl | rfl)
  · exact blk_lt hb
  · exact blk_lt hs
theorem ArenaAt.mod {w w1 : World} {b : Nat} {F G : Nat → Prop} {l : List Int} (h : ArenaAt w b F l) (hm : Mod G w w1) (hG : Apart F G) : ArenaAt w1 b F l := by
  obtain ⟨sb, c, h1, rfl, hb, hs, h2⟩ := h
  exact ⟨sb, c, h1, rfl, hm.keep hb (hG b (.inl rfl)), hm.keep hs (hG sb (.inr rfl)), h2⟩
theorem ArenaAt.below {w w1 : World} {b : Nat} {F : Nat → Prop} {l : List Int} (h : ArenaAt w b F l) (hm : Below w.heap.size w w1) : ArenaAt w1 b F l :=
  h.mod (G := fun _ => False) (Mod.of_below hm) (fun _ _ h => h)
theorem ArenaAt.len {w : World} {b : Nat} {F : Nat → Prop} {l : List Int} (h : ArenaAt w b F l) : 1 ≤ l.length ∧ l.length ≤ 100000 := by
  obtain ⟨sb, c, h1, rfl, hb, hs, h2⟩ := h
  exact h2
def obArena (b : Nat) (F : Nat → Prop) (l : List Int) : Ob := ⟨F, fun w => ArenaAt w b F l, fun _ h => h.within, fun _ _ _ h hm ha => h.mod hm ha⟩
/-- What a call leaves of an arena. -/
def LeftA (w : World) (b : Nat) (F : Nat → Prop) (l : List Int) (w' : World) : Prop := ArenaAt w' b F l ∧ Mod F w w'

theorem info_word : (Tryz.prog.info? 139).map (fun i => (i.zero, i.size, i.bytes)) = some (some (.agg #[.int .u64 0]), 1, 8) := by kernel_rfl
def NewArena (w : World) (n : Nat) (e : Ending) (w' : World) : Prop := ∃ b F, e = .returned (.tuple #[.pointer (some ⟨b, 0, none⟩), .int .i64 0]) ∧ ArenaAt w' b F (List.replicate n 0) ∧ Below w.heap.size w w' ∧ ∀ k, F k → w.heap.size ≤ k
theorem made_words (n : Nat) : (madeCells #[.int .u64 0] n).toList = (List.replicate n (0 : Int)).map (Value.int .u64) := by
  rw [toList_madeCells_one]
  simp

set_option maxRecDepth 100000 in
set_option maxHeartbeats 800000 in
theorem arena_new (n : Nat) (w : World) (h0 : 1 ≤ n) (h1 : n ≤ 100000) :
    Calls Tryz.prog 22 #[.int .i64 n] w (NewArena w n) := by
  have a0 : (1 : Int) ≤ n := by omega
  have a1 : (n : Int) ≤ 100000 := by omega
  obtain ⟨i0, hi, hz0, hz1, hz2⟩ := info_parts info_word
  have hby : i0.bytes * n ≤ 281474976710656 := by rw [hz2]; omega
  have hmx : n ≤ maxLen := by unfold maxLen; omega
  go_enter Tryz.func22, Tryz.ntmps22
  go_wp2_with (at_make; refine wpList_make_full _ rfl _ _ 111 rfl w.heap.size 139 i0 (.agg #[.int .u64 0]) 1 Tryz.underlying111 hi hz0 hz1 .i64 .i64 _ _ n rfl rfl rfl rfl hby hmx (Nat.le_refl _) ?_)
  intro w1 hown hgrow
  have HO : w1.heap[w.heap.size]? = some (.cells ((List.replicate n (0 : Int)).map (Value.int .u64)).toArray 139 (0, 0)) := by
    rcases hown.2 with ⟨h, _⟩ | ⟨g, cap, cur, hv, _, hh, _, _, hsz, htk⟩
    · cases h
    · simp only [Value.slice.injEq, Option.some.injEq, Addr.mk.injEq] at hv
      obtain ⟨⟨rfl, _⟩, _, rfl⟩ := hv
      rw [hh]
      have : cur.toList = (List.replicate n (0 : Int)).map (Value.int .u64) := by
        rw [List.take_of_length_le (by simp; omega)] at htk
        rw [htk]
        exact made_words n
      rw [← this]
  have hz := blk_lt HO
  have hO := Lib.hid HO
  have hB := Lib.hid ((Below.refl w.heap.size w).grown hgrow (Nat.le_refl _) (by simp))
  clear HO hown hgrow
  go_wp2_with fail
  go_ret2
  refine ⟨w1.heap.size, _, rfl, ⟨w.heap.size, 0, by omega, rfl, ?_, blk_alloc hO.out, by simp; omega, by simp; omega⟩, hB.out.alloc hB.out.size _, ?_⟩
  · have := blk_new w1 (.cells #[.slice (some ⟨w.heap.size, 0, none⟩) n n, .int .i64 0] 116 (0, 0))
    simp at this ⊢
    exact this
  · intro k hk
    omega

theorem word_cell {w : World} {sb : Nat} {l : List Int} {T : TypeId} (hs : w.heap[sb]? = some (.cells (l.map (Value.int .u64)).toArray T (0, 0))) {i : Nat} (hi : i < l.length) : w.cell? ⟨sb, i, none⟩ = some (.int .u64 (l.getD i 0)) := by
  rw [blk_cell hs]
  simp [List.getD_eq_getElem?_getD, hi]
/-- The place of a word, counted. -/
def AtWord (w : World) (b : Nat) (F : Nat → Prop) (l : List Int) (i : Nat) (e : Ending) (w' : World) : Prop := ∃ sb, e = .returned (.pointer (some ⟨sb, i, none⟩)) ∧ ArenaAt w' b F l ∧ (F = fun k => k = b ∨ k = sb) ∧ sb ≠ b ∧ w'.heap[sb]? = some (.cells (l.map (Value.int .u64)).toArray 139 (0, 0)) ∧ Mod F w w' ∧
    ∀ v, ArenaAt (w'.setCell ⟨sb, i, none⟩ (.int .u64 v)) b F (l.set i v)
set_option maxRecDepth 100000 in
set_option maxHeartbeats 800000 in
theorem arena_at (b : Nat) (F : Nat → Prop) (l : List Int) (i : Nat) (w : World) (h : ArenaAt w b F l) (hi : i < l.length) :
    Calls Tryz.prog 51 #[.pointer (some ⟨b, 0, none⟩), .int .i64 i] w (AtWord w b F l i) := by
  obtain ⟨sb, c, h1, rfl, hb, hs, h2, h3⟩ := h
  have c0 := blk_cell hb 0
  simp at c0
  have HC := Lib.hid (i64_bump b 1 c w ((blk_cell hb 1).trans rfl) (blk_free hb 1))
  have HB := Lib.hid hb
  have HS := Lib.hid hs
  have HF := Lib.hid (fun m => (show AtWord w b (fun k => k = b ∨ k = sb) l i (.returned (.pointer (some ⟨sb, i, none⟩))) (w.setCell ⟨b, 1, none⟩ (.int .i64 m)) from by
    have e1 := blk_set (i := 1) (u := .int .i64 m) HB.out
    have e2 := blk_other (p := ⟨b, 1, none⟩) (u := .int .i64 m) HS.out h1
    refine ⟨sb, rfl, ⟨sb, m, h1, rfl, ?_, e2, h2, h3⟩, rfl, h1, e2, (Mod.refl _ _).setCell (p := ⟨b, 1, none⟩) (.inl (.inl rfl)) _, fun v => ⟨sb, m, h1, rfl, ?_, ?_, by simpa using h2, by simpa using h3⟩⟩
    · simpa using e1
    · rw [blk_other (p := ⟨sb, i, none⟩) e1 (fun e => h1 e.symm)]
      simp
    · rw [blk_set (i := i) e2]
      simp))
  clear hb hs
  generalize l.length = n at *
  go_enter Tryz.func51, Tryz.ntmps51
  go_wp2_with fail
  refine HC.out.mono ?_
  rintro e w1 ⟨m, rfl, rfl⟩
  have hr := HF.out m
  have HR := Lib.hid hr
  clear hr
  go_wp2_with fail
  go_ret
  exact HR.out

set_option maxRecDepth 100000 in
set_option maxHeartbeats 800000 in
theorem arena_load (b : Nat) (F : Nat → Prop) (l : List Int) (i : Nat) (w : World) (h : ArenaAt w b F l) (hi : i < l.length) :
    Calls Tryz.prog 38 #[.pointer (some ⟨b, 0, none⟩), .int .i64 i] w fun e w' => e = .returned (.int .u64 (l.getD i 0)) ∧ LeftA w b F l w' := by
  have HA := Lib.hid (arena_at b F l i w h hi)
  clear h
  go_enter Tryz.func38, Tryz.ntmps38
  go_wp2_with fail
  refine HA.out.mono ?_
  rintro e w1 ⟨sb, rfl, h1, h2, h3, h4, h5, h6⟩
  have HL := Lib.hid (And.intro h1 h5)
  have HW := Lib.hid (u64_load sb i (l.getD i 0) w1 (word_cell h4 hi))
  clear h1 h2 h3 h4 h5 h6 HA
  generalize hx : l.getD i 0 = x at HW
  have HX := Lib.hid hx
  clear hx
  go_wp2_with fail
  refine HW.out.mono ?_
  rintro e w2 ⟨rfl, rfl⟩
  go_wp2_with fail
  go_ret
  exact ⟨ret_int HX.out.symm, HL.out⟩
set_option maxRecDepth 100000 in
set_option maxHeartbeats 800000 in
theorem arena_store (b : Nat) (F : Nat → Prop) (l : List Int) (i : Nat) (v : Int) (w : World) (h : ArenaAt w b F l) (hi : i < l.length) :
    Calls Tryz.prog 30 #[.pointer (some ⟨b, 0, none⟩), .int .i64 i, .int .u64 v] w fun e w' => e = .returned (.tuple #[]) ∧ LeftA w b F (l.set i v) w' := by
  have HA := Lib.hid (arena_at b F l i w h hi)
  clear h
  go_enter Tryz.func30, Tryz.ntmps30
  go_wp2_with fail
  refine HA.out.mono ?_
  rintro e w1 ⟨sb, rfl, h1, rfl, h3, h4, h5, h6⟩
  have HL := Lib.hid (And.intro (h6 v) (h5.setCell (p := ⟨sb, i, none⟩) (.inl (.inr rfl)) (.int .u64 v)))
  have HW := Lib.hid (u64_store sb i (l.getD i 0) v w1 (word_cell h4 hi) (blk_free h4 i))
  clear h1 h3 h4 h5 h6 HA
  go_wp2_with fail
  refine HW.out.mono ?_
  rintro e w2 ⟨rfl, rfl⟩
  go_wp2_with fail
  go_end0
  exact ⟨rfl, HL.out⟩
set_option maxRecDepth 100000 in
set_option maxHeartbeats 800000 in
theorem arena_cas (b : Nat) (F : Nat → Prop) (l : List Int) (i : Nat) (o v : Int) (w : World) (h : ArenaAt w b F l) (hi : i < l.length) :
    Calls Tryz.prog 34 #[.pointer (some ⟨b, 0, none⟩), .int .i64 i, .int .u64 o, .int .u64 v] w fun e w' =>
      (l.getD i 0 = o ∧ e = .returned (.bool true) ∧ LeftA w b F (l.set i v) w') ∨ (¬ l.getD i 0 = o ∧ e = .returned (.bool false) ∧ LeftA w b F l w') := by
  have HA := Lib.hid (arena_at b F l i w h hi)
  clear h
  by_cases he : l.getD i 0 = o
  · have HE := Lib.hid he
    clear he
    go_enter Tryz.func34, Tryz.ntmps34
    go_wp2_with fail
    refine HA.out.mono ?_
    rintro e w1 ⟨sb, rfl, h1, rfl, h3, h4, h5, h6⟩
    have HL := Lib.hid (And.intro (h6 v) (h5.setCell (p := ⟨sb, i, none⟩) (.inl (.inr rfl)) (.int .u64 v)))
    have HW := Lib.hid (u64_cas_hit sb i o v w1 ((word_cell h4 hi).trans (by rw [HE.out])) (blk_free h4 i))
    clear h1 h3 h4 h5 h6 HA
    go_wp2_with fail
    refine HW.out.mono ?_
    rintro e w2 ⟨rfl, rfl⟩
    go_wp2_with fail
    go_ret
    exact .inl ⟨HE.out, rfl, HL.out⟩
  · have HE := Lib.hid he
    clear he
    go_enter Tryz.func34, Tryz.ntmps34
    go_wp2_with fail
    refine HA.out.mono ?_
    rintro e w1 ⟨sb, rfl, h1, rfl, h3, h4, h5, h6⟩
    have HL := Lib.hid (And.intro h1 h5)
    have HW := Lib.hid (u64_cas_miss sb i (l.getD i 0) o v HE.out w1 (word_cell h4 hi) (blk_free h4 i))
    clear h1 h3 h4 h5 h6 HA
    go_wp2_with fail
    refine HW.out.mono ?_
    rintro e w2 ⟨rfl, rfl⟩
    go_wp2_with fail
    go_ret
    exact .inr ⟨HE.out, rfl, HL.out⟩
end Go.Proofs.YtoidmakaijkglaaGreat
