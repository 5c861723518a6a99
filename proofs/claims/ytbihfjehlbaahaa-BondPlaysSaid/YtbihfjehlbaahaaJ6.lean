/- A row that is taken from at its front: a slice into a block of the call's own. -/
import Derived.Test.YtbihfjehlbaahaaJ5
import Derived.ArgAppend
import Derived.Laws.IdiomCopy
namespace Go.Proofs.Ytbihfjehlbaahaa
open Go.RowKit

/-- A slice into a block of the call's own, wherever it begins. -/
def QAt (w : World) (v : Value) (T : List Int) : Prop := ∃ g off cap, v = .slice (some ⟨g, off, none⟩) T.length cap ∧ T.length ≤ cap ∧ cap ≤ maxLen ∧ g < w.heap.size ∧
  (∀ j, j < cap → (w.cell? ⟨g, off + j, none⟩).isSome = true ∧ w.frozen? ⟨g, off + j, none⟩ = false) ∧ ∀ i, i < T.length → w.cell? ⟨g, off + i, none⟩ = some (.int .i64 (T.getD i 0))
theorem QAt.mod {w w1 : World} {F : Nat → Prop} {v : Value} {T : List Int} (h : QAt w v T) (hm : Mod F w w1) (hF : ∀ g, v.ownBlock = some g → ¬ F g) : QAt w1 v T := by
  obtain ⟨g, off, cap, rfl, h1, h2, h3, h4, h5⟩ := h
  have hb : w1.heap[g]? = w.heap[g]? := hm.block g h3 (hF g rfl)
  have hc : ∀ o, w1.cell? ⟨g, o, none⟩ = w.cell? ⟨g, o, none⟩ := fun o => World.cell?_of_block (w := w) (a := ⟨g, o, none⟩) hb
  have hf : ∀ o, w1.frozen? ⟨g, o, none⟩ = w.frozen? ⟨g, o, none⟩ := fun o => World.frozen?_of_block (w := w) (a := ⟨g, o, none⟩) hb
  exact ⟨g, off, cap, rfl, h1, h2, Nat.lt_of_lt_of_le h3 hm.size, fun j hj => by rw [hc, hf]; exact h4 j hj, fun i hi => by rw [hc]; exact h5 i hi⟩
theorem QAt.lt {w : World} {v : Value} {T : List Int} (h : QAt w v T) : ∀ g, v.ownBlock = some g → g < w.heap.size := by
  obtain ⟨g, off, cap, rfl, _, _, h3, _⟩ := h
  intro k hk
  have : g = k := by simpa [Value.ownBlock] using hk
  omega
def obQ (v : Value) (T : List Int) : Ob := ⟨fun g => v.ownBlock = some g, fun w => QAt w v T, fun _ h => h.lt, fun _ _ _ h hm ha => h.mod hm (fun g hg => ha g hg)⟩
theorem QAt.one {w : World} {g : Nat} {x : Int} {E : TypeId} (h : w.heap[g]? = some (.cells #[.int .i64 x] E (0, 0))) : QAt w (.slice (some ⟨g, 0, none⟩) 1 1) [x] := by
  refine ⟨g, 0, 1, rfl, Nat.le_refl _, by unfold maxLen; omega, (Array.getElem?_eq_some_iff.1 h).1, fun j hj => ?_, fun i hi => ?_⟩
  · obtain rfl : j = 0 := by omega
    exact ⟨by rw [blk_cell h]; simp, by simp [World.frozen?, h]⟩
  · obtain rfl : i = 0 := by simp at hi; omega
    rw [blk_cell h]; simp
theorem QAt.rest {w : World} {g off cap : Nat} {x : Int} {T : List Int} (h : QAt w (.slice (some ⟨g, off, none⟩) (x :: T).length cap) (x :: T)) : QAt w (.slice (some ⟨g, off + 1, none⟩) T.length (cap - 1)) T := by
  obtain ⟨g', off', cap', hv, h1, h2, h3, h4, h5⟩ := h
  simp only [Value.slice.injEq, Option.some.injEq, Addr.mk.injEq, and_true, true_and] at hv
  obtain ⟨⟨rfl, rfl⟩, rfl⟩ := hv
  simp only [List.length_cons] at h1 h5
  refine ⟨g, off + 1, cap - 1, rfl, by omega, by omega, h3, fun j hj => ?_, fun i hi => ?_⟩
  · rw [show off + 1 + j = off + (j + 1) by omega]
    exact h4 (j + 1) (by omega)
  · rw [show off + 1 + i = off + (i + 1) by omega, h5 (i + 1) (by omega)]
    simp
theorem QAt.rest1 {w : World} {g off : Nat} {x : Int} {T : List Int} (h : QAt w (.slice (some ⟨g, off, none⟩) (x :: T).length 1) (x :: T)) : T = [] ∧ QAt w (.slice (some ⟨g, off, none⟩) 0 0) [] := by
  obtain ⟨g', off', cap', hv, h1, h2, h3, h4, h5⟩ := h
  simp only [Value.slice.injEq, Option.some.injEq, Addr.mk.injEq, and_true, true_and] at hv
  obtain ⟨⟨rfl, rfl⟩, rfl⟩ := hv
  have hT : T = [] := List.length_eq_zero_iff.1 (by simp only [List.length_cons] at h1; omega)
  exact ⟨hT, g, off, 0, rfl, Nat.le_refl _, by unfold maxLen; omega, h3, fun j hj => absurd hj (by omega), fun i hi => absurd hi (by simp)⟩
theorem QAt.head {w : World} {g off cap : Nat} {x : Int} {T : List Int} (h : QAt w (.slice (some ⟨g, off, none⟩) (x :: T).length cap) (x :: T)) : w.cell? ⟨g, off, none⟩ = some (.int .i64 x) := by
  obtain ⟨g', off', cap', hv, h1, h2, h3, h4, h5⟩ := h
  simp only [Value.slice.injEq, Option.some.injEq, Addr.mk.injEq, and_true, true_and] at hv
  obtain ⟨⟨rfl, rfl⟩, rfl⟩ := hv
  exact h5 0 (by simp)
theorem QAt.form {w : World} {v : Value} {T : List Int} (h : QAt w v T) : ∃ g off cap, v = .slice (some ⟨g, off, none⟩) T.length cap ∧ T.length ≤ cap ∧ cap ≤ maxLen := by
  obtain ⟨g, off, cap, rfl, h1, h2, _⟩ := h
  exact ⟨g, off, cap, rfl, h1, h2⟩
theorem QAt.row {w : World} {v : Value} {T : List Int} (h : QAt w v T) : RowAt .i64 w v T := by
  obtain ⟨g, off, cap, rfl, h1, h2, h3, h4, h5⟩ := h
  exact .inr ⟨g, off, cap, rfl, h1, by omega, h3, h5⟩

/-- What an append of one leaves. -/
structure Pushed (w w' : World) (v v' : Value) (T : List Int) : Prop where
  q : QAt w' v' T
  grown : w.grownBy w' v.ownBlock
  lies : ∀ k, v'.ownBlock = some k → v.ownBlock = some k ∨ w.heap.size ≤ k
theorem run_push {w : World} {v : Value} {T : List Int} (h : QAt w v T) {s : Nat} {x : Int} {E : TypeId} (hs : w.heap[s]? = some (.cells #[.int .i64 x] E (0, 0))) (hT : T.length ≤ 1000000) (ty : TypeId) :
    ∃ v' w', (Builtin.append_ #[25, 25] ty #[v, .slice (some ⟨s, 0, none⟩) 1 1]).run Try.prog w = .ok v' w' ∧ Pushed w w' v v' (T ++ [x]) := by
  obtain ⟨g, off, cap, rfl, h1, h2, h3, h4, h5⟩ := h
  obtain ⟨i0, hi, hz0, hz1, hz2⟩ := info_parts info_int
  have hnews : ∀ j u, [Value.int .i64 x][j]? = some u → w.cell? ((⟨s, 0, none⟩ : Addr).add j) = some u := by
    intro j u hj
    match j, hj with
    | 0, hj => simp at hj; subst hj; rw [Go.WideShapes.add_plain, blk_cell hs]; simp
  by_cases hroom : T.length + 1 ≤ cap
  · have hr := run_append_room_cells (P := Try.prog) w 25 ty 3 i0 Try.underlying25 hi g off T.length cap ⟨s, 0, none⟩ 1 1 [.int .i64 x] (by rw [hz1]; rfl) hnews (by intro u hu; simp at hu; subst hu; rfl) hroom
      (fun j hj => by simp at hj; subst hj; rw [hz1]; simpa using (h4 T.length (by omega)).1) (fun j hj => by simp at hj; subst hj; rw [hz1]; simpa using (h4 T.length (by omega)).2)
    refine ⟨_, _, hr, ⟨⟨g, off, cap, by simp, by simp; omega, h2, by simpa [World.setCells, World.setCell] using h3, fun j hj => ?_, fun i hi => ?_⟩, ?_, fun _ hk => .inl hk⟩⟩
    · rw [hz1, Nat.mul_one]
      refine ⟨?_, ?_⟩
      · show ((w.setCell ⟨g, off + T.length, none⟩ (.int .i64 x)).cell? ⟨g, off + j, none⟩).isSome = true
        by_cases hj2 : j = T.length
        · subst hj2
          rw [World.cell?_setCell_same' _ _ _ (h4 _ (by omega)).1]; rfl
        · rw [World.cell?_setCell_other _ _ _ _ (by simp <;> omega)]
          exact (h4 j hj).1
      · show (w.setCell ⟨g, off + T.length, none⟩ (.int .i64 x)).frozen? ⟨g, off + j, none⟩ = false
        rw [World.frozen?_setCell]
        exact (h4 j hj).2
    · rw [hz1, Nat.mul_one]
      show (w.setCell ⟨g, off + T.length, none⟩ (.int .i64 x)).cell? ⟨g, off + i, none⟩ = _
      simp only [List.length_append, List.length_singleton] at hi
      by_cases hi2 : i = T.length
      · subst hi2
        rw [World.cell?_setCell_same' _ _ _ (h4 _ (by omega)).1]
        simp [List.getD_eq_getElem?_getD]
      · rw [World.cell?_setCell_other _ _ _ _ (by simp <;> omega), h5 i (by omega)]
        simp [List.getD_eq_getElem?_getD, List.getElem?_append_left (show i < T.length by omega)]
    · rw [hz1, Nat.mul_one]
      exact ⟨rfl, rfl, rfl, by simp [World.setCells, World.setCell], fun k hk hne => by
        have : g ≠ k := fun e => hne (by rw [e]; rfl)
        simp [World.setCells, World.setCell, Array.getElem?_modify, this]⟩
  · obtain ⟨v', w', hr, h6, h7⟩ := run_append_arg_grows (P := Try.prog) w 25 ty 3 i0 (.int .i64 0) 1 8 Try.underlying25 hi hz0 hz1 hz2 rfl Nat.zero_lt_one ⟨g, off, none⟩ T.length cap (T.map (Value.int .i64)) (by simp)
      (fun j u hj => by
        rw [Go.WideShapes.add_plain]
        have hjl : j < T.length := by have := (List.getElem?_eq_some_iff.1 hj).1; simpa using this
        rw [h5 j hjl]
        simp [hjl] at hj
        simp [List.getD_eq_getElem?_getD, hjl, hj])
      ⟨s, 0, none⟩ 1 1 [.int .i64 x] rfl hnews (by omega) (by unfold maxLen; omega) (by omega)
    refine ⟨v', w', hr, ⟨?_, ⟨h7.os, h7.tape, h7.output, h7.size, fun k hk _ => h7.block k hk (by simp)⟩, ?_⟩⟩
    · rcases h6.2 with ⟨_, h0⟩ | ⟨g', cap', cur, rfl, hg', hh, hnc, hcm, hcs, htk⟩
      · omega
      · refine ⟨g', 0, cap', by simp, by simp; omega, hcm, (Array.getElem?_eq_some_iff.1 hh).1, fun j hj => ⟨?_, by simp [World.frozen?, hh]⟩, fun i hi => ?_⟩
        · rw [Nat.zero_add, blk_cell hh]; simp [show j < cur.size by omega]
        · rw [Nat.zero_add, blk_cell hh]
          have : (cur.toList.take ((T.length + 1) * 1))[i]? = (T.map (Value.int .i64) ++ [.int .i64 x])[i]? := by rw [htk]
          simp only [List.length_append, List.length_singleton] at hi
          rw [List.getElem?_take_of_lt (by omega)] at this
          rw [← Array.getElem?_toList, this]
          by_cases hi2 : i = T.length
          · subst hi2; simp [List.getD_eq_getElem?_getD]
          · have : i < T.length := by omega
            simp [List.getD_eq_getElem?_getD, List.getElem?_append_left, this]
    · intro k hk
      rcases h6.2 with ⟨_, h0⟩ | ⟨g', cap', cur, rfl, hg', _⟩
      · omega
      · have : g' = k := by simpa [Value.ownBlock] using hk
        exact .inr (by omega)
end Go.Proofs.Ytbihfjehlbaahaa
