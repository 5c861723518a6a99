/- SameInts compares two rows; a word of the laws; ContainsFunc over whatever test. -/
import Derived.Test.YtbiadeniplmkfaaA1
import Derived.LoopTactic
namespace Go.Proofs.Ytbiadeniplmkfaa
open Go.RowKit

/-- Two rows, as far as they were looked at. -/
def sameTo (a b : List Int) (k : Nat) : Prop := ∀ i, i < k → a.getD i 0 = b.getD i 0
theorem same_all {a b : List Int} (hl : a.length = b.length) (h : sameTo a b a.length) : decide (a = b) = true := by
  rw [decide_eq_true_iff]
  refine List.ext_getElem hl (fun i h1 h2 => ?_)
  have := h i h1
  simpa [List.getD_eq_getElem?_getD, List.getElem?_eq_getElem h1, List.getElem?_eq_getElem h2] using this
theorem same_not {a b : List Int} {k : Nat} (h : a.getD k 0 ≠ b.getD k 0) : decide (a = b) = false := by
  rw [decide_eq_false_iff_not]
  rintro rfl
  exact h rfl
theorem same_len {a b : List Int} (h : a.length ≠ b.length) : decide (a = b) = false := by
  rw [decide_eq_false_iff_not]
  rintro rfl
  exact h rfl
theorem ret_bool {a b : Bool} (h : a = b) : Ending.returned (.bool a) = .returned (.bool b) := by rw [h]

theorem RowAt.len {k : IntKind} {w : World} {v : Value} {l : List Int} (h : RowAt k w v l) : ∃ a cap, v = .slice a l.length cap ∧ l.length ≤ maxLen := by
  rcases h with ⟨rfl, a, cap, rfl, _⟩ | ⟨b, off, cap, rfl, _, hm, _⟩
  · exact ⟨a, cap, rfl, by simp⟩
  · exact ⟨_, cap, rfl, hm⟩

set_option maxHeartbeats 400000 in
theorem sameInts_any (a b : List Int) (u v : Value) (w : World) (ha : IntsAt w u a) (hb : IntsAt w v b) :
    Calls Try.prog 32 #[u, v] w fun e w' => e = .returned (.bool (decide (a = b))) ∧ Below w.heap.size w w' := by
  obtain ⟨aa, ac, hu, hma⟩ := ha.len
  obtain ⟨ba, bc, hv, hmb⟩ := hb.len
  by_cases hl : a.length = b.length
  · by_cases h0 : a.length = 0
    · have e1 := Lib.hid (show decide (a = b) = true from same_all hl (fun i hi => by omega))
      rw [← hl, h0] at hv
      rw [h0] at hu
      subst hu hv
      clear ha hb hl h0 hma hmb
      go_enter Try.func32, Try.ntmps32
      go_wp2
      refine wp_loop_rounds 1 ?_
      rw [rounds_succ]
      go_wp2
      go_ret
      exact ⟨ret_bool e1.out.symm, Below.refl _ _⟩
    · rcases ha with ⟨rfl, _⟩ | ⟨ab, ao, ac, rfl, _, _, hal, hac⟩
      · simp at h0
      rcases hb with ⟨rfl, _⟩ | ⟨bb, bo, bc, rfl, _, _, hbl, hbc⟩
      · simp at hl; simp [hl] at h0
      clear hu hv hmb h0
      rw [← hl] at hbc ⊢
      have HL := Lib.hid hl
      clear hl
      have HA := Lib.hid hac
      have HB := Lib.hid hbc
      clear hac hbc
      obtain ⟨n, hn⟩ : ∃ n, n = a.length := ⟨_, rfl⟩
      rw [← hn] at HA HB hma HL ⊢
      have HN := Lib.hid hn
      clear hn
      unfold maxLen at hma
      go_enter Try.func32, Try.ntmps32
      go_wp2
      go_loopw [5] (fun i wr => ∃ k : Nat, k ≤ n ∧ i = .int .i64 k ∧ Below w.heap.size w wr ∧ sameTo a b k) (fun i _ => n - (intOf i).toNat)
      case atStart => exact ⟨0, Nat.zero_le _, rfl, Below.refl _ _, fun i hi => by omega⟩
      case round =>
        obtain ⟨k, hk, rfl, hB, hsame⟩ := hrel
        have HS := Lib.hid hsame
        clear hsame
        by_cases hlt : k < n
        · have c1 := (hB.cell (p := ⟨ab, ao + k, none⟩) hal).trans (HA.out k hlt)
          have c2 := (hB.cell (p := ⟨bb, bo + k, none⟩) hbl).trans (HB.out k hlt)
          by_cases hne : a.getD k 0 = b.getD k 0
          · have HE := Lib.hid hne
            rw [hne] at c1
            clear hne
            generalize b.getD k 0 = y at c1 c2
            go_wp2
            go_quiet (fail)
            go_wp2
            go_roundw
            case rel => exact ⟨k + 1, by omega, by go_num, below_drewN hB _, fun i hi => if h : i = k then h ▸ HE.out else HS.out i (by omega)⟩
            case measure => simp [intOf]; omega
          · have hE := Lib.hid (same_not hne)
            have hne2 : (a.getD k 0 != b.getD k 0) = true := by simpa using hne
            clear hne
            generalize b.getD k 0 = y at *
            generalize a.getD k 0 = x at *
            go_wp2
            go_quiet (fail)
            go_wp2
            go_ret
            exact ⟨ret_bool hE.out.symm, below_drewN hB _⟩
        · have hE := Lib.hid (show decide (a = b) = true from same_all (HL.out ▸ HN.out.symm) (HN.out ▸ (show k = n by omega) ▸ HS.out))
          go_wp2
          go_ret
          exact ⟨ret_bool hE.out.symm, hB⟩
  · have hE := Lib.hid (same_len hl)
    subst hu hv
    clear ha hb
    unfold maxLen at hma hmb
    have hne : ((a.length : Int) != (b.length : Int)) = true := by simp; omega
    clear hl
    generalize a.length = n at *
    generalize b.length = m at *
    go_enter Try.func32, Try.ntmps32
    go_wp2
    go_ret
    exact ⟨ret_bool hE.out.symm, Below.refl _ _⟩
end Go.Proofs.Ytbiadeniplmkfaa
