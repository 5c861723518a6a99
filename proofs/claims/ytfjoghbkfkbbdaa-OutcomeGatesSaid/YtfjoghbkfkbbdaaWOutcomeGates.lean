/- OutcomeGates holds: a gate lets just so many through, and nobody more. No condition. -/
import Derived.Test.YtfjoghbkfkbbdaaS4
namespace Go.Proofs.Ytfjoghbkfkbbdaa
open Go.RowKit Go.ChangeShapes

set_option maxRecDepth 100000 in
set_option maxHeartbeats 800000 in
theorem gate_pass' (b : Nat) (n : Int) (hn : 0 < n) (hn2 : n ≤ 9223372036854775807) (w : World) (h : GateAt w b n) :
    Calls Try.prog 33 #[.pointer (some ⟨b, 0, none⟩)] w fun e w' => e = .returned (.bool true) ∧ GateAt w' b (n - 1) ∧ Only b w w' := by
  have H := Lib.hid (i64_load b 0 n w ((blk_cell h 0).trans rfl))
  have HC := Lib.hid (i64_cas b 0 n (n - 1) w ((blk_cell h 0).trans rfl) (blk_free h 0))
  have hb := Lib.hid h
  have hz : decide (n = 0) = false := by simp; omega
  have hw : IntKind.i64.wrap (n - 1) = n - 1 := IntWalk.i64_in _ (by omega)
  clear h
  go_enter Try.func33, Try.ntmps33
  go_wp2_with fail
  refine wp_loop_once ?_
  go_wp2_with fail
  refine H.out.mono ?_
  rintro e w1 ⟨rfl, rfl⟩
  go_wp2_with fail
  refine HC.out.mono ?_
  rintro e w1 ⟨rfl, rfl⟩
  go_wp2_with fail
  go_ret
  exact ⟨rfl, blk_set (i := 0) hb.out, (Only.refl b w).setCell (p := ⟨b, 0, none⟩) (.inl rfl) _⟩

set_option maxRecDepth 100000 in
set_option maxHeartbeats 3200000 in
theorem outcomeGates_walk {a0 a1 : Int} {w : World} (_w0 : (Lit.int .i64 a0).wf = true) (_w1 : (Lit.int .i64 a1).wf = true) :
    Calls Try.prog 6 #[.int .i64 a0, .int .i64 a1] w fun e w' => e = .returned (.bool true) ∧ Below w.heap.size w w' := by
  have m1 := i64_and63 a1
  have bd := bounds_i64 _w0
  obtain ⟨T, hT, hT2⟩ : ∃ x : Nat, a1 % 64 = x ∧ x ≤ 63 := ⟨(a1 % 64).toNat, by omega, by omega⟩
  rw [hT] at m1
  obtain ⟨M, hM⟩ : ∃ M : Int, (a0 < 0 ∧ M = 0) ∨ (0 ≤ a0 ∧ M = a0) := ⟨max a0 0, by omega⟩
  have HN := Lib.hid (gate_new a0 M hM w)
  have hM0 : 0 ≤ M := by omega
  have hM1 : M ≤ 9223372036854775807 := by omega
  clear hT _w0 _w1 bd
  rcases hM with ⟨hM, rfl⟩ | ⟨hM, rfl⟩
  all_goals
    go_enter Try.func6, Try.ntmps6
    go_wp2_with fail
    refine HN.out.mono ?_
    rintro e w1 ⟨rfl, g1, B1, z1⟩
    have G1 := Lib.hid g1
    clear g1 HN
    go_wp2_with fail
    go_loopw [6, 7] (fun lv i wr => ∃ (k : Nat) (L : Int), k ≤ T ∧ i = .int .i64 k ∧ 0 ≤ L ∧ L ≤ 9223372036854775807 ∧ lv = .int .i64 L ∧ GateAt wr w.heap.size L ∧ Below w.heap.size w wr) (fun _ i _ => T - (intOf i).toNat)
    case atStart => exact ⟨0, _, Nat.zero_le _, rfl, by omega, by omega, rfl, G1.out, B1⟩
    case round =>
      obtain ⟨k, L, hk, rfl, hL0, hL1, rfl, hg, hB⟩ := hrel
      have HG := Lib.hid hg
      clear hg G1 B1
      by_cases hlt : k < T
      · go_wp2_with fail
        refine (gate_left w.heap.size L wr HG.out).mono ?_
        rintro e w2 ⟨rfl, rfl⟩
        by_cases hL : 0 < L
        · go_wp2_with fail
          refine (gate_pass' w.heap.size L hL hL1 wr HG.out).mono ?_
          rintro e w2 ⟨rfl, h2, o2⟩
          have H2 := Lib.hid h2
          have C2 := hB.trans (o2.below (Nat.le_refl _) hB.size)
          clear h2 o2 HG hB
          have hw : IntKind.i64.wrap (L - 1) = L - 1 := IntWalk.i64_in _ (by omega)
          go_wp2_with fail
          go_roundw
          case rel => exact ⟨k + 1, L - 1, by omega, by go_num, by omega, by omega, rfl, H2.out, C2⟩
          case measure => simp [intOf]; omega
        · obtain rfl : L = 0 := by omega
          go_wp2_with fail
          refine (gate_shut w.heap.size wr HG.out).mono ?_
          rintro e w2 ⟨rfl, rfl⟩
          go_wp2_with fail
          go_roundw
          case rel => exact ⟨k + 1, 0, by omega, by go_num, by omega, by omega, rfl, HG.out, hB⟩
          case measure => simp [intOf]; omega
      · go_wp2_with fail
        refine (gate_left w.heap.size L wr HG.out).mono ?_
        rintro e w2 ⟨rfl, rfl⟩
        go_wp2_with fail
        refine (awake18_any wr).mono ?_
        rintro e w7 ⟨rfl, b7⟩
        go_wp2_with fail
        go_ret
        exact ⟨rfl, bl_next hB b7⟩

end Go.Proofs.Ytfjoghbkfkbbdaa
