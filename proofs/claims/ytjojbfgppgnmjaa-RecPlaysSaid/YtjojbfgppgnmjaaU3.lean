/- The document's pool: All; Same. -/
import Derived.Test.YtjojbfgppgnmjaaU2
namespace Go.Proofs.Ytjojbfgppgnmjaa.Ref
open Go.RowKit Go.Proofs.Ytjojbfgppgnmjaa

theorem ref_below {w w1 : World} {b : Nat} {F : Nat → Prop} {s : PS} (h : RefAt w b F s) (hm : Below w.heap.size w w1) : RefAt w1 b F s :=
  h.mod (G := fun _ => False) (Mod.of_below hm) (fun _ _ h => h)
set_option maxRecDepth 100000 in
set_option maxHeartbeats 1600000 in
theorem ref_all (b : Nat) (F : Nat → Prop) (s : PS) (w : World) (h : RefAt w b F s) :
    Calls Try.prog 31 #[.pointer (some ⟨b, 0, none⟩)] w (RetRow .u64 28 s.all' w) := by
  have hP := Lib.hid h
  obtain ⟨tb, kb, gv, g, fr, n1, n2, n3, n4, n5, n6, rfl, hb, htb, hk, hg, ho, hz, hf, hs⟩ := h
  have hn := ho.n2
  have HB := Lib.hid hb
  have HS := Lib.hid hk
  have HA := Lib.hid (show s.all' = s.allTo s.sl.length from rfl)
  clear hb htb hk hg ho hz hf hs
  go_enter Try.func31, Try.ntmps31
  go_wp2_with fail
  go_loopw [3, 4] (fun ov i wr => ∃ (k : Nat), k ≤ s.sl.length ∧ i = .int .i64 k ∧ Owned .u64 28 wr ov (s.allTo k) ∧ Below w.heap.size w wr ∧ ∀ g, ov.ownBlock = some g → w.heap.size ≤ g) (fun _ i _ => s.sl.length - (intOf i).toNat)
  case atStart => exact ⟨0, Nat.zero_le _, rfl, Owned.nil _ _ _, Below.refl _ _, fun g hg => by simp [Value.ownBlock] at hg⟩
  case round =>
    obtain ⟨k, hk, rfl, hO, hB, hF⟩ := hrel
    have c1 := blk_cell (below_keep hB HB.out) 1
    have c2 := blk_cell (below_keep hB HB.out) 2
    simp only [refCells] at c1 c2
    simp at c1 c2
    by_cases hlt : k < s.sl.length
    · have ck : wr.cell? ⟨kb, k, none⟩ = some (.bool (s.sl.getD k slot0).taken) := by
        rw [blk_cell (below_keep hB HS.out)]
        simpa using takenCells_at hlt
      have HO := Lib.hid hO
      have HBB := Lib.hid hB
      have HL := Lib.hid (allTo_len s k)
      have HLK := Lib.hid (ref_link b _ s k wr (ref_below hP.out hB) hlt)
      have HY := Lib.hid (@allTo_yes s k)
      have HNo := Lib.hid (@allTo_no s k)
      clear hO hB
      generalize s.sl.getD k slot0 = o at *
      obtain ⟨tg, tk⟩ := o
      simp only at *
      cases tk
      · go_wp2_with fail
        go_roundw
        case rel =>
          refine ⟨k + 1, by omega, by go_num, ?_, HBB.out, hF⟩
          rw [HNo.out rfl]
          exact HO.out
        case measure => simp [intOf]; omega
      · go_wp2_with fail
        refine HLK.out.mono ?_
        rintro e w1 ⟨rfl, rfl⟩
        go_wp2_with (at_builtin; refine walk_append (zero := .int .u64 0) (base := 0) (n := (s.allTo k).length) (m := 1) (xs := (s.allTo k).map (Value.int .u64)) (ys := [.int .u64 (s.link k)]) rfl _ _ rfl Try.underlying22 info_u64 rfl Nat.zero_lt_one (Nat.le_of_ble_eq_true rfl) rfl ?c1 rfl ?c2 (ints_one .u64 [_]) ?c3 ?c4 ?_)
        case c1 => exact World.ownsRow.alloc HO.out _
        case c2 => exact SrcAt.one (blk_at (by simp))
        case c3 => have := HL.out; omega
        case c4 => exact Nat.zero_le _
        intro v' w' hA
        obtain ⟨a', cap', rfl⟩ := hA.val
        have hO' : Owned .u64 28 w' (.slice a' ((s.allTo k).length + 1) cap') (s.allTo (k + 1)) := by
          rw [HY.out trivial]
          exact Owned.app (ys := [s.link k]) hA
        have hB' : Below w.heap.size w w' := by
          refine (((Mod.of_below HBB.out).alloc _).next (hA.mod (F := fun g => u3.ownBlock = some g) (fun k hk => hk)) (fun i hi => .inr (hF i hi))).below (F := fun _ => False) (fun k hk => hk.elim) (Nat.le_refl _)
        have hF' : ∀ g, (Value.slice a' ((s.allTo k).length + 1) cap').ownBlock = some g → w.heap.size ≤ g := by
          intro g hg
          rcases hA.lies with e | e
          · exact hF g (e ▸ hg)
          · rw [e] at hg
            have := Option.some.inj hg
            have := HBB.out.size
            simp at *
            omega
        have HR := Lib.hid (And.intro hO' (And.intro hB' hF'))
        clear hO' hB' hF' hA
        go_wp2_with fail
        go_roundw
        case rel => exact ⟨k + 1, by omega, by go_num, HR.out⟩
        case measure => simp [intOf]; omega
    · have hO' := Lib.hid hO
      have hB' := Lib.hid hB
      clear hO hB
      go_wp2_with fail
      go_ret
      obtain rfl : s.sl.length = k := by omega
      exact ⟨_, rfl, hO'.out, hB'.out, hF⟩

set_option maxRecDepth 100000 in
set_option maxHeartbeats 1600000 in
theorem same_yes (va vb : Value) (l : List Int) (w : World) (ha : Owned .u64 28 w va l) (hb : Owned .u64 28 w vb l) (hl : l.length ≤ 1000000) :
    Calls Try.prog 32 #[va, vb] w fun e w' => e = .returned (.bool true) ∧ Below w.heap.size w w' := by
  obtain ⟨a, ca, rfl, _, na, ma⟩ := ha.form
  obtain ⟨b, cb, rfl, _, nb, mb⟩ := hb.form
  have HA := Lib.hid ha
  have HB := Lib.hid hb
  clear ha hb
  go_enter Try.func32, Try.ntmps32
  go_wp2_with fail
  go_loopw [5] (fun i wr => ∃ (k : Nat), k ≤ l.length ∧ i = .int .i64 k ∧ Below w.heap.size w wr) (fun i _ => l.length - (intOf i).toNat)
  case atStart => exact ⟨0, Nat.zero_le _, rfl, Below.refl _ _⟩
  case round =>
    obtain ⟨k, hk, rfl, hBB⟩ := hrel
    by_cases hlt : k < l.length
    · obtain ⟨ga, rfl⟩ : ∃ g, a = some ⟨g, 0, none⟩ := by
        cases a with
        | none => have := (na rfl).1; omega
        | some g => exact ⟨g.block, by rw [← (ma g rfl).1]⟩
      obtain ⟨gb, rfl⟩ : ∃ g, b = some ⟨g, 0, none⟩ := by
        cases b with
        | none => have := (nb rfl).1; omega
        | some g => exact ⟨g.block, by rw [← (mb g rfl).1]⟩
      have d1 := (HA.out.mod (Mod.of_below (F := fun _ => False) hBB) (fun _ _ h => h)).at_ hlt
      have d2 := (HB.out.mod (Mod.of_below (F := fun _ => False) hBB) (fun _ _ h => h)).at_ hlt
      have HBB := Lib.hid hBB
      clear hBB na nb ma mb
      generalize l.getD k 0 = y at *
      go_wp2_with fail
      go_quiet (fail)
      go_wp2_with fail
      go_roundw
      case rel => exact ⟨k + 1, by omega, by go_num, HBB.out.trans (((Mod.refl (fun _ => False) _).drewN _).below (fun _ h => h.elim) HBB.out.size)⟩
      case measure => simp [intOf]; omega
    · go_wp2_with fail
      go_ret
      exact ⟨rfl, hBB⟩
end Go.Proofs.Ytjojbfgppgnmjaa.Ref
