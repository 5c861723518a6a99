/- The pool's functions: All; what stands in vinculumlaw3 beside the laws. -/
import Derived.Test.YtjojbfgppgnmjaaP4
import Derived.Outline
namespace Go.Proofs.Ytjojbfgppgnmjaa
open Go.RowKit

def PS.allTo (s : PS) : Nat → List Int
  | 0 => []
  | k + 1 => s.allTo k ++ (if (s.sl.getD k slot0).taken then [s.link k] else [])
def PS.all' (s : PS) : List Int := s.allTo s.sl.length
theorem allTo_yes {s : PS} {k : Nat} (h : (s.sl.getD k slot0).taken = true) : s.allTo (k + 1) = s.allTo k ++ [s.link k] := by rw [PS.allTo, if_pos h]
theorem allTo_no {s : PS} {k : Nat} (h : (s.sl.getD k slot0).taken = false) : s.allTo (k + 1) = s.allTo k := by rw [PS.allTo, h]; simp
theorem allTo_len (s : PS) (k : Nat) : (s.allTo k).length ≤ k := by
  induction k with
  | zero => simp [PS.allTo]
  | succ k ih =>
    rw [PS.allTo]
    split <;> simp <;> omega
theorem getD_take {l : List Slot} {i k : Nat} (h : i < k) : (l.take k).getD i slot0 = l.getD i slot0 := by
  simp [List.getD_eq_getElem?_getD, List.getElem?_take_of_lt h]
theorem allTo_cnt (s : PS) (k : Nat) (h : k ≤ s.sl.length) : (s.allTo k).length = cnt (s.sl.take k) := by
  induction k with
  | zero => simp [PS.allTo, cnt]
  | succ k ih =>
    have e : s.sl.take (k + 1) = s.sl.take k ++ [s.sl.getD k slot0] := by
      rw [List.take_add_one]
      simp [List.getD_eq_getElem?_getD, show k < s.sl.length by omega]
    rw [PS.allTo, e]
    unfold cnt at ih ⊢
    rw [List.countP_append, List.length_append, ih (by omega)]
    generalize s.sl.getD k slot0 = o
    obtain ⟨tg, tk⟩ := o
    cases tk <;> simp
theorem all_cnt (s : PS) : s.all'.length = cnt s.sl := by
  rw [PS.all', allTo_cnt _ _ (Nat.le_refl _), List.take_length]

/-- A new row of integers comes back. -/
def RetRow (k : IntKind) (E : TypeId) (l : List Int) (w : World) (e : Ending) (w' : World) : Prop := ∃ sv, e = .returned sv ∧ Owned k E w' sv l ∧ Below w.heap.size w w' ∧ ∀ g, sv.ownBlock = some g → w.heap.size ≤ g

set_option maxRecDepth 100000 in
set_option maxHeartbeats 1600000 in
theorem pool_all (b : Nat) (F : Nat → Prop) (s : PS) (w : World) (h : PoolAt w b F s) :
    Calls Try.prog 62 #[.pointer (some ⟨b, 0, none⟩)] w (RetRow .u64 28 s.all' w) := by
  have hP := Lib.hid h
  obtain ⟨sb, fv, n1, n2, n3, rfl, hb, hs, hf, hk, hnil⟩ := h
  have c0 := blk_cell hb 0
  simp only [poolCells] at c0
  simp at c0
  have hn := hk.n2
  have HB := Lib.hid hb
  have HS := Lib.hid hs
  have HK := Lib.hid hk
  have HA := Lib.hid (show s.all' = s.allTo s.sl.length from rfl)
  clear hb hs hf hk hnil
  go_enter Try.func62, Try.ntmps62
  go_wp2_with fail
  go_loopw [3, 11] (fun ov i wr => ∃ (k : Nat), k ≤ s.sl.length ∧ i = .int .i64 k ∧ Owned .u64 28 wr ov (s.allTo k) ∧ Below w.heap.size w wr ∧ ∀ g, ov.ownBlock = some g → w.heap.size ≤ g) (fun _ i _ => s.sl.length - (intOf i).toNat)
  case atStart => exact ⟨0, Nat.zero_le _, rfl, Owned.nil _ _ _, Below.refl _ _, fun g hg => by simp [Value.ownBlock] at hg⟩
  case round =>
    obtain ⟨k, hk, rfl, hO, hB, hF⟩ := hrel
    by_cases hlt : k < s.sl.length
    · have ct := PoolAt.sb_cell (below_keep hB HS.out) hlt
      obtain ⟨ct0, ct1⟩ := ct
      have hls := blk_lt (below_keep hB HS.out)
      have HO := Lib.hid hO
      have HBB := Lib.hid hB
      have HL := Lib.hid (allTo_len s k)
      have HLK := Lib.hid (fun W (hW : Below w.heap.size w W) => pool_link b _ s k W (hP.out.below hW) hlt)
      have HY := Lib.hid (@allTo_yes s k)
      have HNo := Lib.hid (@allTo_no s k)
      clear hO hB
      generalize s.sl.getD k slot0 = o at *
      obtain ⟨tg, tk⟩ := o
      simp only at *
      cases tk
      · go_wp2_with fail
        go_roundw
        case rel =>
          refine ⟨k + 1, by omega, by go_num, ?_, HBB.out.alloc HBB.out.size _, hF⟩
          rw [HNo.out rfl]
          exact HO.out.mod (F := fun _ => False) ((Mod.refl _ _).alloc _) (fun _ _ h => h)
        case measure => simp [intOf]; omega
      · go_wp2_with fail
        refine (HLK.out _ (HBB.out.alloc HBB.out.size _)).mono ?_
        rintro e w1 ⟨rfl, rfl⟩
        go_wp2_with (at_builtin; refine walk_append (zero := .int .u64 0) (base := 0) (n := (s.allTo k).length) (m := 1) (xs := (s.allTo k).map (Value.int .u64)) (ys := [.int .u64 (s.link k)]) rfl _ _ rfl Try.underlying22 info_u64 rfl Nat.zero_lt_one (Nat.le_of_ble_eq_true rfl) rfl ?c1 rfl ?c2 (ints_one .u64 [_]) ?c3 ?c4 ?_)
        case c1 => exact World.ownsRow.alloc (World.ownsRow.alloc HO.out _) _
        case c2 => exact SrcAt.one (blk_at (by simp))
        case c3 => have := HL.out; omega
        case c4 => exact Nat.zero_le _
        intro v' w' hA
        obtain ⟨a', cap', rfl⟩ := hA.val
        have hO' : Owned .u64 28 w' (.slice a' ((s.allTo k).length + 1) cap') (s.allTo (k + 1)) := by
          rw [HY.out trivial]
          exact Owned.app (ys := [s.link k]) hA
        have hB' : Below w.heap.size w w' := by
          refine (((Mod.of_below HBB.out).alloc _ |>.alloc _).next (hA.mod (F := fun g => u3.ownBlock = some g) (fun k hk => hk)) (fun i hi => .inr (hF i hi))).below (F := fun _ => False) (fun k hk => hk.elim) (Nat.le_refl _)
        have hF' : ∀ g, (Value.slice a' ((s.allTo k).length + 1) cap').ownBlock = some g → w.heap.size ≤ g := by
          intro g hg
          rcases hA.lies with e | e
          · exact hF g (e ▸ hg)
          · rw [e] at hg
            have := Option.some.inj hg
            have := HBB.out.size
            simp at *
            omega
        have HR := Lib.hid (And.intro hO' (And.intro hB' hF'))
        clear hO' hB' hF' hA
        go_wp2_with fail
        go_roundw
        case rel => exact ⟨k + 1, by omega, by go_num, HR.out⟩
        case measure => simp [intOf]; omega
    · go_wp2_with fail
      go_ret
      obtain rfl : s.sl.length = k := by omega
      exact ⟨_, rfl, hO, hB, hF⟩

theorem Left.at_ {w w' : World} {b : Nat} {F : Nat → Prop} {s : PS} (h : Left w b F s w') : ∃ F', PoolAt w' b F' s ∧ Mod F w w' ∧ Grows w F F' := h
theorem listed_listed (s : PS) : s.listed.listed = s.listed := listed_yes (listed_init s)
theorem link_take {s : PS} {l : List Int} {i j : Nat} (hi : i < s.sl.length) : (s.take l i).link j = s.link j := by
  unfold PS.link PS.take
  by_cases h : i = j
  · subst h
    simp [List.getD_eq_getElem?_getD, hi]
  · simp [List.getD_eq_getElem?_getD, List.getElem?_set_ne h]

/-- The pool of three, and what is done with it. -/
def pa : PS := ⟨9, [slot0, slot0, slot0], [], false, 0⟩
def pb : PS := ⟨9, [⟨0, true⟩, slot0, slot0], [2, 1], true, 0⟩
def pc : PS := ⟨9, [⟨1, false⟩, slot0, slot0], [2, 1, 0], true, 0⟩
def pd : PS := ⟨9, [⟨1, true⟩, slot0, slot0], [2, 1], true, 0⟩

end Go.Proofs.Ytjojbfgppgnmjaa
