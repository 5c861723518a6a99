/- The pool's functions: link, Live, Take. -/
import Derived.Test.YtoidmakaijkglaaGreatP2
namespace Go.Proofs.YtoidmakaijkglaaGreat
open Go.RowKit

def PS.link (s : PS) (i : Nat) : Int := (s.sl.getD i slot0).tag * 131072 + i + 1
theorem link_range {s : PS} (h : s.ok) {i : Nat} (hi : i < s.sl.length) : 1 ≤ s.link i ∧ s.link i ≤ 8589934591 ∧ s.link i % 131072 = i + 1 ∧ s.link i / 131072 % 65536 = (s.sl.getD i slot0).tag := by
  have h1 := h.tag hi
  have h2 := h.n2
  have h3 := h.m1
  unfold PS.link
  omega
theorem PoolAt.sb_cell {w : World} {sb : Nat} {l : List Slot} {T : TypeId} (hs : w.heap[sb]? = some (.cells (slotCells l).toArray T (0, 0))) {i : Nat} (hi : i < l.length) :
    w.cell? ⟨sb, i * 2, none⟩ = some (.int .i64 (l.getD i slot0).tag) ∧ w.cell? ⟨sb, i * 2 + 1, none⟩ = some (.bool (l.getD i slot0).taken) := by
  rw [blk_cell hs, blk_cell hs]
  exact ⟨by simpa using slotCells_tag l i hi, by simpa using slotCells_taken l i hi⟩

set_option maxRecDepth 100000 in
set_option maxHeartbeats 800000 in
theorem pool_link (b : Nat) (F : Nat → Prop) (s : PS) (i : Nat) (w : World) (h : PoolAt w b F s) (hi : i < s.sl.length) :
    Calls Tryz.prog 48 #[.pointer (some ⟨b, 0, none⟩), .int .i64 i] w fun e w' => e = .returned (.int .u64 (s.link i)) ∧ w = w' := by
  obtain ⟨sb, fv, n1, n2, n3, rfl, hb, hs, hf, hk, hnil⟩ := h
  have c0 := blk_cell hb 0
  have ct := (PoolAt.sb_cell hs hi).1
  have ht := hk.tag hi
  have hn := hk.n2
  have hm := hk.m1
  have HL := Lib.hid (show s.link i = (s.sl.getD i slot0).tag * 131072 + i + 1 from rfl)
  simp only [poolCells] at c0
  simp at c0
  clear hb hs hf hk hnil
  generalize (s.sl.getD i slot0).tag = t at *
  generalize s.sl.length = n at *
  have hl := fun w => word_link i t w (by omega) (by omega) ht.1 (by omega)
  have HW := Lib.hid hl
  clear hl
  go_enter Tryz.func48, Tryz.ntmps48
  go_wp2_with fail
  refine (HW.out _).mono ?_
  rintro e w' ⟨rfl, rfl⟩
  go_wp2_with fail
  go_ret
  exact ⟨ret_int HL.out.symm, rfl⟩

/-- Whether a link is that of a slot that is taken. -/
def PS.live (s : PS) (x : Int) : Bool := decide (1 ≤ x % 131072 ∧ x % 131072 ≤ s.sl.length) && ((s.sl.getD (x % 131072 - 1).toNat slot0).taken && decide (s.link (x % 131072 - 1).toNat = x))
theorem live_out {s : PS} {x : Int} (h : ¬ (1 ≤ x % 131072 ∧ x % 131072 ≤ s.sl.length)) : s.live x = false := by unfold PS.live; simp [h]
theorem live_in {s : PS} {x : Int} {i : Nat} (h : x % 131072 = i + 1) (hi : i < s.sl.length) : s.live x = ((s.sl.getD i slot0).taken && decide (s.link i = x)) := by
  unfold PS.live
  rw [h, show ((i : Int) + 1 - 1).toNat = i by omega, decide_eq_true (by omega)]
  rfl

set_option maxRecDepth 100000 in
set_option maxHeartbeats 1600000 in
theorem pool_live (b : Nat) (F : Nat → Prop) (s : PS) (x : Int) (w : World) (h : PoolAt w b F s) (h0 : 0 ≤ x) (h1 : x ≤ 18446744073709551615) :
    Calls Tryz.prog 50 #[.pointer (some ⟨b, 0, none⟩), .int .u64 x] w fun e w' => e = .returned (.bool (s.live x)) ∧ w = w' := by
  have hU := fun w => word_unlink x w h0 h1
  have hP := Lib.hid h
  obtain ⟨sb, fv, n1, n2, n3, rfl, hb, hs, hf, hk, hnil⟩ := h
  have c0 := blk_cell hb 0
  have hn := hk.n2
  simp only [poolCells] at c0
  simp at c0
  have HS := Lib.hid hs
  clear hb hs hf hk hnil
  by_cases hin : 1 ≤ x % 131072 ∧ x % 131072 ≤ s.sl.length
  · obtain ⟨i, hi⟩ : ∃ i : Nat, x % 131072 = i + 1 := ⟨(x % 131072 - 1).toNat, by omega⟩
    have hil : i < s.sl.length := by omega
    rw [live_in hi hil]
    rw [hi] at hU
    simp only [Int.add_sub_cancel] at hU
    have ct := (PoolAt.sb_cell HS.out hil).2
    have HL := Lib.hid (pool_link b _ s i w hP.out hil)
    have HU := Lib.hid hU
    clear hi hin hU
    generalize s.link i = y at *
    generalize (s.sl.getD i slot0).taken = t at *
    generalize s.sl.length = n at *
    cases t
    · go_enter Tryz.func50, Tryz.ntmps50
      go_wp2_with fail
      refine (HU.out _).mono ?_
      rintro e w' ⟨rfl, rfl⟩
      go_wp2_with fail
      go_ret
      exact ⟨rfl, rfl⟩
    · go_enter Tryz.func50, Tryz.ntmps50
      go_wp2_with fail
      refine (HU.out _).mono ?_
      rintro e w' ⟨rfl, rfl⟩
      go_wp2_with fail
      refine HL.out.mono ?_
      rintro e w' ⟨rfl, rfl⟩
      go_wp2_with fail
      go_ret
      exact ⟨ret_bool (by by_cases h : y = x <;> simp [h]), rfl⟩
  · rw [live_out hin]
    have hi : (x % 131072 - 1 < 0) ∨ (0 ≤ x % 131072 - 1 ∧ (s.sl.length : Int) ≤ x % 131072 - 1) := by omega
    clear hin
    generalize x % 131072 - 1 = i at *
    have HU := Lib.hid hU
    clear hU
    generalize s.sl.length = n at *
    have hd : decide (0 ≤ i) = false ∨ (decide (0 ≤ i) = true ∧ decide (i < n) = false) := by simp; omega
    rcases hd with hd | ⟨hd, hd2⟩
    all_goals
      go_enter Tryz.func50, Tryz.ntmps50
      go_wp2_with fail
      refine (HU.out _).mono ?_
      rintro e w' ⟨rfl, rfl⟩
      go_wp2_with fail
      go_ret
      exact ⟨rfl, rfl⟩

/-- The pool, one slot taken: it was the last one of the list, l is left. -/
def PS.take (s : PS) (l : List Int) (i : Nat) : PS := { s with free := l, sl := s.sl.set i ⟨(s.sl.getD i slot0).tag, true⟩ }

set_option maxRecDepth 100000 in
set_option maxHeartbeats 800000 in
theorem take_full (b : Nat) (F : Nat → Prop) (s : PS) (w : World) (h : PoolAt w b F s) (hl : s.listed.free = []) :
    Calls Tryz.prog 28 #[.pointer (some ⟨b, 0, none⟩)] w fun e w' => e = .returned (.tuple #[.int .u64 0, .int .i64 15]) ∧ Left w b F s.listed w' := by
  have HP := Lib.hid (pool_list b F s w h)
  have HL := Lib.hid hl
  clear h hl
  go_enter Tryz.func28, Tryz.ntmps28
  go_wp2_with fail
  refine HP.out.mono ?_
  rintro e w1 ⟨rfl, hl1⟩
  obtain ⟨F', hp, hm, hg⟩ := hl1
  have HL1 := Lib.hid (show Left w b F s.listed w1 from ⟨F', hp, hm, hg⟩)
  obtain ⟨sb, fv, n1, n2, n3, rfl, hb, hs, hf, hk, hnil⟩ := hp
  have c2 := blk_cell hb 2
  simp only [poolCells] at c2
  simp at c2
  have hfv : ∃ a cap, fv = .slice a 0 cap := by
    have := Owned.form (k := .i64) (E := 3) (w := w1) (v := fv) (l := s.listed.free) hf
    rw [HL.out] at this
    obtain ⟨a, cap, h, _⟩ := this
    exact ⟨a, cap, h⟩
  obtain ⟨a, cap, rfl⟩ := hfv
  clear hb hs hf hk hnil hm hg n1 n2 n3
  go_wp2_with fail
  go_ret2
  exact ⟨rfl, HL1.out⟩

theorem take_ok {s : PS} {l : List Int} {i : Nat} (h : s.ok) (hi : s.init = true) (hl : s.free = l ++ [(i : Int)]) : (s.take l i).ok := by
  have hin := h.free i (by rw [hl]; simp)
  have hi1 : i < s.sl.length := by have := hin.2.1; omega
  have ht : (s.sl.getD i slot0).taken = false := by simpa using hin.2.2
  have hnd := h.nodup
  rw [hl, List.nodup_append] at hnd
  have hcnt : cnt (s.take l i).sl = cnt s.sl + 1 := by
    unfold cnt PS.take
    rw [List.countP_set hi1]
    have : (s.sl[i]).taken = false := by simpa [List.getD_eq_getElem?_getD, hi1] using ht
    simp [this]
  refine ⟨by simpa [PS.take] using h.n1, by simpa [PS.take] using h.n2, h.m0, h.m1, hnd.1, ?_, ?_, h.w0, ?_, ?_⟩
  · intro x hx
    have hx' : x ∈ l := hx
    have := h.free x (by rw [hl]; simp [hx'])
    refine ⟨this.1, by simpa [PS.take] using this.2.1, ?_⟩
    have hne : x ≠ (i : Int) := fun e => hnd.2.2 x hx' (i : Int) (by simp) e
    have : i ≠ x.toNat := by omega
    simp only [PS.take, List.getD_eq_getElem?_getD, List.getElem?_set_ne this]
    simpa [List.getD_eq_getElem?_getD] using (h.free x (by rw [hl]; simp [hx'])).2.2
  · intro x hx
    rcases List.mem_or_eq_of_mem_set hx with hx | rfl
    · exact h.tags x hx
    · exact h.tag hi1
  · intro h2
    rw [show (s.take l i).init = s.init from rfl, hi] at h2
    cases h2
  · intro _
    have := h.all hi
    rw [hl] at this
    rw [hcnt]
    simp [PS.take] at this ⊢
    omega

set_option maxRecDepth 100000 in
set_option maxHeartbeats 1600000 in
theorem take_some (b : Nat) (F : Nat → Prop) (s : PS) (l : List Int) (i : Nat) (w : World) (h : PoolAt w b F s) (hl : s.listed.free = l ++ [(i : Int)]) :
    Calls Tryz.prog 28 #[.pointer (some ⟨b, 0, none⟩)] w fun e w' => e = .returned (.tuple #[.int .u64 (s.listed.link i), .int .i64 0]) ∧ Left w b F (s.listed.take l i) w' := by
  have HP := Lib.hid (pool_list b F s w h)
  have HI := Lib.hid (listed_init s)
  clear h
  generalize s.listed = t at *
  have HL := Lib.hid hl
  clear hl
  go_enter Tryz.func28, Tryz.ntmps28
  go_wp2_with fail
  refine HP.out.mono ?_
  rintro e w1 ⟨rfl, hl1⟩
  obtain ⟨F', hp, hm, hg⟩ := hl1
  obtain ⟨sb, fv, n1, n2, n3, rfl, hb, hs, hf, hk, hnil⟩ := hp
  have HT := Lib.hid (take_ok hk HI.out HL.out)
  have hi1 : i < t.sl.length := by have := (hk.free i (by rw [HL.out]; simp)).2.1; omega
  have hlen : t.free.length = l.length + 1 := by rw [HL.out]; simp
  have hO : Owned .i64 3 w1 fv t.free := hf
  have hfv : ∃ g cap, fv = .slice (some ⟨g, 0, none⟩) (l.length + 1) cap := by
    obtain ⟨a, cap, h, _, h2, h3⟩ := hO.form
    cases a with
    | none => have := (h2 rfl).1; omega
    | some g => exact ⟨g.block, cap, by rw [h, ← (h3 g rfl).1, hlen]⟩
  obtain ⟨g, cap, rfl⟩ := hfv
  have cg := hO.at_ (i := l.length) (by omega)
  have cx : t.free.getD l.length 0 = i := by rw [HL.out]; simp
  rw [cx] at cg
  have c2 := blk_cell hb 2
  have z2 := blk_free hb 2
  have c0 := blk_cell hb 0
  have ct := (PoolAt.sb_cell hs hi1).2
  have zt := blk_free hs (i * 2 + 1)
  simp only [poolCells] at c2 c0
  simp at c2 c0
  have hcap : l.length + 1 ≤ cap ∧ l.length + 1 ≤ 4096 := by
    have := hk.len
    have := hk.n2
    obtain ⟨a, cap', h, hle, _⟩ := hO.form
    simp only [Value.slice.injEq] at h
    obtain ⟨_, _, rfl⟩ := h
    omega
  have hn2 : t.sl.length ≤ 4096 := hk.n2
  have hgb : ¬ g = b := fun e => n2 (by rw [e]; rfl)
  have hgs : ¬ g = sb := fun e => n3 (by rw [e]; rfl)
  clear hlen cx
  have HB := Lib.hid hb
  have HS := Lib.hid hs
  have HO := Lib.hid hO
  have HM := Lib.hid hm
  have HG := Lib.hid hg
  clear hb hs hO hf hk hnil hm hg
  go_wp2_with fail
  have e1 : Mod (fun k => k = b ∨ k = sb ∨ (Value.slice (some ⟨g, 0, none⟩) (l.length + 1) cap).ownBlock = some k) w1 ((w1.setCell ⟨b, 2, none⟩ (.slice (some ⟨g, 0, none⟩) l.length cap)).setCell ⟨sb, i * 2 + 1, none⟩ (.bool true)) :=
    ((Mod.refl _ _).setCell (p := ⟨b, 2, none⟩) (.inl (.inl rfl)) _).setCell (p := ⟨sb, i * 2 + 1, none⟩) (.inl (.inr (.inl rfl))) _
  have e2 := blk_other (p := ⟨sb, i * 2 + 1, none⟩) (u := .bool true) (blk_set (i := 2) (u := .slice (some ⟨g, 0, none⟩) l.length cap) HB.out) (fun e => n1 e.symm)
  have e3 := blk_set (i := i * 2 + 1) (u := .bool true) (blk_other (p := ⟨b, 2, none⟩) (u := .slice (some ⟨g, 0, none⟩) l.length cap) HS.out n1)
  have e4 : Owned .i64 3 ((w1.setCell ⟨b, 2, none⟩ (.slice (some ⟨g, 0, none⟩) l.length cap)).setCell ⟨sb, i * 2 + 1, none⟩ (.bool true)) (.slice (some ⟨g, 0, none⟩) l.length cap) l := by
    have h1 := HO.out
    rw [HL.out] at h1
    exact (h1.front (by simp)).mod (F := fun k => k = b ∨ k = sb) (((Mod.refl _ _).setCell (p := ⟨b, 2, none⟩) (.inl (.inl rfl)) _).setCell (p := ⟨sb, i * 2 + 1, none⟩) (.inl (.inr rfl)) _) (by
      intro k hk
      have : g = k := Option.some.inj hk
      subst this
      rintro (e | e)
      · exact hgb e
      · exact hgs e)
  have hfin : PoolAt ((w1.setCell ⟨b, 2, none⟩ (.slice (some ⟨g, 0, none⟩) l.length cap)).setCell ⟨sb, i * 2 + 1, none⟩ (.bool true)) b (fun k => k = b ∨ k = sb ∨ (Value.slice (some ⟨g, 0, none⟩) (l.length + 1) cap).ownBlock = some k) (t.take l i) := by
    refine ⟨sb, .slice (some ⟨g, 0, none⟩) l.length cap, n1, n2, n3, rfl, ?_, ?_, e4, HT.out, fun h => by rw [show (t.take l i).init = t.init from rfl, HI.out] at h; cases h⟩
    · rw [e2]
      simp [poolCells, PS.take]
    · rw [e3, List.setIfInBounds_toArray, slotCells_set_taken _ _ hi1]
      rfl
  have hlk : (t.take l i).link i = t.link i := by simp [PS.link, PS.take, List.getD_eq_getElem?_getD, hi1]
  have hc := pool_link b _ _ i _ hfin (by simpa [PS.take] using hi1)
  rw [hlk] at hc
  have HH := Lib.hid (show Left w b F (t.take l i) _ from ⟨_, hfin, (HM.out.next e1 (HG.out)), HG.out⟩)
  clear e1 e2 e3 e4 hfin hlk
  refine hc.mono ?_
  rintro e w' ⟨rfl, rfl⟩
  clear hc
  go_wp2_with fail
  go_ret2
  exact ⟨rfl, HH.out⟩
end Go.Proofs.YtoidmakaijkglaaGreat
