/- The document's pool: Take in one, Live, Give that is stale or worn. -/
import Derived.Test.YtjojbfgppgnmjaaU1
namespace Go.Proofs.Ytjojbfgppgnmjaa.Ref
open Go.RowKit Go.Proofs.Ytjojbfgppgnmjaa

theorem last_inj {l m : List Int} {x y : Int} (h : l ++ [x] = m ++ [y]) : l = m ∧ x = y := by
  have h2 := List.append_inj' h rfl
  exact ⟨h2.1, by simpa using h2.2⟩
theorem take_some (b : Nat) (F : Nat → Prop) (s : PS) (l : List Int) (i : Nat) (w : World) (h : RefAt w b F s) (hl : s.free = l ++ [(i : Int)]) :
    Calls Try.prog 29 #[.pointer (some ⟨b, 0, none⟩)] w fun e w' => e = .returned (.tuple #[.int .u64 (s.link i), .int .i64 0]) ∧ LeftR w b F (s.take l i) w' := by
  obtain ⟨tb, kb, gv, g, fr, n1, n2, n3, n4, n5, n6, rfl, hb, ht, hk, hg, ho, hz, hf, hs⟩ := h
  rcases List.eq_nil_or_concat g with rfl | ⟨g', x, hx⟩
  · rw [List.append_nil] at hs
    have hlt : fr < s.sl.length := by
      apply Classical.byContradiction
      intro hn
      rw [show s.sl.length - fr = 0 by omega, hl] at hs
      simp [dn] at hs
    have h2 := hs
    rw [dn_step hlt, hl] at h2
    obtain ⟨rfl, h3⟩ := last_inj h2
    obtain rfl : i = fr := by omega
    exact take_new b tb kb gv i s w n1 n2 n3 n4 n5 n6 hb ht hk hg ho hz hlt hs
  · rw [List.concat_eq_append] at hx
    subst hx
    have h2 := hs
    rw [← List.append_assoc, hl] at h2
    obtain ⟨rfl, h3⟩ := last_inj h2
    subst h3
    obtain ⟨a, cap, rfl, h4, h5, h6⟩ := hg.form
    cases a with
    | none => have := (h5 rfl).1; simp at this
    | some a =>
      obtain ⟨gb, rfl⟩ : ∃ gb, a = ⟨gb, 0, none⟩ := ⟨a.block, (h6 a rfl).1⟩
      simp only [List.length_append, List.length_singleton] at *
      exact take_old b tb kb gb cap g' fr i s w n1 n2 n3 hb ht hk hg ho hz hf hs

set_option maxRecDepth 100000 in
set_option maxHeartbeats 1600000 in
theorem ref_live (b : Nat) (F : Nat → Prop) (s : PS) (x : Int) (w : World) (h : RefAt w b F s) (h0 : 0 ≤ x) (h1 : x ≤ 18446744073709551615) :
    Calls Try.prog 28 #[.pointer (some ⟨b, 0, none⟩), .int .u64 x] w fun e w' => e = .returned (.bool (s.live x)) ∧ w = w' := by
  have m1 := u64_and131071 x
  have hP := Lib.hid h
  obtain ⟨tb, kb, gv, g, fr, n1, n2, n3, n4, n5, n6, rfl, hb, ht, hk, hg, ho, hz, hf, hs⟩ := h
  have c1 := blk_cell hb 1
  have c2 := blk_cell hb 2
  have hn := ho.n2
  simp only [refCells] at c1 c2
  simp at c1 c2
  have HK := Lib.hid hk
  clear hb ht hk hg ho hz hf hs
  by_cases hin : 1 ≤ x % 131072 ∧ x % 131072 ≤ s.sl.length
  · obtain ⟨i, hi⟩ : ∃ i : Nat, x % 131072 = i + 1 := ⟨(x % 131072 - 1).toNat, by omega⟩
    have hil : i < s.sl.length := by omega
    rw [live_in hi hil]
    rw [hi] at m1
    have ct : w.cell? ⟨kb, i, none⟩ = some (.bool (s.sl.getD i slot0).taken) := by
      rw [blk_cell HK.out]
      simpa using takenCells_at hil
    have HL := Lib.hid (ref_link b _ s i w hP.out hil)
    clear hi hin HK hP
    generalize s.link i = y at *
    generalize (s.sl.getD i slot0).taken = t at *
    generalize s.sl.length = n at *
    cases t
    · go_enter Try.func28, Try.ntmps28
      go_wp2_with fail
      go_ret
      exact ⟨rfl, rfl⟩
    · go_enter Try.func28, Try.ntmps28
      go_wp2_with fail
      refine HL.out.mono ?_
      rintro e w' ⟨rfl, rfl⟩
      go_wp2_with fail
      go_ret
      exact ⟨ret_bool (by by_cases h : y = x; · subst h; simp
                          · have h2 : ¬ x = y := fun e => h e.symm
                            simp [h, h2]), rfl⟩
  · rw [live_out hin]
    have hi : (x % 131072 - 1 < 0) ∨ (0 ≤ x % 131072 - 1 ∧ (s.sl.length : Int) ≤ x % 131072 - 1) := by omega
    clear hin HK hP
    generalize hX : x % 131072 = X at *
    have hX0 : 0 ≤ X ∧ X < 131072 := by omega
    clear hX
    generalize s.sl.length = n at *
    have hd : decide (0 ≤ X - 1) = false ∨ (decide (0 ≤ X - 1) = true ∧ decide (X - 1 < n) = false) := by simp; omega
    rcases hd with hd | ⟨hd, hd2⟩
    all_goals
      go_enter Try.func28, Try.ntmps28
      go_wp2_with fail
      all_goals
        go_ret
        exact ⟨rfl, rfl⟩

set_option maxRecDepth 100000 in
set_option maxHeartbeats 800000 in
theorem give_stale (b : Nat) (F : Nat → Prop) (s : PS) (x : Int) (w : World) (h : RefAt w b F s) (h0 : 0 ≤ x) (h1 : x ≤ 18446744073709551615) (hl : s.live x = false) :
    Calls Try.prog 30 #[.pointer (some ⟨b, 0, none⟩), .int .u64 x] w fun e w' => e = .returned (.int .i64 8) ∧ w = w' := by
  have HL := Lib.hid (ref_live b F s x w h h0 h1)
  rw [hl] at HL
  clear h hl
  go_enter Try.func30, Try.ntmps30
  go_wp2_with fail
  refine HL.out.mono ?_
  rintro e w' ⟨rfl, rfl⟩
  go_wp2_with fail
  go_ret
  exact ⟨rfl, rfl⟩

/-- Worn. -/
theorem worn_at {w w' : World} {b tb kb : Nat} {gv : Value} {g : List Int} {fr i : Nat} {s : PS} (n1 : tb ≠ b) (n2 : kb ≠ b) (n3 : tb ≠ kb) (n4 : gv.ownBlock ≠ some b) (n5 : gv.ownBlock ≠ some tb) (n6 : gv.ownBlock ≠ some kb)
    (ho : s.ok) (hz : s.init = true) (hi : i < s.sl.length) (ht : (s.sl.getD i slot0).taken = true) (hq : (s.sl.getD i slot0).tag = s.most) (hf : fr ≤ s.sl.length) (hs : s.free = dn s.sl.length (s.sl.length - fr) ++ g)
    (hb : w.heap[b]? = some (.cells (refCells s tb kb gv fr) 107 (0, 0))) (htb : w.heap[tb]? = some (.cells (tagCells s.sl).toArray 3 (0, 0))) (hk : w.heap[kb]? = some (.cells (takenCells s.sl).toArray 4 (0, 0)))
    (hg : Owned .i64 3 w gv g) (q : Nat) (hw : w' = (((w.setCell ⟨kb, i, none⟩ (.bool false)).drewN q).setCell ⟨b, 5, none⟩ (.int .i64 (s.worn + 1)))) : LeftR w b (fun k => k = b ∨ k = tb ∨ k = kb ∨ gv.ownBlock = some k) (s.give i) w' := by
  subst hw
  have e : s.give i = { s with sl := s.sl.set i ⟨(s.sl.getD i slot0).tag, false⟩, worn := s.worn + 1 } := by
    unfold PS.give
    rw [if_pos hq]
  have hok := give_ok ho hi ht
  have hlen : (s.give i).sl.length = s.sl.length := by rw [e]; simp
  refine ⟨_, ⟨tb, kb, gv, g, fr, n1, n2, n3, n4, n5, n6, rfl, ?_, ?_, ?_, ?_, hok, ?_, ?_, ?_⟩, ?_, Grows.refl _ _⟩
  · rw [blk_set (blk_drewN (blk_other hb (fun e => n2 e.symm)) q), e]
    simp [refCells]
  · rw [blk_other (blk_drewN (blk_other htb n3) q) n1, e]
    show _ = some (Obj.cells (tagCells (s.sl.set i ⟨(s.sl.getD i slot0).tag, false⟩)).toArray _ _)
    rw [tagCells_same _ _ hi]
  · rw [blk_other (blk_drewN (blk_set hk) q) n2, e]
    show _ = some (Obj.cells (takenCells (s.sl.set i ⟨(s.sl.getD i slot0).tag, false⟩)).toArray _ _)
    rw [takenCells_set _ _ hi]
    simp
  · exact hg.mod (F := fun k => k = b ∨ k = kb) ((((Mod.refl _ _).setCell (.inl (.inr rfl)) _).drewN q).setCell (.inl (.inl rfl)) _) (by rintro k hx (rfl | rfl); exact n4 hx; exact n6 hx)
  · rw [e]; exact hz
  · rw [hlen]; exact hf
  · rw [hlen, e]; exact hs
  · exact (((Mod.refl _ _).setCell (.inl (.inr (.inr (.inl rfl)))) _).drewN q).setCell (.inl (.inl rfl)) _

set_option maxRecDepth 100000 in
set_option maxHeartbeats 1600000 in
theorem give_worn (b : Nat) (F : Nat → Prop) (s : PS) (x : Int) (i : Nat) (w : World) (h : RefAt w b F s) (h0 : 0 ≤ x) (h1 : x ≤ 18446744073709551615) (hl : s.live x = true) (hi : i < s.sl.length) (hx : x % 131072 = i + 1) (ht : (s.sl.getD i slot0).taken = true) (hq : (s.sl.getD i slot0).tag = s.most) :
    Calls Try.prog 30 #[.pointer (some ⟨b, 0, none⟩), .int .u64 x] w fun e w' => e = .returned (.int .i64 0) ∧ LeftR w b F (s.give i) w' := by
  have HL := Lib.hid (ref_live b F s x w h h0 h1)
  rw [hl] at HL
  have m1 := u64_and131071 x
  rw [hx] at m1
  obtain ⟨tb, kb, gv, g, fr, n1, n2, n3, n4, n5, n6, rfl, hb, htb, hk, hg, ho, hz, hf, hs⟩ := h
  have hfin := Lib.hid (fun q => worn_at n1 n2 n3 n4 n5 n6 ho hz hi ht hq hf hs hb htb hk hg q rfl)
  have c0 := blk_cell hb 0
  have c1 := blk_cell hb 1
  have c2 := blk_cell hb 2
  have c5 := blk_cell hb 5
  have z5 := blk_free hb 5
  have zk := blk_free hk i
  have hw0 := ho.w0
  have hw1 := ho.worn
  have hn := ho.n2
  have ck : w.cell? ⟨kb, i, none⟩ = some (.bool true) := by
    rw [blk_cell hk, ← ht]
    simpa using takenCells_at hi
  have ct : w.cell? ⟨tb, i, none⟩ = some (.int .i64 s.most) := by
    rw [blk_cell htb, ← hq]
    simpa using tagCells_at hi
  simp only [refCells] at c0 c1 c2 c5
  simp at c0 c1 c2 c5
  clear hb htb hk hg ho hz hf hs hl ht hq hx
  go_enter Try.func30, Try.ntmps30
  go_wp2_with fail
  refine HL.out.mono ?_
  rintro e w' ⟨rfl, rfl⟩
  go_wp2_with fail
  go_quiet (fail)
  go_wp2_with fail
  go_ret
  exact ⟨rfl, hfin.out _⟩
end Go.Proofs.Ytjojbfgppgnmjaa.Ref
