/- The document's pool: Give that gives a slot back; Give in one. -/
import Derived.Test.YtjojbfgppgnmjaaU3
namespace Go.Proofs.Ytjojbfgppgnmjaa.Ref
open Go.RowKit Go.Proofs.Ytjojbfgppgnmjaa

theorem app_two {w X w5 X2 w6 : World} {E : TypeId} {g0 : Nat} {v5 v6 : Value} {g : List Int} {x : Int} (h5 : Appended X w5 0 E 1 (.slice (some ⟨g0, 0, none⟩) 0 0) v5 g.length (g.map (Value.int .i64)))
    (h6 : Appended X2 w6 0 E 1 v5 v6 (g.length + 1) (g.map (Value.int .i64) ++ [.int .i64 x])) (hX : Mod (fun _ => False) w X) (hg0 : w.heap.size ≤ g0) (hX2 : Mod (fun _ => False) w5 X2) :
    Mod (fun _ => False) w w6 ∧ (∀ k, v6.ownBlock = some k → w.heap.size ≤ k) ∧ Owned .i64 E w6 v6 (g ++ [x]) := by
  obtain ⟨hm, hnew⟩ := app_new hX hg0 h5
  have hs := (hm.trans hX2).size
  refine ⟨((hm.trans hX2).next (h6.mod (F := fun k => v5.ownBlock = some k) (fun k hk => hk)) (fun i hi => .inr (hnew i hi))), fun k hk => ?_, ?_⟩
  · rcases h6.lies with e | e
    · rw [e] at hk
      exact hnew k hk
    · rw [e] at hk
      have : X2.heap.size = k := Option.some.inj hk
      omega
  · have h := h6.own
    refine Eq.mp ?_ h
    unfold Owned
    congr 1
    · simp
    · simp
/-- Given back. -/
theorem gave_at {w W0 X w5 X2 w6 : World} {b tb kb g0 : Nat} {gv v5 v6 : Value} {g : List Int} {fr i : Nat} {s : PS} (n1 : tb ≠ b) (n2 : kb ≠ b) (n3 : tb ≠ kb)
    (ho : s.ok) (hz : s.init = true) (hi : i < s.sl.length) (ht : (s.sl.getD i slot0).taken = true) (hq : (s.sl.getD i slot0).tag ≠ s.most) (hf : fr ≤ s.sl.length) (hs : s.free = dn s.sl.length (s.sl.length - fr) ++ g)
    (hm0 : Mod (fun k => k = b ∨ k = tb ∨ k = kb ∨ gv.ownBlock = some k) w W0)
    (hb : W0.heap[b]? = some (.cells (refCells s tb kb gv fr) 107 (0, 0))) (htb : W0.heap[tb]? = some (.cells (tagCells (s.give i).sl).toArray 3 (0, 0))) (hk : W0.heap[kb]? = some (.cells (takenCells (s.give i).sl).toArray 4 (0, 0)))
    (h5 : Appended X w5 0 3 1 (.slice (some ⟨g0, 0, none⟩) 0 0) v5 g.length (g.map (Value.int .i64)))
    (h6 : Appended X2 w6 0 3 1 v5 v6 (g.length + 1) (g.map (Value.int .i64) ++ [.int .i64 i])) (hX : Mod (fun _ => False) W0 X) (hg0 : W0.heap.size ≤ g0) (hX2 : Mod (fun _ => False) w5 X2) :
    LeftR w b (fun k => k = b ∨ k = tb ∨ k = kb ∨ gv.ownBlock = some k) (s.give i) (w6.setCell ⟨b, 3, none⟩ v6) ∧ w6.frozen? ⟨b, 3, none⟩ = false ∧ ∃ u, w6.cell? ⟨b, 3, none⟩ = some u := by
  obtain ⟨hm, hnew, hO⟩ := app_two h5 h6 hX hg0 hX2
  have e : s.give i = { s with sl := s.sl.set i ⟨(s.sl.getD i slot0).tag + 1, false⟩, free := s.free ++ [(i : Int)] } := by
    unfold PS.give
    rw [if_neg hq]
  have hok := give_ok ho hi ht
  have hlen : (s.give i).sl.length = s.sl.length := by rw [e]; simp
  have hs0 := hm0.size
  have lb := blk_lt hb
  have lt := blk_lt htb
  have lk := blk_lt hk
  have m4 : v6.ownBlock ≠ some b := fun e => by have := hnew b e; omega
  have m5 : v6.ownBlock ≠ some tb := fun e => by have := hnew tb e; omega
  have m6 : v6.ownBlock ≠ some kb := fun e => by have := hnew kb e; omega
  have hb5 := hm.keep hb (fun h => h)
  refine ⟨⟨_, ⟨tb, kb, v6, g ++ [(i : Int)], fr, n1, n2, n3, m4, m5, m6, rfl, ?_, blk_other (hm.keep htb (fun h => h)) n1, blk_other (hm.keep hk (fun h => h)) n2, ?_, hok, ?_, ?_, ?_⟩, ?_, ?_⟩, blk_free hb5 3, ⟨_, (blk_cell hb5 3).trans rfl⟩⟩
  · rw [blk_set hb5, e]
    simp [refCells]
  · exact hO.mod (F := fun k => k = b) ((Mod.refl (fun k => k = b) _).setCell (p := ⟨b, 3, none⟩) (.inl rfl) _) (by rintro k hx rfl; exact m4 hx)
  · rw [e]; exact hz
  · rw [hlen]; exact hf
  · rw [hlen, e]
    show s.free ++ [(i : Int)] = _
    rw [hs, List.append_assoc]
  · exact (hm0.trans (hm.mono (fun _ h => h.elim))).setCell (.inl (.inl rfl)) _
  · rintro k (h | h | h | h)
    · exact .inl (.inl h)
    · exact .inl (.inr (.inl h))
    · exact .inl (.inr (.inr (.inl h)))
    · exact .inr (Nat.le_trans hs0 (hnew k h))

set_option maxRecDepth 100000 in
set_option maxHeartbeats 3200000 in
theorem give_back (b : Nat) (F : Nat → Prop) (s : PS) (x : Int) (i : Nat) (w : World) (h : RefAt w b F s) (h0 : 0 ≤ x) (h1 : x ≤ 18446744073709551615) (hl : s.live x = true) (hi : i < s.sl.length) (hx : x % 131072 = i + 1) (ht : (s.sl.getD i slot0).taken = true) (hq : (s.sl.getD i slot0).tag ≠ s.most) :
    Calls Try.prog 30 #[.pointer (some ⟨b, 0, none⟩), .int .u64 x] w fun e w' => e = .returned (.int .i64 0) ∧ LeftR w b F (s.give i) w' := by
  have HL := Lib.hid (ref_live b F s x w h h0 h1)
  rw [hl] at HL
  have m1 := u64_and131071 x
  rw [hx] at m1
  obtain ⟨tb, kb, gv, g, fr, n1, n2, n3, n4, n5, n6, rfl, hb, htb, hk, hg, ho, hz, hf, hs⟩ := h
  have e1 : (s.give i).sl = s.sl.set i ⟨(s.sl.getD i slot0).tag + 1, false⟩ := by
    unfold PS.give
    rw [if_neg hq]
  have hgl : g.length ≤ 4096 := by
    have := ho.len
    have := ho.n2
    rw [hs] at *
    simp at *
    omega
  have htg := ho.tag hi
  have hm1 := ho.m1
  obtain ⟨a, cap, rfl, hcap, _, _⟩ := hg.form
  have hmid := Lib.hid (fun q => (show
      (((w.setCell ⟨kb, i, none⟩ (.bool false)).drewN q).setCell ⟨tb, i, none⟩ (.int .i64 ((s.sl.getD i slot0).tag + 1))).heap[b]? = some (.cells (refCells s tb kb (.slice a g.length cap) fr) 107 (0, 0)) ∧
      (((w.setCell ⟨kb, i, none⟩ (.bool false)).drewN q).setCell ⟨tb, i, none⟩ (.int .i64 ((s.sl.getD i slot0).tag + 1))).heap[tb]? = some (.cells (tagCells (s.give i).sl).toArray 3 (0, 0)) ∧
      (((w.setCell ⟨kb, i, none⟩ (.bool false)).drewN q).setCell ⟨tb, i, none⟩ (.int .i64 ((s.sl.getD i slot0).tag + 1))).heap[kb]? = some (.cells (takenCells (s.give i).sl).toArray 4 (0, 0)) ∧
      Owned .i64 3 (((w.setCell ⟨kb, i, none⟩ (.bool false)).drewN q).setCell ⟨tb, i, none⟩ (.int .i64 ((s.sl.getD i slot0).tag + 1))) (.slice a g.length cap) g ∧
      Mod (fun k => k = b ∨ k = tb ∨ k = kb ∨ (Value.slice a g.length cap).ownBlock = some k) w (((w.setCell ⟨kb, i, none⟩ (.bool false)).drewN q).setCell ⟨tb, i, none⟩ (.int .i64 ((s.sl.getD i slot0).tag + 1))) from by
    refine ⟨blk_other (blk_drewN (blk_other hb (fun e => n2 e.symm)) q) (fun e => n1 e.symm), ?_, ?_, ?_, ?_⟩
    · rw [blk_set (blk_drewN (blk_other htb n3) q), e1, tagCells_set _ _ hi]
      simp
    · rw [blk_other (blk_drewN (blk_set hk) q) (fun e => n3 e.symm), e1, takenCells_set _ _ hi]
      simp
    · exact hg.mod (F := fun k => k = tb ∨ k = kb) ((((Mod.refl _ _).setCell (.inl (.inr rfl)) _).drewN q).setCell (.inl (.inl rfl)) _) (by rintro k hx (rfl | rfl); exact n5 hx; exact n6 hx)
    · exact (((Mod.refl _ _).setCell (.inl (.inr (.inr (.inl rfl)))) _).drewN q).setCell (.inl (.inr (.inl rfl))) _))
  have hfin := Lib.hid (fun W0 X w5 X2 w6 g0 v5 v6 hm0 hb htb hk => gave_at (w := w) (W0 := W0) (X := X) (w5 := w5) (X2 := X2) (w6 := w6) (g0 := g0) (v5 := v5) (v6 := v6) (gv := .slice a g.length cap) n1 n2 n3 ho hz hi ht hq hf hs hm0 hb htb hk)
  have c0 := blk_cell hb 0
  have c1 := blk_cell hb 1
  have c2 := blk_cell hb 2
  have zk := blk_free hk i
  have zt := blk_free htb i
  have hn := ho.n2
  have hnk : ¬ kb = b := n2
  have hnt : ¬ tb = b := n1
  have hnkt : ¬ tb = kb := n3
  have ck : w.cell? ⟨kb, i, none⟩ = some (.bool true) := by
    rw [blk_cell hk, ← ht]
    simpa using takenCells_at hi
  have ct : w.cell? ⟨tb, i, none⟩ = some (.int .i64 (s.sl.getD i slot0).tag) := by
    rw [blk_cell htb]
    simpa using tagCells_at hi
  have hd : decide (s.most ≤ (s.sl.getD i slot0).tag) = false := decide_eq_false (by omega)
  simp only [refCells] at c0 c1 c2
  simp at c0 c1 c2
  clear hb htb hk hg ho hz hf hs hl ht hq hx e1
  generalize (s.sl.getD i slot0).tag = tg at *
  have cA : ∀ (q : Nat) (o : Obj), ((((w.setCell ⟨kb, i, none⟩ (.bool false)).drewN q).setCell ⟨tb, i, none⟩ (.int .i64 (tg + 1))).alloc o).cell? ⟨b, 3, none⟩ = some (.slice a g.length cap) := fun q o => (blk_cell (blk_alloc (p := o) (hmid.out q).1) 3).trans rfl
  have HG := Lib.hid hgl
  go_enter Try.func30, Try.ntmps30
  go_wp2_with fail
  refine HL.out.mono ?_
  rintro e w' ⟨rfl, rfl⟩
  go_wp2_with fail
  go_quiet (fail)
  go_wp2_with (at_builtin; refine walk_append (zero := .int .i64 0) (base := 0) (n := 0) (xs := []) (m := g.length) (ys := g.map (Value.int .i64)) rfl _ _ rfl Try.underlying67 info_int rfl Nat.zero_lt_one (Nat.le_of_ble_eq_true rfl) rfl ?c1 rfl ?c2 (ints_one _ _) ?c3 ?c4 ?_)
  case c1 => exact owns_made (blk_at (by simp))
  case c2 =>
    have h := cut_front (((hmid.out nq).2.2.2.1).mod (F := fun _ => False) ((Mod.refl _ _).alloc (.cells #[] 3 (0, 0))) (fun _ _ h => h)) (Nat.le_refl _)
    rw [List.take_length] at h
    exact h
  case c3 => have := HG.out; omega
  case c4 => exact Nat.zero_le _
  intro v5 w5 h5
  have H5 : Hid (Appended _ w5 0 3 1 _ v5 g.length (g.map (Value.int .i64))) := Lib.hid (by simpa using h5)
  clear h5
  go_wp2_with (at_builtin; refine walk_append (zero := .int .i64 0) (base := 0) (n := g.length) (xs := g.map (Value.int .i64)) (m := 1) (ys := [.int .i64 i]) rfl _ _ rfl Try.underlying67 info_int rfl Nat.zero_lt_one (Nat.le_of_ble_eq_true rfl) rfl ?d1 rfl ?d2 (ints_one .i64 [_]) ?d3 ?d4 ?_)
  case d1 => exact World.ownsRow.alloc H5.out.own _
  case d2 => exact SrcAt.one (blk_at (by simp))
  case d3 => have := HG.out; omega
  case d4 => exact Nat.zero_le _
  intro v6 w6 h6
  obtain ⟨k1, k2, k3, k4, k5⟩ := hmid.out nq
  have hE := hfin.out _ _ _ _ _ _ _ _ k5 k1 k2 k3 H5.out h6 ((Mod.refl _ _).alloc _) (by simp) ((Mod.refl _ _).alloc _)
  obtain ⟨a6, cap6, rfl⟩ := h6.val
  have z3 := hE.2.1
  obtain ⟨u3, d3⟩ := hE.2.2
  have HR := Lib.hid hE.1
  clear hE h6 k1 k2 k3 k4 k5
  go_wp2_with fail
  go_ret
  exact ⟨rfl, HR.out⟩

theorem ref_give (b : Nat) (F : Nat → Prop) (s : PS) (x : Int) (w : World) (h : RefAt w b F s) (h0 : 0 ≤ x) (h1 : x ≤ 18446744073709551615) :
    Calls Try.prog 30 #[.pointer (some ⟨b, 0, none⟩), .int .u64 x] w fun e w' =>
      (s.live x = false ∧ e = .returned (.int .i64 8) ∧ w = w') ∨ (s.live x = true ∧ e = .returned (.int .i64 0) ∧ LeftR w b F (s.give (x % 131072 - 1).toNat) w') := by
  cases hl : s.live x
  · exact (give_stale b F s x w h h0 h1 hl).mono fun e w' h => .inl ⟨rfl, h.1, h.2⟩
  · obtain ⟨i, hi, hx, ht, _⟩ := live_yes hl
    have e : (x % 131072 - 1).toNat = i := by omega
    rw [e]
    by_cases hq : (s.sl.getD i slot0).tag = s.most
    · exact (give_worn b F s x i w h h0 h1 hl hi hx ht hq).mono fun e w' h => .inr ⟨rfl, h.1, h.2⟩
    · exact (give_back b F s x i w h h0 h1 hl hi hx ht hq).mono fun e w' h => .inr ⟨rfl, h.1, h.2⟩
end Go.Proofs.Ytjojbfgppgnmjaa.Ref
