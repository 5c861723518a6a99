/- The pool's functions: Give, Free, Used, Worn. -/
import Derived.Test.YtjojbfgppgnmjaaP3
import Derived.Deep.RegionWith
namespace Go.Proofs.Ytjojbfgppgnmjaa
open Go.RowKit

theorem live_yes {s : PS} {x : Int} (h : s.live x = true) : ∃ i : Nat, i < s.sl.length ∧ x % 131072 = i + 1 ∧ (s.sl.getD i slot0).taken = true ∧ s.link i = x := by
  by_cases hin : 1 ≤ x % 131072 ∧ x % 131072 ≤ s.sl.length
  · have hx : x % 131072 = ((x % 131072 - 1).toNat : Int) + 1 := by omega
    have hl : (x % 131072 - 1).toNat < s.sl.length := by omega
    rw [live_in hx hl, Bool.and_eq_true, decide_eq_true_eq] at h
    exact ⟨_, hl, hx, h.1, h.2⟩
  · rw [live_out hin] at h
    cases h

set_option maxRecDepth 100000 in
set_option maxHeartbeats 800000 in
theorem give_stale (b : Nat) (F : Nat → Prop) (s : PS) (x : Int) (w : World) (h : PoolAt w b F s) (h0 : 0 ≤ x) (h1 : x ≤ 18446744073709551615) (hl : s.live x = false) :
    Calls Try.prog 60 #[.pointer (some ⟨b, 0, none⟩), .int .u64 x] w fun e w' => e = .returned (.int .i64 8) ∧ w = w' := by
  have hc := pool_live b F s x w h h0 h1
  rw [hl] at hc
  have HC := Lib.hid hc
  clear hc hl h
  go_enter Try.func60, Try.ntmps60
  go_wp2_with fail
  refine HC.out.mono ?_
  rintro e w' ⟨rfl, rfl⟩
  go_wp2_with fail
  go_ret
  exact ⟨rfl, rfl⟩

/-- The pool, one slot given back: worn, or with the next tag and last in the list. -/
def PS.give (s : PS) (i : Nat) : PS := if (s.sl.getD i slot0).tag = s.most then { s with sl := s.sl.set i ⟨(s.sl.getD i slot0).tag, false⟩, worn := s.worn + 1 } else { s with sl := s.sl.set i ⟨(s.sl.getD i slot0).tag + 1, false⟩, free := s.free ++ [(i : Int)] }
theorem cnt_pos {l : List Slot} {i : Nat} (hi : i < l.length) (h : (l.getD i slot0).taken = true) : 1 ≤ cnt l := by
  unfold cnt
  refine List.countP_pos_iff.2 ⟨l[i], List.getElem_mem hi, ?_⟩
  simpa [List.getD_eq_getElem?_getD, hi] using h
theorem live_init {s : PS} (h : s.ok) {i : Nat} (hi : i < s.sl.length) (ht : (s.sl.getD i slot0).taken = true) : s.init = true := by
  cases hs : s.init
  · have := cnt_pos hi ht
    have := (h.fresh hs).2.2
    omega
  · rfl
theorem give_ok {s : PS} {i : Nat} (h : s.ok) (hi : i < s.sl.length) (ht : (s.sl.getD i slot0).taken = true) : (s.give i).ok := by
  have hs := live_init h hi ht
  have hall := h.all hs
  have hpos := cnt_pos hi ht
  have hcnt : ∀ t : Int, cnt (s.sl.set i ⟨t, false⟩) + 1 = cnt s.sl := by
    intro t
    have e : (s.sl[i]).taken = true := by simpa [List.getD_eq_getElem?_getD, hi] using ht
    unfold cnt at hpos ⊢
    rw [List.countP_set hi]
    simp [e]
    omega
  have hnot : ∀ x ∈ s.free, x ≠ (i : Int) := by
    intro x hx e
    have := (h.free x hx).2.2
    rw [e, show ((i : Int)).toNat = i by omega, ht] at this
    cases this
  have hfree : ∀ (t : Int), ∀ x ∈ s.free, 0 ≤ x ∧ x < (s.sl.set i ⟨t, false⟩).length ∧ ((s.sl.set i ⟨t, false⟩).getD x.toNat slot0).taken = false := by
    intro t x hx
    have h1 := h.free x hx
    refine ⟨h1.1, by simpa using h1.2.1, ?_⟩
    have : i ≠ x.toNat := by have := hnot x hx; omega
    simp only [List.getD_eq_getElem?_getD, List.getElem?_set_ne this]
    simpa [List.getD_eq_getElem?_getD] using h1.2.2
  have htag := h.tag hi
  unfold PS.give
  split
  · rename_i hm
    refine ⟨by simpa using h.n1, by simpa using h.n2, h.m0, h.m1, h.nodup, hfree _, ?_, by have := h.w0; show 0 ≤ s.worn + 1; omega, (fun e => by rw [show _ = s.init from rfl, hs] at e; cases e), fun _ => ?_⟩
    · intro x hx
      rcases List.mem_or_eq_of_mem_set hx with hx | rfl
      · exact h.tags x hx
      · exact htag
    · have := hcnt (s.sl.getD i slot0).tag
      simp at this ⊢
      omega
  · rename_i hm
    refine ⟨by simpa using h.n1, by simpa using h.n2, h.m0, h.m1, ?_, ?_, ?_, h.w0, (fun e => by rw [show _ = s.init from rfl, hs] at e; cases e), fun _ => ?_⟩
    · show (s.free ++ [(i : Int)]).Nodup
      rw [List.nodup_append]
      refine ⟨h.nodup, by simp, ?_⟩
      intro a ha c hc e
      simp at hc
      exact hnot a ha (by rw [e, hc])
    · intro x hx
      have hx' : x ∈ s.free ++ [(i : Int)] := hx
      rcases List.mem_append.1 hx' with hx | hx
      · exact hfree _ x hx
      · simp at hx
        subst hx
        refine ⟨by omega, by simp; omega, ?_⟩
        simp [List.getD_eq_getElem?_getD, hi]
    · intro x hx
      rcases List.mem_or_eq_of_mem_set hx with hx | rfl
      · exact h.tags x hx
      · simp only
        omega
    · have := hcnt ((s.sl.getD i slot0).tag + 1)
      simp at this ⊢
      omega

set_option maxRecDepth 100000 in
set_option maxHeartbeats 1600000 in
theorem give_live (b : Nat) (F : Nat → Prop) (s : PS) (x : Int) (i : Nat) (w : World) (h : PoolAt w b F s) (h0 : 0 ≤ x) (h1 : x ≤ 18446744073709551615) (hl : s.live x = true) (hi : i < s.sl.length) (hx : x % 131072 = i + 1) (ht : (s.sl.getD i slot0).taken = true) :
    Calls Try.prog 60 #[.pointer (some ⟨b, 0, none⟩), .int .u64 x] w fun e w' => e = .returned (.int .i64 0) ∧ Left w b F (s.give i) w' := by
  have hc := pool_live b F s x w h h0 h1
  rw [hl] at hc
  have hU := fun w => word_unlink x w h0 h1
  rw [hx] at hU
  simp only [Int.add_sub_cancel] at hU
  have HU := Lib.hid hU
  have HC := Lib.hid hc
  obtain ⟨sb, fv, n1, n2, n3, rfl, hb, hs, hf, hk, hnil⟩ := h
  have HK := Lib.hid (give_ok hk hi ht)
  have hgi : (s.give i).init = true := by
    have := live_init hk hi ht
    unfold PS.give
    split <;> exact this
  have HGI := Lib.hid hgi
  have c0 := blk_cell hb 0
  have c1 := blk_cell hb 1
  have c2 := blk_cell hb 2
  have c3 := blk_cell hb 3
  have z2 := blk_free hb 2
  have z3 := blk_free hb 3
  simp only [poolCells] at c0 c1 c2 c3
  simp at c0 c1 c2 c3
  have ctt := PoolAt.sb_cell hs hi
  obtain ⟨ctg, ctk⟩ := ctt
  have zt := blk_free hs (i * 2)
  have zk := blk_free hs (i * 2 + 1)
  have htag := hk.tag hi
  have hn := hk.n2
  have hm1 := hk.m1
  have hw0 := hk.w0
  have hw1 := hk.worn
  have hfl := hk.len
  have HO := Lib.hid hf
  have HB := Lib.hid hb
  have HS := Lib.hid hs
  have hlb := blk_lt hb
  have hls := blk_lt hs
  have nb : ¬ b = sb := fun e => n1 e.symm
  have HGE := Lib.hid (show s.give i = if (s.sl.getD i slot0).tag = s.most then { s with sl := s.sl.set i ⟨(s.sl.getD i slot0).tag, false⟩, worn := s.worn + 1 } else { s with sl := s.sl.set i ⟨(s.sl.getD i slot0).tag + 1, false⟩, free := s.free ++ [(i : Int)] } from rfl)
  have HST := Lib.hid (fun t => slotCells_set_taken s.sl i hi t)
  have HSG := Lib.hid (fun (l : List Slot) (hl : l.length = s.sl.length) t => slotCells_set_tag l i (by omega) t)
  clear hc hU hx hl ht hb hs hf hk hnil hgi
  generalize s.sl.getD i slot0 = o at *
  obtain ⟨tg, tk⟩ := o
  simp only at *
  by_cases hw : tg = s.most
  · have HE := Lib.hid (show s.give i = { s with sl := s.sl.set i ⟨tg, false⟩, worn := s.worn + 1 } by rw [HGE.out, if_pos hw])
    have hq : (tg == s.most) = true := by simp only [hw, beq_self_eq_true]
    clear hw
    go_enter Try.func60, Try.ntmps60
    go_wp2_with fail
    refine HC.out.mono ?_
    rintro e w' ⟨rfl, rfl⟩
    go_wp2_with fail
    refine (HU.out _).mono ?_
    rintro e w' ⟨rfl, rfl⟩
    go_wp2_with fail
    go_quiet (fail)
    go_wp2_with fail
    go_ret
    refine ⟨rfl, _, ⟨sb, fv, n1, n2, n3, rfl, ?_, ?_, ?_, HK.out, fun h => by rw [HGI.out] at h; cases h⟩, ((Mod.setCell (p := ⟨sb, i * 2 + 1, none⟩) (Mod.refl _ _) (.inl (.inr (.inl rfl))) _).drewN _).setCell (p := ⟨b, 3, none⟩) (.inl (.inl rfl)) _, Grows.refl _ _⟩
    · rw [HE.out, blk_set (i := 3) (blk_drewN (blk_other (p := ⟨sb, i * 2 + 1, none⟩) HB.out nb) _)]
      simp [poolCells]
    · rw [HE.out, blk_other (p := ⟨b, 3, none⟩) (blk_drewN (blk_set (i := i * 2 + 1) HS.out) _) n1, List.setIfInBounds_toArray, HST.out]
    · rw [HE.out]
      refine ownsRow_mod HO.out (F := fun k => k = sb ∨ k = b) (((Mod.setCell (p := ⟨sb, i * 2 + 1, none⟩) (Mod.refl _ _) (.inl (.inl rfl)) _).drewN _).setCell (p := ⟨b, 3, none⟩) (.inl (.inr rfl)) _) ?_
      rintro k hk (rfl | rfl)
      · exact n3 hk
      · exact n2 hk
  · have HE := Lib.hid (show s.give i = { s with sl := s.sl.set i ⟨tg + 1, false⟩, free := s.free ++ [(i : Int)] } by rw [HGE.out, if_neg hw])
    have hq : (tg == s.most) = false := by simpa using hw
    clear hw
    go_enter Try.func60, Try.ntmps60
    go_wp2_with fail
    refine HC.out.mono ?_
    rintro e w' ⟨rfl, rfl⟩
    go_wp2_with fail
    refine (HU.out _).mono ?_
    rintro e w' ⟨rfl, rfl⟩
    go_wp2_with fail
    go_quiet (fail)
    go_wp2_with (at_builtin; refine walk_append (zero := .int .i64 0) (base := 0) (n := s.free.length) (m := 1) (xs := s.free.map (Value.int .i64)) (ys := [.int .i64 i]) rfl _ _ rfl Try.underlying67 info_int rfl Nat.zero_lt_one (Nat.le_of_ble_eq_true rfl) rfl ?c1 rfl ?c2 (ints_one .i64 [_]) ?c3 ?c4 ?_)
    case c1 =>
      refine World.ownsRow.alloc (ownsRow_mod HO.out (F := fun k => k = sb) ((((Mod.setCell (p := ⟨sb, i * 2 + 1, none⟩) (Mod.refl (fun k => k = sb) _) (.inl rfl) _).drewN _).setCell (p := ⟨sb, i * 2, none⟩) (.inl rfl) _)) ?_) _
      rintro k hk rfl
      exact n3 hk
    case c2 => exact SrcAt.one (blk_at (by simp [World.setCell]))
    case c3 => omega
    case c4 => exact Nat.zero_le _
    intro v' w' hA
    obtain ⟨a', cap', rfl⟩ := hA.val
    have hX : Mod (fun k => k = sb) w _ := (((Mod.setCell (p := ⟨sb, i * 2 + 1, none⟩) (Mod.refl (fun k => k = sb) w) (.inl rfl) (.bool false)).drewN nq).setCell (p := ⟨sb, i * 2, none⟩) (.inl rfl) (.int .i64 (tg + 1))).alloc (.cells #[.int .i64 i] 3)
    have hbX := hX.keep HB.out nb
    have hb' := hA.keep hbX n2
    have hs' := hA.keep (blk_alloc (p := .cells #[.int .i64 i] 3) (blk_set (i := i * 2) (u := .int .i64 (tg + 1)) (blk_drewN (blk_set (i := i * 2 + 1) (u := .bool false) HS.out) nq))) n3
    have c2' := (blk_cell hb' 2).trans rfl
    have z2' := blk_free hb' 2
    have hlie := hA.lies
    have hsz := hX.size
    have hnb : (Value.slice a' (s.free.length + 1) cap').ownBlock ≠ some b ∧ (Value.slice a' (s.free.length + 1) cap').ownBlock ≠ some sb ∧ ∀ k, (Value.slice a' (s.free.length + 1) cap').ownBlock = some k → (k = b ∨ k = sb ∨ fv.ownBlock = some k) ∨ w.heap.size ≤ k := by
      rcases hlie with e | e
      · rw [e]
        exact ⟨n2, n3, fun k hk => .inl (.inr (.inr hk))⟩
      · rw [e]
        refine ⟨fun e => ?_, fun e => ?_, fun k e => .inr ?_⟩ <;> (have e' := Option.some.inj e; simp [World.setCell] at e' hsz; omega)
    have hF : Owned .i64 3 w' (.slice a' (s.free.length + 1) cap') (s.free ++ [(i : Int)]) := Owned.app (ys := [(i : Int)]) hA
    have hmod : Mod (fun k => k = b ∨ k = sb ∨ fv.ownBlock = some k) w (w'.setCell ⟨b, 2, none⟩ (.slice a' (s.free.length + 1) cap')) :=
      ((hX.mono (fun k hk => .inl (.inr (.inl hk)))).trans (hA.mod (fun k hk => .inr (.inr hk)))).setCell (p := ⟨b, 2, none⟩) (.inl (.inl rfl)) _
    have hfin : Left w b (fun k => k = b ∨ k = sb ∨ fv.ownBlock = some k) (s.give i) (w'.setCell ⟨b, 2, none⟩ (.slice a' (s.free.length + 1) cap')) := by
      refine ⟨_, ⟨sb, _, n1, hnb.1, hnb.2.1, rfl, ?_, ?_, ?_, HK.out, fun h => by rw [HGI.out] at h; cases h⟩, hmod, ?_⟩
      · rw [HE.out, blk_set (i := 2) hb']
        simp [poolCells]
      · rw [HE.out, blk_other (p := ⟨b, 2, none⟩) hs' n1, List.setIfInBounds_toArray, List.setIfInBounds_toArray, HST.out, HSG.out _ (by simp)]
        simp [List.getD_eq_getElem?_getD, hi]
      · rw [HE.out]
        refine hF.mod (F := fun k => k = b) ((Mod.refl (fun k => k = b) _).setCell (p := ⟨b, 2, none⟩) (.inl rfl) _) ?_
        rintro k hk rfl
        exact hnb.1 hk
      · rintro k (rfl | rfl | hk)
        · exact .inl (.inl rfl)
        · exact .inl (.inr (.inl rfl))
        · exact hnb.2.2 k hk
    have HFIN := Lib.hid hfin
    clear hfin hmod hF hnb hsz hlie hX hbX hb' hs' hA
    go_wp2_with fail
    go_ret
    exact ⟨rfl, HFIN.out⟩

theorem pool_give (b : Nat) (F : Nat → Prop) (s : PS) (x : Int) (w : World) (h : PoolAt w b F s) (h0 : 0 ≤ x) (h1 : x ≤ 18446744073709551615) :
    Calls Try.prog 60 #[.pointer (some ⟨b, 0, none⟩), .int .u64 x] w fun e w' =>
      (s.live x = false ∧ e = .returned (.int .i64 8) ∧ w = w') ∨ (s.live x = true ∧ e = .returned (.int .i64 0) ∧ Left w b F (s.give (x % 131072 - 1).toNat) w') := by
  cases hl : s.live x
  · exact (give_stale b F s x w h h0 h1 hl).mono fun e w' ⟨h1, h2⟩ => .inl ⟨rfl, h1, h2⟩
  · obtain ⟨i, hi, hx, ht, _⟩ := live_yes hl
    have e : (x % 131072 - 1).toNat = i := by omega
    rw [e]
    exact (give_live b F s x i w h h0 h1 hl hi hx ht).mono fun e w' ⟨h1, h2⟩ => .inr ⟨rfl, h1, h2⟩

set_option maxRecDepth 100000 in
set_option maxHeartbeats 800000 in
theorem pool_free (b : Nat) (F : Nat → Prop) (s : PS) (w : World) (h : PoolAt w b F s) :
    Calls Try.prog 84 #[.pointer (some ⟨b, 0, none⟩)] w fun e w' => e = .returned (.int .i64 s.listed.free.length) ∧ Left w b F s.listed w' := by
  have HP := Lib.hid (pool_list b F s w h)
  clear h
  generalize s.listed = t at *
  go_enter Try.func84, Try.ntmps84
  go_wp2_with fail
  refine HP.out.mono ?_
  rintro e w1 ⟨rfl, hl1⟩
  have HL := Lib.hid hl1
  obtain ⟨F', hp, hm, hg⟩ := hl1
  obtain ⟨sb, fv, n1, n2, n3, rfl, hb, hs, hf, hk, hnil⟩ := hp
  have c2 := blk_cell hb 2
  simp only [poolCells] at c2
  simp at c2
  have hfl := hk.len
  have hn := hk.n2
  have hfv : ∃ a cap, fv = .slice a t.free.length cap := by
    obtain ⟨a, cap, h, _⟩ := Owned.form (k := .i64) (E := 3) (w := w1) (v := fv) (l := t.free) hf
    exact ⟨a, cap, h⟩
  obtain ⟨a, cap, rfl⟩ := hfv
  clear hb hs hf hk hnil hm hg n1 n2 n3
  go_wp2_with fail
  go_ret
  exact ⟨rfl, HL.out⟩

set_option maxRecDepth 100000 in
set_option maxHeartbeats 1600000 in
theorem pool_used (b : Nat) (F : Nat → Prop) (s : PS) (w : World) (h : PoolAt w b F s) :
    Calls Try.prog 61 #[.pointer (some ⟨b, 0, none⟩)] w fun e w' => e = .returned (.int .i64 (cnt s.sl)) ∧ Left w b F s.listed w' := by
  have HP := Lib.hid (fun W (hW : W = w ∨ W = w.drew) => pool_free b F s W (by rcases hW with rfl | rfl; exact h; exact h.mod (G := fun _ => False) ((Mod.refl _ _).drew) (fun _ _ h => h)))
  obtain ⟨sb, fv, n1, n2, n3, rfl, hb, hs, hf, hk, hnil⟩ := h
  have c0 := blk_cell hb 0
  have c3 := blk_cell hb 3
  simp only [poolCells] at c0 c3
  simp at c0 c3
  have hn := hk.n2
  have hw0 := hk.w0
  have hw1 := hk.worn
  have hall := (listed_ok hk).all (listed_init s)
  have hfl := (listed_ok hk).len
  have e1 : s.listed.sl = s.sl := by unfold PS.listed; cases s.init <;> rfl
  have e2 : s.listed.worn = s.worn := by unfold PS.listed; cases s.init <;> rfl
  have e3 : s.listed.most = s.most := by unfold PS.listed; cases s.init <;> rfl
  rw [e1, e2] at hall
  rw [e1] at hfl
  have E1 := Lib.hid e1
  have E2 := Lib.hid e2
  have HALL := Lib.hid hall
  have hr : cnt s.sl ≤ s.sl.length := by omega
  have hsum : (cnt s.sl : Int) + s.worn ≤ s.sl.length := by omega
  have hnn : (s.listed.free.length : Int) + s.worn ≤ s.sl.length := by omega
  clear hb hs hf hk hnil e1 e2 e3 hall
  generalize s.listed = t at *
  have x1 : IntKind.i64.wrap ((s.sl.length : Int) - (t.free.length : Int)) = (s.sl.length : Int) - (t.free.length : Int) := IntWalk.i64_in _ (by omega)
  have x2 : IntKind.i64.wrap ((s.sl.length : Int) - (t.free.length : Int) - s.worn) = (s.sl.length : Int) - (t.free.length : Int) - s.worn := IntWalk.i64_in _ (by omega)
  go_enter Try.func61, Try.ntmps61
  go_wp2_with fail
  go_region_with (refine (HP.out _ (by first | exact .inl rfl | exact .inr rfl)).mono ?_; rintro e w1 ⟨rfl, F', hp, hm, hg⟩; have HL := Lib.hid (And.intro hp (And.intro hm hg)); obtain ⟨sb', fv', m1, m2, m3, rfl, hb', hs', hf', hk', hnil'⟩ := hp; have d0 := blk_cell hb' 0; have d3 := blk_cell hb' 3; simp only [poolCells, E1.out, E2.out] at d0 d3; simp at d0 d3; clear hb' hs' hf' hk' hnil' hm hg)
  all_goals
    clear x1 x2
    go_wp2_with fail
    go_ret
    have hw := HALL.out
    exact ⟨ret_int (by omega), _, HL.out.1, (Mod.refl _ _).drew.trans HL.out.2.1, HL.out.2.2⟩
end Go.Proofs.Ytjojbfgppgnmjaa
