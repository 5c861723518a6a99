/- Versions: turn, Begin, End, Get. -/
import Derived.Test.YtoidmakaijkglaaGreatT3
import Derived.Deep.RegionHeld3
namespace Go.Proofs.YtoidmakaijkglaaGreat
open Go.RowKit

/-- What a turn of a word leaves. -/
def Turned (w : World) (b : Nat) (F : Nat → Prop) (s : RS) (x : Int) (j : Nat) (o y : Int) (e : Ending) (w' : World) : Prop :=
  (s.p.live x = true ∧ s.ws.getD (slotOf x * 3 + j) 0 = o ∧ e = .returned (.bool true) ∧ LeftS w b F (s.setw (slotOf x * 3 + j) y) w') ∨
  (¬ (s.p.live x = true ∧ s.ws.getD (slotOf x * 3 + j) 0 = o) ∧ e = .returned (.bool false) ∧ LeftS w b F s w')

set_option maxRecDepth 100000 in
set_option maxHeartbeats 800000 in
theorem get_stale (b : Nat) (F : Nat → Prop) (s : RS) (x : Int) (w : World) (h : StoreAt w b F s) (h0 : 0 ≤ x) (h1 : x ≤ 18446744073709551615) (hl : s.p.live x = false) :
    Calls Tryz.prog 56 #[.pointer (some ⟨b, 0, none⟩), .int .u64 x] w fun e w' => e = .returned (.tuple #[ver0.value, .bool false]) ∧ Below w.heap.size w w' := by
  obtain ⟨pb, ab, db, Fp, Fa, h⟩ := h
  have HS0 := Lib.hid (fun w' (hw : Below w.heap.size w w') => rec_slot x w' (SP.below h hw) h0 h1)
  have HL := Lib.hid hl
  clear h hl
  generalize x % 131072 - 1 = q at *
  generalize s.p.live x = t at *
  go_enter Tryz.func56, Tryz.ntmps56
  go_wp2_with fail
  refine (HS0.out _ ((Below.refl _ _).alloc (Nat.le_refl _) _)).mono ?_
  rw [HL.out]
  rintro e w1 ⟨rfl, b1⟩
  obtain ⟨hc1, hf1⟩ := bcell' b1
  have hz1 : w.heap.size < w1.heap.size := by have := b1.size; simp at this; omega
  simp only [World.size_alloc] at hc1 hf1
  have HB := Lib.hid (((Below.refl w.heap.size w).alloc (Nat.le_refl _) _).trans (b1.mono (by simp)))
  clear b1
  go_wp2_with fail
  refine bodyPost_ret (v := .tuple #[ver0.value, .bool false]) (by simp [results, Tryz.results56, go_sem, ver0, Ver.value, hc1]) rfl ⟨rfl, ?_⟩
  have hB : Below w.heap.size w w1 := HB.out
  repeat (with_reducible (first | refine Below.drew ?_ | refine Below.setCell ?_ (by simp) _ | exact hB))

/-- While a version is read: the store as it is, but that the words were counted; the result's variable untouched. -/
structure GI (w1 : World) (b pb ab db r : Nat) (F Fp Fa : Nat → Prop) (s : RS) (w' : World) : Prop where
  sp : SP w' b F s pb ab db Fp Fa
  md : Mod (fun k => Fa k ∨ k = r) w1 w'
  rv : ∃ c0 c1 c2 c3 c4 : Value, w'.heap[r]? = some (.cells #[c0, c1, c2, c3, c4] 101 (0, 0))
theorem SP.step_words {w w' : World} {b pb ab db : Nat} {F Fp Fa : Nat → Prop} {s : RS} (h : SP w b F s pb ab db Fp Fa) (hl : LeftA w ab Fa s.ws w') : SP w' b F s pb ab db Fp Fa := by
  obtain ⟨p, m⟩ := hl
  obtain ⟨w0, h0, hs, hF⟩ := h.1
  have h1 := (hs.perm (perm4 _ _ _ _ _)).step (A' := obArena ab Fa s.ws) p m (Grows.refl _ _)
  exact ⟨⟨w0, h0, h1.perm (perm4 _ _ _ _ _).symm, hF⟩, h.2⟩
section
variable {w1 w' w2 : World} {b pb ab db r : Nat} {F Fp Fa : Nat → Prop} {s : RS}
theorem GI.drew (h : GI w1 b pb ab db r F Fp Fa s w') : GI w1 b pb ab db r F Fp Fa s w'.drew :=
  ⟨h.sp.below (Below.drew (Below.refl _ _)), h.md.drew, h.rv⟩
theorem GI.load (hr : ¬ Fa r) (h : GI w1 b pb ab db r F Fp Fa s w') {i : Nat} (hi : i < s.ws.length) :
    Calls Tryz.prog 38 #[.pointer (some ⟨ab, 0, none⟩), .int .i64 i] w' fun e w2 => e = .returned (.int .u64 (s.ws.getD i 0)) ∧ GI w1 b pb ab db r F Fp Fa s w2 :=
  (arena_load ab Fa s.ws i w' h.sp.arena hi).mono fun _ _ ⟨he, hl⟩ => ⟨he, ⟨h.sp.step_words hl, h.md.trans (hl.2.mono (fun k hk => .inl (.inl hk))), by
    obtain ⟨c0, c1, c2, c3, c4, hh⟩ := h.rv
    exact ⟨c0, c1, c2, c3, c4, hl.2.keep hh hr⟩⟩⟩
/-- The result is laid. -/
theorem GI.lay (h : GI w1 b pb ab db r F Fp Fa s w') (hr : ¬ F r) (k v x y z : Value) : GI w1 b pb ab db r F Fp Fa s (((((w'.setCell ⟨r, 0, none⟩ k).setCell ⟨r, 1, none⟩ v).setCell ⟨r, 2, none⟩ x).setCell ⟨r, 3, none⟩ y).setCell ⟨r, 4, none⟩ z) := by
  have hm : Mod (fun k => k = r) w' (((((w'.setCell ⟨r, 0, none⟩ k).setCell ⟨r, 1, none⟩ v).setCell ⟨r, 2, none⟩ x).setCell ⟨r, 3, none⟩ y).setCell ⟨r, 4, none⟩ z) :=
    (((((Mod.refl (fun k => k = r) w').setCell (p := ⟨r, 0, none⟩) (.inl rfl) _).setCell (p := ⟨r, 1, none⟩) (.inl rfl) _).setCell (p := ⟨r, 2, none⟩) (.inl rfl) _).setCell (p := ⟨r, 3, none⟩) (.inl rfl) _).setCell (p := ⟨r, 4, none⟩) (.inl rfl) _
  refine ⟨⟨h.sp.1.mod hm (fun k hk e => hr (by rw [← show k = r from e]; exact hk)), h.sp.2⟩, h.md.trans (hm.mono (fun k hk => .inl (.inr hk))), ?_⟩
  obtain ⟨c0, c1, c2, c3, c4, hh⟩ := h.rv
  exact ⟨_, _, _, _, _, blk_set (i := 4) (blk_set (i := 3) (blk_set (i := 2) (blk_set (i := 1) (blk_set (i := 0) hh))))⟩
/-- What a cell holds, whatever it is. -/
def rcv (r k : Nat) (w : World) : Value := (w.cell? ⟨r, k, none⟩).getD (.bool false)
theorem GI.held (h : GI w1 b pb ab db r F Fp Fa s w') (k : Nat) (hk : k < 5) : w'.cell? ⟨r, k, none⟩ = some (rcv r k w') := by
  obtain ⟨c0, c1, c2, c3, c4, hh⟩ := h.rv
  unfold rcv
  rw [blk_cell hh]
  match k, hk with
  | 0, _ => rfl
  | 1, _ => rfl
  | 2, _ => rfl
  | 3, _ => rfl
  | 4, _ => rfl
theorem GI.unfrozen (h : GI w1 b pb ab db r F Fp Fa s w') (k : Nat) : w'.frozen? ⟨r, k, none⟩ = false := by
  obtain ⟨c0, c1, c2, c3, c4, hh⟩ := h.rv
  exact blk_free hh k
/-- What the region reads. -/
def GS (b ab db r n : Nat) (i : Nat) (k v : Int) (w' : World) : Prop := w'.cell? ⟨b, 1, none⟩ = some (.pointer (some ⟨ab, 0, none⟩)) ∧ w'.cell? ⟨b, 2, none⟩ = some (.slice (some ⟨db, 0, none⟩) n n) ∧ w'.cell? ⟨db, i * 2, none⟩ = some (.int .i64 k) ∧ w'.cell? ⟨db, i * 2 + 1, none⟩ = some (.int .i64 v) ∧ w'.cell? ⟨r, 0, none⟩ = some (rcv r 0 w') ∧ w'.frozen? ⟨r, 0, none⟩ = false ∧ w'.cell? ⟨r, 1, none⟩ = some (rcv r 1 w') ∧ w'.frozen? ⟨r, 1, none⟩ = false ∧ w'.cell? ⟨r, 2, none⟩ = some (rcv r 2 w') ∧ w'.frozen? ⟨r, 2, none⟩ = false ∧ w'.cell? ⟨r, 3, none⟩ = some (rcv r 3 w') ∧ w'.frozen? ⟨r, 3, none⟩ = false ∧ w'.cell? ⟨r, 4, none⟩ = some (rcv r 4 w') ∧ w'.frozen? ⟨r, 4, none⟩ = false
theorem GI.cells (h : GI w1 b pb ab db r F Fp Fa s w') {i : Nat} (hi : i < s.d.length) : GS b ab db r s.p.sl.length i (s.d.getD i (0, 0)).1 (s.d.getD i (0, 0)).2 w' := by
  refine ⟨(blk_cell h.sp.head 1).trans rfl, (blk_cell h.sp.head 2).trans rfl, ?_, ?_, h.held 0 (by decide), h.unfrozen 0, h.held 1 (by decide), h.unfrozen 1, h.held 2 (by decide), h.unfrozen 2, h.held 3 (by decide), h.unfrozen 3, h.held 4 (by decide), h.unfrozen 4⟩
  · rw [blk_cell h.sp.data]
    simpa using dataCells_key _ _ hi
  · rw [blk_cell h.sp.data]
    simpa using dataCells_val _ _ hi
end

set_option maxRecDepth 100000 in
set_option maxHeartbeats 3200000 in
theorem get_same (b : Nat) (F : Nat → Prop) (s : RS) (x : Int) (w : World) (h : StoreAt w b F s) (h0 : 0 ≤ x) (h1 : x ≤ 18446744073709551615) (hl : s.p.live x = true) :
    Calls Tryz.prog 56 #[.pointer (some ⟨b, 0, none⟩), .int .u64 x] w fun e w' => e = .returned (.tuple #[(s.ver (slotOf x)).value, .bool true]) ∧ StoreAt w' b F s ∧ Mod F w w' := by
  obtain ⟨pb, ab, db, Fp, Fa, h⟩ := h
  obtain ⟨hi, hx, _, _⟩ := slot_live hl
  have HP : Hid (SP w b F s pb ab db Fp Fa) := Lib.hid h
  have hS := fun w' (hw : Below w.heap.size w w') => rec_slot x w' (SP.below h hw) h0 h1
  rw [hl, hx] at hS
  have HS0 := Lib.hid hS
  have hn := (SP.pool h).good.n2
  have hws := h.2.ws
  have hdl := h.2.d
  have hd : slotOf x < s.d.length := by omega
  have hw2 : slotOf x * 3 + 2 < s.ws.length := by omega
  have HV := Lib.hid (show s.ver (slotOf x) = ⟨(s.d.getD (slotOf x) (0, 0)).1, (s.d.getD (slotOf x) (0, 0)).2, s.ws.getD (slotOf x * 3) 0, s.ws.getD (slotOf x * 3 + 1) 0, s.ws.getD (slotOf x * 3 + 2) 0⟩ from rfl)
  have hr : ¬ Fa w.heap.size := fun hc => by
    have := (SP.arena h).within _ hc
    omega
  have HRF := Lib.hid (show ¬ F w.heap.size from fun hc => by
    have := (SP.at_ h).within _ hc
    omega)
  have HN := Lib.hid hdl
  clear h hl hS hx hdl
  generalize hsl : slotOf x = i at *
  have HSL := Lib.hid hsl
  clear hsl
  go_enter Tryz.func56, Tryz.ntmps56
  go_wp2_with fail
  refine (HS0.out _ ((Below.refl _ _).alloc (Nat.le_refl _) _)).mono ?_
  rintro e w1 ⟨rfl, b1⟩
  have hg0 : GI w1 b pb ab db w.heap.size F Fp Fa s w1 := ⟨HP.out.below (((Below.refl w.heap.size w).alloc (Nat.le_refl _) _).trans (b1.mono (by simp))), Mod.refl _ _, _, _, _, _, _, below_keep b1 (blk_new _ _)⟩
  have HB := Lib.hid (((Below.refl w.heap.size w).alloc (Nat.le_refl _) _).trans (b1.mono (by simp)))
  have HC := Lib.hid (fun w' (hg : GI w1 b pb ab db w.heap.size F Fp Fa s w') => hg.cells hd)
  have HL0 := Lib.hid (fun w' (hg : GI w1 b pb ab db w.heap.size F Fp Fa s w') => (show Calls Tryz.prog 38 #[.pointer (some ⟨ab, 0, none⟩), .int .i64 ((i : Int) * 3)] w' fun e w2 => e = .returned (.int .u64 (s.ws.getD (i * 3) 0)) ∧ GI w1 b pb ab db w.heap.size F Fp Fa s w2 from by
    have := hg.load hr (i := i * 3) (by omega)
    rw [show ((i * 3 : Nat) : Int) = (i : Int) * 3 by omega] at this
    exact this))
  have HL1 := Lib.hid (fun w' (hg : GI w1 b pb ab db w.heap.size F Fp Fa s w') => (show Calls Tryz.prog 38 #[.pointer (some ⟨ab, 0, none⟩), .int .i64 ((i : Int) * 3 + 1)] w' fun e w2 => e = .returned (.int .u64 (s.ws.getD (i * 3 + 1) 0)) ∧ GI w1 b pb ab db w.heap.size F Fp Fa s w2 from by
    have := hg.load hr (i := i * 3 + 1) (by omega)
    rw [show ((i * 3 + 1 : Nat) : Int) = (i : Int) * 3 + 1 by omega] at this
    exact this))
  have HL2 := Lib.hid (fun w' (hg : GI w1 b pb ab db w.heap.size F Fp Fa s w') => (show Calls Tryz.prog 38 #[.pointer (some ⟨ab, 0, none⟩), .int .i64 ((i : Int) * 3 + 2)] w' fun e w2 => e = .returned (.int .u64 (s.ws.getD (i * 3 + 2) 0)) ∧ GI w1 b pb ab db w.heap.size F Fp Fa s w2 from by
    have := hg.load hr (i := i * 3 + 2) (by omega)
    rw [show ((i * 3 + 2 : Nat) : Int) = (i : Int) * 3 + 2 by omega] at this
    exact this))
  have hz1 : w.heap.size < w1.heap.size := by have := b1.size; simp at this; omega
  clear b1 HS0 HP hr
  generalize (s.d.getD i (0, 0)).1 = kk at *
  generalize (s.d.getD i (0, 0)).2 = vv at *
  generalize s.ws.getD (i * 3) 0 = bb at *
  generalize s.ws.getD (i * 3 + 1) 0 = ee at *
  generalize s.ws.getD (i * 3 + 2) 0 = nn at *
  rw [HN.out] at hd
  generalize hnn : s.p.sl.length = n at *
  have HNN := Lib.hid hnn
  clear hnn hws
  unfold GS at HC
  have hi0 : (0 : Int) ≤ (i : Int) := by omega
  have hi1 : (i : Int) < n := by omega
  go_wp2_with fail
  have hc0 := HC.out _ hg0
  have x0 : IntKind.i64.wrap ((i : Int) * 3) = (i : Int) * 3 := IntWalk.i64_in _ (by omega)
  have x1 : IntKind.i64.wrap ((i : Int) * 3 + 1) = (i : Int) * 3 + 1 := IntWalk.i64_in _ (by omega)
  have x2 : IntKind.i64.wrap ((i : Int) * 3 + 2) = (i : Int) * 3 + 2 := IntWalk.i64_in _ (by omega)
  go_region_held3 (fun w' => (w'.cell? ⟨b, 1, none⟩ = some (.pointer (some ⟨ab, 0, none⟩)) ∧ w'.cell? ⟨b, 2, none⟩ = some (.slice (some ⟨db, 0, none⟩) n n) ∧ w'.cell? ⟨db, i * 2, none⟩ = some (.int .i64 kk) ∧ w'.cell? ⟨db, i * 2 + 1, none⟩ = some (.int .i64 vv) ∧ w'.cell? ⟨w.heap.size, 0, none⟩ = some (rcv w.heap.size 0 w') ∧ w'.frozen? ⟨w.heap.size, 0, none⟩ = false ∧ w'.cell? ⟨w.heap.size, 1, none⟩ = some (rcv w.heap.size 1 w') ∧ w'.frozen? ⟨w.heap.size, 1, none⟩ = false ∧ w'.cell? ⟨w.heap.size, 2, none⟩ = some (rcv w.heap.size 2 w') ∧ w'.frozen? ⟨w.heap.size, 2, none⟩ = false ∧ w'.cell? ⟨w.heap.size, 3, none⟩ = some (rcv w.heap.size 3 w') ∧ w'.frozen? ⟨w.heap.size, 3, none⟩ = false ∧ w'.cell? ⟨w.heap.size, 4, none⟩ = some (rcv w.heap.size 4 w') ∧ w'.frozen? ⟨w.heap.size, 4, none⟩ = false) ∧ GI w1 b pb ab db w.heap.size F Fp Fa s w')
    (first | exact ⟨HC.out _ ‹GI w1 b pb ab db w.heap.size F Fp Fa s _›, ‹GI w1 b pb ab db w.heap.size F Fp Fa s _›⟩ | exact ⟨HC.out _ (GI.drew ‹GI w1 b pb ab db w.heap.size F Fp Fa s _›), GI.drew ‹GI w1 b pb ab db w.heap.size F Fp Fa s _›⟩ | exact ⟨HC.out _ (GI.lay ‹GI w1 b pb ab db w.heap.size F Fp Fa s _› HRF.out _ _ _ _ _), GI.lay ‹GI w1 b pb ab db w.heap.size F Fp Fa s _› HRF.out _ _ _ _ _⟩)
    (first | ((with_reducible refine (HL0.out _ ?_).mono ?_); (first | assumption | exact GI.drew ‹GI w1 b pb ab db w.heap.size F Fp Fa s _›); rintro e w2 ⟨rfl, hg2⟩) | ((with_reducible refine (HL1.out _ ?_).mono ?_); (first | assumption | exact GI.drew ‹GI w1 b pb ab db w.heap.size F Fp Fa s _›); rintro e w2 ⟨rfl, hg2⟩) | ((with_reducible refine (HL2.out _ ?_).mono ?_); (first | assumption | exact GI.drew ‹GI w1 b pb ab db w.heap.size F Fp Fa s _›); rintro e w2 ⟨rfl, hg2⟩))
  all_goals
    obtain ⟨_, _, _, _, r0, _, r1, _, r2, _, r3, _, r4, _⟩ := HC.out _ hg2
    have hlay := GI.lay hg2 HRF.out (.int .i64 kk) (.int .i64 vv) (.int .u64 bb) (.int .u64 ee) (.int .u64 nn)
    have hfin := And.intro hlay.sp.at_ ((Mod.of_below (F := F) HB.out).next hlay.md (fun k hk => by
      rcases hk with hk | hk
      · exact .inl (hlay.sp.1.inside (A := obArena ab Fa s.ws) (by simp [storeObs]) k hk)
      · exact .inr (by rw [show k = w.heap.size from hk]; exact Nat.le_refl _)))
    have HFIN := Lib.hid hfin
    clear hfin hlay hc0 hg0 x0 x1 x2
    go_wp2_with fail
    refine bodyPost_ret (v := .tuple #[.agg #[.int .i64 kk, .int .i64 vv, .int .u64 bb, .int .u64 ee, .int .u64 nn], .bool true]) (by simp [results, Tryz.results56, go_sem, r0, r1, r2, r3, r4]) rfl ⟨?_, HFIN.out⟩
    rw [HV.out]
    rfl
theorem get_live (b : Nat) (F : Nat → Prop) (s : RS) (x : Int) (w : World) (h : StoreAt w b F s) (h0 : 0 ≤ x) (h1 : x ≤ 18446744073709551615) (hl : s.p.live x = true) :
    Calls Tryz.prog 56 #[.pointer (some ⟨b, 0, none⟩), .int .u64 x] w fun e w' => e = .returned (.tuple #[(s.ver (slotOf x)).value, .bool true]) ∧ LeftS w b F s w' :=
  (get_same b F s x w h h0 h1 hl).mono fun _ _ ⟨he, hs, hm⟩ => ⟨he, F, hs, hm, Grows.refl _ _⟩
end Go.Proofs.YtoidmakaijkglaaGreat
