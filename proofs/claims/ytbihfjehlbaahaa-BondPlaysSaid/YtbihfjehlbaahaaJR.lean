/- The document's bonds: Open, Bind. -/
import Derived.Test.YtbihfjehlbaahaaJQ
namespace Go.Proofs.Ytbihfjehlbaahaa
open Go.RowKit
section
variable {w w1 : World} {c : Nat} {iv sv fv tv : Value} {r : RS}
theorem app_core {X W : World} {v v' : Value} {l : List Int} {x : Int} (hX : Mod (fun _ => False) w X) (hA : Appended X W 0 3 1 v v' (l.length + 1) (l.map (Value.int .i64) ++ [.int .i64 x])) :
    Owned .i64 3 W v' (l ++ [x]) ∧ Mod (fun g => v.ownBlock = some g) w W ∧ ∀ g, v'.ownBlock = some g → v.ownBlock = some g ∨ w.heap.size ≤ g := by
  have hs := hX.size
  refine ⟨Owned.app (ys := [x]) hA, (hX.mono (fun _ h => h.elim)).trans (hA.mod (fun k h => h)), fun g hg => ?_⟩
  rcases hA.lies with e | e
  · exact .inl (e ▸ hg)
  · rw [e] at hg
    have : X.heap.size = g := Option.some.inj hg
    exact .inr (by omega)
theorem RC.app0 (h : RC w c iv sv fv tv r) {X W : World} {v' : Value} {x : Int} (hX : Mod (fun _ => False) w X) (hA : Appended X W 0 3 1 iv v' (r.ids.length + 1) (r.ids.map (Value.int .i64) ++ [.int .i64 x])) :
    RC (W.setCell ⟨c, 0, none⟩ v') c v' sv fv tv ⟨r.ids ++ [x], r.st, r.fr, r.tt⟩ ∧ Mod (RM.F c iv sv fv tv) w (W.setCell ⟨c, 0, none⟩ v') ∧ (∀ g, RM.F c v' sv fv tv g → RM.F c iv sv fv tv g ∨ w.heap.size ≤ g) := by
  obtain ⟨hO, hm1, hN⟩ := app_core hX hA
  have hc := blk_lt h.top
  have hvc : v'.ownBlock ≠ some c := fun e => (hN c e).elim h.ci (fun h0 => by omega)
  have hms : Mod (fun g => g = c) W (W.setCell ⟨c, 0, none⟩ v') := Mod.setCell (F := fun g => g = c) (Mod.refl _ W) (p := ⟨c, 0, none⟩) (.inl rfl) _
  have hm2 : Mod (fun g => iv.ownBlock = some g ∨ g = c) w (W.setCell ⟨c, 0, none⟩ v') := (hm1.mono (fun g h => .inl (.inl h))).next hms (fun g h => .inl (.inr h))
  refine ⟨{ top := ?_, oi := hO.mod hms (fun g hg e => hvc (e ▸ hg)), os := h.os.mod hm2 (fun g hg e => e.elim (fun e => h.si g e hg) (fun e => h.cs (e ▸ hg))), of := h.of.mod hm2 (fun g hg e => e.elim (fun e => h.fi g e hg) (fun e => h.cf (e ▸ hg))), ot := h.ot.mod hm2 (fun g hg e => e.elim (fun e => h.ti g e hg) (fun e => h.ct (e ▸ hg))), ci := hvc, cs := h.cs, cf := h.cf, ct := h.ct, si := fun g hg e => (hN g hg).elim (fun h0 => h.si g h0 e) (fun h0 => by have := h.os.lt g e; omega), fi := fun g hg e => (hN g hg).elim (fun h0 => h.fi g h0 e) (fun h0 => by have := h.of.lt g e; omega), ti := fun g hg e => (hN g hg).elim (fun h0 => h.ti g h0 e) (fun h0 => by have := h.ot.lt g e; omega), fs := h.fs, ts := h.ts, tf := h.tf }, hm2.mono (fun g h => ?_), fun g hg => ?_⟩
  · have := blk_set (i := 0) (u := v') (hm1.keep h.top h.ci)
    simpa using this
  · rcases h with h | h
    · exact .inl (by unfold RM.F; simp [h])
    · exact .inl (.inl h)
  · rcases hg with h0 | h0 | h0 | h0 | h0
    · exact .inl (by unfold RM.F; simp [h0])
    · exact (hN g h0).imp (fun h1 => by unfold RM.F; simp [h1]) (fun h1 => h1)
    · exact .inl (by unfold RM.F; simp [h0])
    · exact .inl (by unfold RM.F; simp [h0])
    · exact .inl (by unfold RM.F; simp [h0])
theorem RC.app1 (h : RC w c iv sv fv tv r) {X W : World} {v' : Value} {x : Int} (hX : Mod (fun _ => False) w X) (hA : Appended X W 0 3 1 sv v' (r.st.length + 1) (r.st.map (Value.int .i64) ++ [.int .i64 x])) :
    RC (W.setCell ⟨c, 1, none⟩ v') c iv v' fv tv ⟨r.ids, r.st ++ [x], r.fr, r.tt⟩ ∧ Mod (RM.F c iv sv fv tv) w (W.setCell ⟨c, 1, none⟩ v') ∧ (∀ g, RM.F c iv v' fv tv g → RM.F c iv sv fv tv g ∨ w.heap.size ≤ g) := by
  obtain ⟨hO, hm1, hN⟩ := app_core hX hA
  have hc := blk_lt h.top
  have hvc : v'.ownBlock ≠ some c := fun e => (hN c e).elim h.cs (fun h0 => by omega)
  have hms : Mod (fun g => g = c) W (W.setCell ⟨c, 1, none⟩ v') := Mod.setCell (F := fun g => g = c) (Mod.refl _ W) (p := ⟨c, 1, none⟩) (.inl rfl) _
  have hm2 : Mod (fun g => sv.ownBlock = some g ∨ g = c) w (W.setCell ⟨c, 1, none⟩ v') := (hm1.mono (fun g h => .inl (.inl h))).next hms (fun g h => .inl (.inr h))
  refine ⟨{ top := ?_, oi := h.oi.mod hm2 (fun g hg e => e.elim (fun e => h.si g hg e) (fun e => h.ci (e ▸ hg))), os := hO.mod hms (fun g hg e => hvc (e ▸ hg)), of := h.of.mod hm2 (fun g hg e => e.elim (fun e => h.fs g e hg) (fun e => h.cf (e ▸ hg))), ot := h.ot.mod hm2 (fun g hg e => e.elim (fun e => h.ts g e hg) (fun e => h.ct (e ▸ hg))), ci := h.ci, cs := hvc, cf := h.cf, ct := h.ct, si := fun g hg e => (hN g e).elim (fun h0 => h.si g hg h0) (fun h0 => by have := h.oi.lt g hg; omega), fi := h.fi, ti := h.ti, fs := fun g hg e => (hN g hg).elim (fun h0 => h.fs g h0 e) (fun h0 => by have := h.of.lt g e; omega), ts := fun g hg e => (hN g hg).elim (fun h0 => h.ts g h0 e) (fun h0 => by have := h.ot.lt g e; omega), tf := h.tf }, hm2.mono (fun g h => ?_), fun g hg => ?_⟩
  · have := blk_set (i := 1) (u := v') (hm1.keep h.top h.cs)
    simpa using this
  · rcases h with h | h
    · exact .inl (by unfold RM.F; simp [h])
    · exact .inl (.inl h)
  · rcases hg with h0 | h0 | h0 | h0 | h0
    · exact .inl (by unfold RM.F; simp [h0])
    · exact .inl (by unfold RM.F; simp [h0])
    · exact (hN g h0).imp (fun h1 => by unfold RM.F; simp [h1]) (fun h1 => h1)
    · exact .inl (by unfold RM.F; simp [h0])
    · exact .inl (by unfold RM.F; simp [h0])
theorem RC.app2 (h : RC w c iv sv fv tv r) {X W : World} {v' : Value} {x : Int} (hX : Mod (fun _ => False) w X) (hA : Appended X W 0 3 1 fv v' (r.fr.length + 1) (r.fr.map (Value.int .i64) ++ [.int .i64 x])) :
    RC (W.setCell ⟨c, 2, none⟩ v') c iv sv v' tv ⟨r.ids, r.st, r.fr ++ [x], r.tt⟩ ∧ Mod (RM.F c iv sv fv tv) w (W.setCell ⟨c, 2, none⟩ v') ∧ (∀ g, RM.F c iv sv v' tv g → RM.F c iv sv fv tv g ∨ w.heap.size ≤ g) := by
  obtain ⟨hO, hm1, hN⟩ := app_core hX hA
  have hc := blk_lt h.top
  have hvc : v'.ownBlock ≠ some c := fun e => (hN c e).elim h.cf (fun h0 => by omega)
  have hms : Mod (fun g => g = c) W (W.setCell ⟨c, 2, none⟩ v') := Mod.setCell (F := fun g => g = c) (Mod.refl _ W) (p := ⟨c, 2, none⟩) (.inl rfl) _
  have hm2 : Mod (fun g => fv.ownBlock = some g ∨ g = c) w (W.setCell ⟨c, 2, none⟩ v') := (hm1.mono (fun g h => .inl (.inl h))).next hms (fun g h => .inl (.inr h))
  refine ⟨{ top := ?_, oi := h.oi.mod hm2 (fun g hg e => e.elim (fun e => h.fi g hg e) (fun e => h.ci (e ▸ hg))), os := h.os.mod hm2 (fun g hg e => e.elim (fun e => h.fs g hg e) (fun e => h.cs (e ▸ hg))), of := hO.mod hms (fun g hg e => hvc (e ▸ hg)), ot := h.ot.mod hm2 (fun g hg e => e.elim (fun e => h.tf g e hg) (fun e => h.ct (e ▸ hg))), ci := h.ci, cs := h.cs, cf := hvc, ct := h.ct, si := h.si, fi := fun g hg e => (hN g e).elim (fun h0 => h.fi g hg h0) (fun h0 => by have := h.oi.lt g hg; omega), ti := h.ti, fs := fun g hg e => (hN g e).elim (fun h0 => h.fs g hg h0) (fun h0 => by have := h.os.lt g hg; omega), ts := h.ts, tf := fun g hg e => (hN g hg).elim (fun h0 => h.tf g h0 e) (fun h0 => by have := h.ot.lt g e; omega) }, hm2.mono (fun g h => ?_), fun g hg => ?_⟩
  · have := blk_set (i := 2) (u := v') (hm1.keep h.top h.cf)
    simpa using this
  · rcases h with h | h
    · exact .inl (by unfold RM.F; simp [h])
    · exact .inl (.inl h)
  · rcases hg with h0 | h0 | h0 | h0 | h0
    · exact .inl (by unfold RM.F; simp [h0])
    · exact .inl (by unfold RM.F; simp [h0])
    · exact .inl (by unfold RM.F; simp [h0])
    · exact (hN g h0).imp (fun h1 => by unfold RM.F; simp [h1]) (fun h1 => h1)
    · exact .inl (by unfold RM.F; simp [h0])
theorem RC.app3 (h : RC w c iv sv fv tv r) {X W : World} {v' : Value} {x : Int} (hX : Mod (fun _ => False) w X) (hA : Appended X W 0 3 1 tv v' (r.tt.length + 1) (r.tt.map (Value.int .i64) ++ [.int .i64 x])) :
    RC (W.setCell ⟨c, 3, none⟩ v') c iv sv fv v' ⟨r.ids, r.st, r.fr, r.tt ++ [x]⟩ ∧ Mod (RM.F c iv sv fv tv) w (W.setCell ⟨c, 3, none⟩ v') ∧ (∀ g, RM.F c iv sv fv v' g → RM.F c iv sv fv tv g ∨ w.heap.size ≤ g) := by
  obtain ⟨hO, hm1, hN⟩ := app_core hX hA
  have hc := blk_lt h.top
  have hvc : v'.ownBlock ≠ some c := fun e => (hN c e).elim h.ct (fun h0 => by omega)
  have hms : Mod (fun g => g = c) W (W.setCell ⟨c, 3, none⟩ v') := Mod.setCell (F := fun g => g = c) (Mod.refl _ W) (p := ⟨c, 3, none⟩) (.inl rfl) _
  have hm2 : Mod (fun g => tv.ownBlock = some g ∨ g = c) w (W.setCell ⟨c, 3, none⟩ v') := (hm1.mono (fun g h => .inl (.inl h))).next hms (fun g h => .inl (.inr h))
  refine ⟨{ top := ?_, oi := h.oi.mod hm2 (fun g hg e => e.elim (fun e => h.ti g hg e) (fun e => h.ci (e ▸ hg))), os := h.os.mod hm2 (fun g hg e => e.elim (fun e => h.ts g hg e) (fun e => h.cs (e ▸ hg))), of := h.of.mod hm2 (fun g hg e => e.elim (fun e => h.tf g hg e) (fun e => h.cf (e ▸ hg))), ot := hO.mod hms (fun g hg e => hvc (e ▸ hg)), ci := h.ci, cs := h.cs, cf := h.cf, ct := hvc, si := h.si, fi := h.fi, ti := fun g hg e => (hN g e).elim (fun h0 => h.ti g hg h0) (fun h0 => by have := h.oi.lt g hg; omega), fs := h.fs, ts := fun g hg e => (hN g e).elim (fun h0 => h.ts g hg h0) (fun h0 => by have := h.os.lt g hg; omega), tf := fun g hg e => (hN g e).elim (fun h0 => h.tf g hg h0) (fun h0 => by have := h.of.lt g hg; omega) }, hm2.mono (fun g h => ?_), fun g hg => ?_⟩
  · have := blk_set (i := 3) (u := v') (hm1.keep h.top h.ct)
    simpa using this
  · rcases h with h | h
    · exact .inl (by unfold RM.F; simp [h])
    · exact .inl (.inl h)
  · rcases hg with h0 | h0 | h0 | h0 | h0
    · exact .inl (by unfold RM.F; simp [h0])
    · exact .inl (by unfold RM.F; simp [h0])
    · exact .inl (by unfold RM.F; simp [h0])
    · exact .inl (by unfold RM.F; simp [h0])
    · exact (hN g h0).imp (fun h1 => by unfold RM.F; simp [h1]) (fun h1 => h1)
/-- The document's bonds after a call. -/
def RefTo (w : World) (c : Nat) (iv sv fv tv : Value) (r' : RS) (w' : World) : Prop := ∃ iv' sv' fv' tv', RM w' c iv' sv' fv' tv' r' ∧ Mod (RM.F c iv sv fv tv) w w' ∧ ∀ g, RM.F c iv' sv' fv' tv' g → RM.F c iv sv fv tv g ∨ w.heap.size ≤ g
theorem RefTo.refl (h : RM w c iv sv fv tv r) : RefTo w c iv sv fv tv r w := ⟨_, _, _, _, h, Mod.refl _ _, fun _ h => .inl h⟩
theorem RefTo.two {W1 W2 : World} {i1 s1 f1 t1 i2 s2 f2 t2 : Value} {r2 : RS} (h1 : Mod (RM.F c iv sv fv tv) w W1 ∧ ∀ g, RM.F c i1 s1 f1 t1 g → RM.F c iv sv fv tv g ∨ w.heap.size ≤ g) (h2 : Mod (RM.F c i1 s1 f1 t1) W1 W2 ∧ ∀ g, RM.F c i2 s2 f2 t2 g → RM.F c i1 s1 f1 t1 g ∨ W1.heap.size ≤ g) (h : RM W2 c i2 s2 f2 t2 r2) : RefTo w c iv sv fv tv r2 W2 :=
  ⟨_, _, _, _, h, h1.1.next h2.1 h1.2, fun g hg => (h2.2 g hg).elim (h1.2 g) (fun h => .inr (Nat.le_trans h1.1.size h))⟩
theorem RefTo.next {W1 W2 : World} {r2 : RS} (h1 : RefTo w c iv sv fv tv r W1) (h2 : ∀ i s f t, RM W1 c i s f t r → RefTo W1 c i s f t r2 W2) : RefTo w c iv sv fv tv r2 W2 := by
  obtain ⟨i1, s1, f1, t1, hm, a, b⟩ := h1
  obtain ⟨i2, s2, f2, t2, hm2, a2, b2⟩ := h2 _ _ _ _ hm
  exact RefTo.two ⟨a, b⟩ ⟨a2, b2⟩ hm2
def RS.open_ (r : RS) (x : Int) : RS := ⟨r.ids ++ [x], r.st ++ [1], r.fr, r.tt⟩
theorem open_ok (h : r.ok) {x : Int} (hx : x ∉ r.ids) (hl : r.ids.length < 2000) : (r.open_ x).ok :=
  ⟨List.nodup_append.2 ⟨h.nodup, by simp, fun p hp q hq => by simp only [List.mem_singleton] at hq; subst hq; exact fun e => hx (e ▸ hp)⟩, by simp [RS.open_, h.slen], h.tlen, by simp [RS.open_]; omega, h.small, fun y hy => List.mem_append.2 (.inl (h.tin y hy))⟩
def ROpen (r : RS) (x c : Int) (r' : RS) : Prop := (x < 1 ∧ c = 1 ∧ r' = r) ∨ (1 ≤ x ∧ x ∈ r.ids ∧ c = 12 ∧ r' = r) ∨ (1 ≤ x ∧ x ∉ r.ids ∧ 2000 ≤ r.ids.length ∧ c = 65 ∧ r' = r) ∨ (1 ≤ x ∧ x ∉ r.ids ∧ r.ids.length < 2000 ∧ c = 0 ∧ r' = r.open_ x)

set_option maxRecDepth 100000 in
set_option maxHeartbeats 6400000 in
theorem rb_open (h : RM w c iv sv fv tv r) (x : Int) :
    Calls Try.prog 25 #[.pointer (some ⟨c, 0, none⟩), .int .i64 x] w fun e w' => ∃ n r', e = .returned (.int .i64 n) ∧ ROpen r x n r' ∧ RefTo w c iv sv fv tv r' w' := by
  obtain ⟨c0, -, -, -⟩ := h.cells
  obtain ⟨ia, ic, hiv, i1, -, -⟩ := h.oi.form
  subst hiv
  have HA := Lib.hid (rb_at h x)
  have HM := Lib.hid h
  have hfew := h.ok.few
  have ft := h.top
  clear h
  go_enter Try.func25, Try.ntmps25
  by_cases hx : x < 1
  · go_wp2_with fail
    go_ret
    exact ⟨1, r, rfl, .inl ⟨hx, rfl, rfl⟩, RefTo.refl HM.out⟩
  · go_wp2_with fail
    refine HA.out.mono ?_
    rintro e w' ⟨rfl, ⟨rfl, hno⟩ | ⟨n, hn, rfl, hxn⟩⟩
    · by_cases hl : r.ids.length < 2000
      · have HNO := Lib.hid hno
        have HR := Lib.hid (HM.out.toRC)
        have hln : ¬ (2000 : Int) ≤ (r.ids.length : Int) := by omega
        have hrl : r.ids.length + 1 ≤ 1099511627776 := by omega
        clear hno HA
        go_wp2_with (at_builtin; refine walk_append (zero := .int .i64 0) (base := 0) (n := r.ids.length) (m := 1) (xs := r.ids.map (Value.int .i64)) (ys := [.int .i64 x]) rfl (.tmp 24) (.tmp 26) rfl Try.underlying25 info_int rfl Nat.zero_lt_one (Nat.le_of_ble_eq_true rfl) rfl (World.ownsRow.alloc HR.out.oi _) rfl (SrcAt.one (blk_at (by simp))) (ints_one .i64 [_]) hrl (Nat.zero_le _) ?_)
        intro v1 w1 hA
        obtain ⟨a1, b1, rfl⟩ := hA.val
        have t1 := (app_core (l := r.ids) ((Mod.refl _ _).alloc _) hA).2.1.keep ft HR.out.ci
        have H1 := Lib.hid (HR.out.app0 ((Mod.refl _ _).alloc _) hA)
        have d1 := blk_cell t1 0
        have e1 := blk_free t1 0
        have d2 := blk_cell t1 1
        simp at d1 d2
        clear hA t1 ft HR c0
        have hrl2 : r.st.length + 1 ≤ 1099511627776 := by rw [HM.out.ok.slen]; omega
        have t2 := H1.out.1.top
        go_wp2_with (at_builtin; refine walk_append (zero := .int .i64 0) (base := 0) (n := r.st.length) (m := 1) (xs := r.st.map (Value.int .i64)) (ys := [.int .i64 1]) rfl (.tmp 34) (.tmp 35) rfl Try.underlying25 info_int rfl Nat.zero_lt_one (Nat.le_of_ble_eq_true rfl) rfl (World.ownsRow.alloc H1.out.1.os _) rfl (SrcAt.one (blk_at (by simp))) (ints_one .i64 [_]) hrl2 (Nat.zero_le _) ?_)
        intro v2 w2 hA
        obtain ⟨a2, b2, rfl⟩ := hA.val
        have t3 := (app_core (l := r.st) ((Mod.refl _ _).alloc _) hA).2.1.keep t2 H1.out.1.cs
        have H2 := Lib.hid (H1.out.1.app1 (x := 1) ((Mod.refl _ _).alloc _) hA)
        have d1 := blk_cell t3 1
        have e1 := blk_free t3 1
        simp at d1
        clear hA t3 t2 d2
        go_wp2_with fail
        go_ret
        exact ⟨0, rfl, r.open_ x, .inr (.inr (.inr ⟨by omega, HNO.out, hl, rfl, rfl⟩)), RefTo.two H1.out.2 H2.out.2 { H2.out.1 with ok := open_ok HM.out.ok HNO.out hl }⟩
      · go_wp2_with fail
        go_ret
        exact ⟨65, r, rfl, .inr (.inr (.inl ⟨by omega, hno, by omega, rfl, rfl⟩)), RefTo.refl HM.out⟩
    · go_wp2_with fail
      go_ret
      exact ⟨12, r, rfl, .inr (.inl ⟨by omega, hxn ▸ get_mem hn, rfl, rfl⟩), RefTo.refl HM.out⟩
end
end Go.Proofs.Ytbihfjehlbaahaa
