/- The document's bonds: Bind. -/
import Derived.Test.YtbihfjehlbaahaaJR
namespace Go.Proofs.Ytbihfjehlbaahaa
open Go.RowKit
section
variable {w w1 : World} {c : Nat} {iv sv fv tv : Value} {r : RS}
def RS.bind (r : RS) (x y : Int) : RS := ⟨r.ids, r.st, r.fr ++ [x], r.tt ++ [y]⟩
/-- What doom makes of the document's bonds. -/
def RDoom (r : RS) (a : Int) (r' : RS) : Prop := ∃ l, Rise l (r.hit a) ∧ Doomed r l r'
inductive RBind (r : RS) (x y : Int) : Int → RS → Prop
  | none : ¬ (x ∈ r.ids ∧ y ∈ r.ids) → RBind r x y 11 r
  | same : x ∈ r.ids → x = y → RBind r x y 1 r
  | over : x ∈ r.ids → y ∈ r.ids → x ≠ y → (r.stOf x = 3 ∨ r.stOf x = 4) → RBind r x y 7 r
  | had : x ∈ r.ids → y ∈ r.ids → x ≠ y → ¬ (r.stOf x = 3 ∨ r.stOf x = 4) → (r.stOf y = 3 ∨ (r.bond x y ∧ r.stOf y ≠ 3)) → RBind r x y 0 r
  | late {r'} : x ∈ r.ids → y ∈ r.ids → x ≠ y → ¬ (r.stOf x = 3 ∨ r.stOf x = 4) → ¬ (r.stOf y = 3 ∨ (r.bond x y ∧ r.stOf y ≠ 3)) → r.stOf y = 4 → RDoom r x r' → RBind r x y 0 r'
  | loop : x ∈ r.ids → y ∈ r.ids → x ≠ y → ¬ (r.stOf x = 3 ∨ r.stOf x = 4) → ¬ (r.stOf y = 3 ∨ (r.bond x y ∧ r.stOf y ≠ 3)) → r.stOf y ≠ 4 → r.Way y x → RBind r x y 17 r
  | put {r'} : x ∈ r.ids → y ∈ r.ids → x ≠ y → ¬ (r.stOf x = 3 ∨ r.stOf x = 4) → ¬ (r.stOf y = 3 ∨ (r.bond x y ∧ r.stOf y ≠ 3)) → r.stOf y ≠ 4 → ¬ r.Way y x → (r.stOf y = 2 → RDoom r x r') → (r.stOf y ≠ 2 → r' = r) → RBind r x y 0 (r'.bind x y)
theorem bind_ok (h : r.ok) {x y : Int} (hy : y ∈ r.ids) (hl : r.fr.length < 100000) : (r.bind x y).ok :=
  ⟨h.nodup, h.slen, by simp [RS.bind, h.tlen], h.few, by simp [RS.bind]; omega, fun z hz => (List.mem_append.1 hz).elim (h.tin z) (fun e => by rw [List.mem_singleton.1 e]; exact hy)⟩
theorem RefTo.three {W0 W1 W2 : World} {i1 s1 f1 t1 i2 s2 f2 t2 : Value} {r2 : RS} (h0 : Mod (RM.F c iv sv fv tv) w W0) (h1 : Mod (RM.F c iv sv fv tv) W0 W1 ∧ ∀ g, RM.F c i1 s1 f1 t1 g → RM.F c iv sv fv tv g ∨ W0.heap.size ≤ g) (h2 : Mod (RM.F c i1 s1 f1 t1) W1 W2 ∧ ∀ g, RM.F c i2 s2 f2 t2 g → RM.F c i1 s1 f1 t1 g ∨ W1.heap.size ≤ g) (h : RM W2 c i2 s2 f2 t2 r2) : RefTo w c iv sv fv tv r2 W2 := by
  obtain ⟨i, s, f, t, hm, a, b⟩ := RefTo.two h1 h2 h
  exact ⟨i, s, f, t, hm, h0.trans a, fun g hg => (b g hg).imp id (fun h => Nat.le_trans h0.size h)⟩
theorem RefTo.doom {r' : RS} {w3 : World} (hm : RM w3 c iv sv fv tv r') (hmod : Mod (fun g => sv.ownBlock = some g) w w3) : RefTo w c iv sv fv tv r' w3 :=
  ⟨_, _, _, _, hm, hmod.mono (fun _ h => .inl (.inr (.inr (.inl h)))), fun _ h => .inl h⟩
theorem RefTo.quiet {w3 : World} (hm : RM w3 c iv sv fv tv r) (hb : Below w.heap.size w w3) : RefTo w c iv sv fv tv r w3 :=
  ⟨_, _, _, _, hm, Mod.of_below hb, fun _ h => .inl h⟩

set_option maxRecDepth 100000 in
set_option maxHeartbeats 12800000 in
theorem rb_bind (h : RM w c iv sv fv tv r) (hsm : r.fr.length < 100000) (x y : Int) :
    Calls Try.prog 26 #[.pointer (some ⟨c, 0, none⟩), .int .i64 x, .int .i64 y] w fun e w' => ∃ n r', e = .returned (.int .i64 n) ∧ RBind r x y n r' ∧ RefTo w c iv sv fv tv r' w' := by
  have HAX := Lib.hid (rb_at h x)
  have HAY := Lib.hid (rb_at h y)
  have HSX := Lib.hid (rb_state h x)
  have HSY := Lib.hid (rb_state h y)
  have HW := Lib.hid (rb_waits h x y)
  have HRE := Lib.hid (rb_reach h y)
  have HDO := Lib.hid (rb_doom h x)
  have HM := Lib.hid h
  have hfew := h.ok.few
  clear h
  go_enter Try.func26, Try.ntmps26
  go_wp2_with fail
  refine HAX.out.mono ?_
  rintro e w' ⟨rfl, ⟨rfl, hnx⟩ | ⟨n, hn, rfl, hxn⟩⟩
  · go_wp2_with fail
    go_ret
    exact ⟨11, r, rfl, .none (fun h => hnx h.1), RefTo.refl HM.out⟩
  have HX := Lib.hid (show x ∈ r.ids from hxn ▸ get_mem hn)
  clear hxn HAX
  go_wp2_with fail
  refine HAY.out.mono ?_
  rintro e w' ⟨rfl, ⟨rfl, hny⟩ | ⟨m, hm, rfl, hym⟩⟩
  · go_wp2_with fail
    go_ret
    exact ⟨11, r, rfl, .none (fun h => hny h.2), RefTo.refl HM.out⟩
  have HY := Lib.hid (show y ∈ r.ids from hym ▸ get_mem hm)
  clear hym HAY
  by_cases hxy : x = y
  · have e1 : (x == y) = true := by simp [hxy]
    have HXY := Lib.hid hxy
    clear hxy
    go_wp2_with fail
    go_ret
    exact ⟨1, r, rfl, .same HX.out HXY.out, RefTo.refl HM.out⟩
  have e1 : (x == y) = false := by simpa using hxy
  have HXY := Lib.hid hxy
  clear hxy
  go_wp2_with fail
  refine HSX.out.mono ?_
  rintro e w' ⟨rfl, rfl⟩
  by_cases x3 : r.stOf x = 3
  · have e2 : (r.stOf x == 3) = true := by simp [x3]
    have HX3 := Lib.hid x3
    clear x3
    go_wp2_with fail
    go_ret
    exact ⟨7, r, rfl, .over HX.out HY.out HXY.out (.inl HX3.out), RefTo.refl HM.out⟩
  have e2 : (r.stOf x == 3) = false := by simpa using x3
  have HX3 := Lib.hid x3
  clear x3
  go_wp2_with fail
  refine HSX.out.mono ?_
  rintro e w' ⟨rfl, rfl⟩
  by_cases x4 : r.stOf x = 4
  · have e3 : (r.stOf x == 4) = true := by simp [x4]
    have HX4 := Lib.hid x4
    clear x4
    go_wp2_with fail
    go_ret
    exact ⟨7, r, rfl, .over HX.out HY.out HXY.out (.inr HX4.out), RefTo.refl HM.out⟩
  have e3 : (r.stOf x == 4) = false := by simpa using x4
  have HXN := Lib.hid (show ¬ (r.stOf x = 3 ∨ r.stOf x = 4) from fun h => h.elim HX3.out x4)
  clear x4 HX3
  go_wp2_with fail
  refine HSY.out.mono ?_
  rintro e w' ⟨rfl, rfl⟩
  by_cases y3 : r.stOf y = 3
  · have e4 : (r.stOf y == 3) = true := by simp [y3]
    have HY3 := Lib.hid y3
    clear y3
    go_wp2_with fail
    go_ret
    exact ⟨0, r, rfl, .had HX.out HY.out HXY.out HXN.out (.inl HY3.out), RefTo.refl HM.out⟩
  have e4 : (r.stOf y == 3) = false := by simpa using y3
  have HY3 := Lib.hid y3
  clear y3
  go_wp2_with fail
  refine HW.out.mono ?_
  rintro e w' ⟨b, rfl, hb, rfl⟩
  have HB := Lib.hid hb
  clear hb
  rcases Bool.eq_false_or_eq_true b with rfl | rfl
  · go_wp2_with fail
    go_ret
    exact ⟨0, r, rfl, .had HX.out HY.out HXY.out HXN.out (.inr (HB.out.1 trivial)), RefTo.refl HM.out⟩
  have HN := Lib.hid (show ¬ (r.stOf y = 3 ∨ (r.bond x y ∧ r.stOf y ≠ 3)) from fun h => h.elim HY3.out (fun h => by have := HB.out.2 h; simp at this))
  clear HB HY3
  go_wp2_with fail
  refine HSY.out.mono ?_
  rintro e w' ⟨rfl, rfl⟩
  by_cases y4 : r.stOf y = 4
  · have e5 : (r.stOf y == 4) = true := by simp [y4]
    have HY4 := Lib.hid y4
    clear y4
    go_wp2_with fail
    refine HDO.out.mono ?_
    rintro e w3 ⟨v, l, r', rfl, -, hl, -, hm3, hd, hmod⟩
    have H3 := Lib.hid (And.intro (show RDoom r x r' from ⟨l, hl, hd⟩) (RefTo.doom hm3 hmod))
    clear hl hm3 hd hmod HM HDO HRE HSX HSY HW
    go_wp2_with fail
    go_ret
    exact ⟨0, r', rfl, .late HX.out HY.out HXY.out HXN.out HN.out HY4.out H3.out.1, H3.out.2⟩
  have e5 : (r.stOf y == 4) = false := by simpa using y4
  have HY4 := Lib.hid y4
  clear y4
  go_wp2_with fail
  refine HRE.out.mono ?_
  rintro e w3 ⟨v, l, rfl, hl, hml, hll, hb⟩
  obtain ⟨va, vc, rfl, v1, v2⟩ := hl.form
  have HL := Lib.hid hl
  have HML := Lib.hid hml
  have HV := Lib.hid v2
  have HB3 := Lib.hid hb
  have HM3 := Lib.hid (HM.out.below hb)
  have HS3 := Lib.hid (rb_state (HM.out.below hb) y)
  have HD3 := Lib.hid (rb_doom (HM.out.below hb) x)
  clear hl hml hb v2 HRE HDO HSX HSY HW HM
  go_wp2_with fail
  go_loopg [8] l.length (fun kx jv wr => ∃ (i : Nat), jv = .int .i64 (i : Int) ∧ i ≤ l.length ∧ l.length - i ≤ kx ∧ Hid (∀ j, j < i → l.getD j 0 ≠ x) ∧ wr = w3)
  case atStart => exact ⟨0, rfl, Nat.zero_le _, by omega, Lib.hid (fun j hj => by omega), rfl⟩
  case round =>
    obtain ⟨i, rfl, hi, hix, HNO, rfl⟩ := hrel
    have q3 : (0 : Int) ≤ (i : Int) := by omega
    by_cases hlt : i < l.length
    · have q4 : (i : Int) < (l.length : Int) := by omega
      obtain ⟨gv, go2, rfl⟩ := HV.out i hlt
      have d2 := HL.out.at_ hlt
      by_cases hix2 : l.getD i 0 = x
      · have e6 : (l.getD i 0 == x) = true := by rw [beq_iff_eq]; exact hix2
        have HWY := Lib.hid ((HML.out x).1 (hix2 ▸ get_mem hlt)).1
        clear hix2 HNO
        generalize l.getD i 0 = z at *
        go_wp2_with fail
        go_ret
        exact ⟨17, r, rfl, .loop HX.out HY.out HXY.out HXN.out HN.out HY4.out HWY.out, RefTo.quiet HM3.out HB3.out⟩
      · have e6 : (l.getD i 0 == x) = false := by simpa using hix2
        have HNO2 := Lib.hid (show ∀ j, j < i + 1 → l.getD j 0 ≠ x from fun j hj => by
          by_cases h : j = i
          · rw [h]; exact hix2
          · exact HNO.out j (by omega))
        clear hix2 HNO
        generalize l.getD i 0 = z at *
        go_wp2_with fail
        go_roundg (l.length - (i + 1))
        case rel => exact ⟨i + 1, by go_num, by omega, by omega, HNO2, rfl⟩
        case measure => omega
    · obtain rfl : i = l.length := by omega
      have HNW := Lib.hid (show ¬ r.Way y x from fun hw => by
        by_cases e : x = y
        · exact HXY.out e
        · obtain ⟨j, hj, e2⟩ := mem_get ((HML.out x).2 ⟨hw, e⟩)
          exact HNO.out j hj e2)
      clear HNO HL HML HV hlt hix hi
      go_wp2_with fail
      refine HS3.out.mono ?_
      rintro e w' ⟨rfl, rfl⟩
      by_cases y2 : r.stOf y = 2
      · have e6 : (r.stOf y == 2) = true := by simp [y2]
        have HY2 := Lib.hid y2
        clear y2
        go_wp2_with fail
        refine HD3.out.mono ?_
        rintro e w4 ⟨v, l4, r1, rfl, -, hl, -, hm4, hd, hmod⟩
        have HRT := Lib.hid (show Mod (RM.F c iv sv fv tv) w w4 from (Mod.of_below (F := RM.F c iv sv fv tv) HB3.out).next hmod (fun g h => .inl (.inr (.inr (.inl h)))))
        have HRS := Lib.hid (show (r.stOf y = 2 → RDoom r x r1) ∧ (r.stOf y ≠ 2 → r1 = r) from ⟨fun _ => ⟨l4, hl, hd⟩, fun h => absurd HY2.out h⟩)
        have HK1 := Lib.hid (show r1.fr.length < 100000 ∧ r1.ids = r.ids from ⟨by rw [hd.fr]; exact hsm, hd.ids⟩)
        have HM4 := Lib.hid hm4
        clear hl hm4 hd hmod HM3 HD3 HS3 HB3 HY2
        obtain ⟨t1c, -, t3c, t4c⟩ := HM4.out.cells
        have ft := HM4.out.top
        have hrl : r1.fr.length + 1 ≤ 1099511627776 := by have := HK1.out.1; omega
        have hrl2 : r1.tt.length + 1 ≤ 1099511627776 := by rw [HM4.out.ok.tlen]; exact hrl
        go_wp2_with (at_builtin; refine walk_append (zero := .int .i64 0) (base := 0) (n := r1.fr.length) (m := 1) (xs := r1.fr.map (Value.int .i64)) (ys := [.int .i64 x]) rfl (.tmp 80) (.tmp 82) rfl Try.underlying25 info_int rfl Nat.zero_lt_one (Nat.le_of_ble_eq_true rfl) rfl (World.ownsRow.alloc HM4.out.of _) rfl (SrcAt.one (blk_at (by simp))) (ints_one .i64 [_]) hrl (Nat.zero_le _) ?_)
        intro v5 w5 hA
        obtain ⟨a5, b5, rfl⟩ := hA.val
        have t5 := (app_core (l := r1.fr) ((Mod.refl _ _).alloc _) hA).2.1.keep ft HM4.out.cf
        have H5 := Lib.hid (HM4.out.toRC.app2 ((Mod.refl _ _).alloc _) hA)
        have d5 := blk_cell t5 2
        have f5 := blk_free t5 2
        have d6 := blk_cell t5 3
        simp at d5 d6
        clear hA t5 ft t1c t3c t4c
        have t6 := H5.out.1.top
        go_wp2_with (at_builtin; refine walk_append (zero := .int .i64 0) (base := 0) (n := r1.tt.length) (m := 1) (xs := r1.tt.map (Value.int .i64)) (ys := [.int .i64 y]) rfl (.tmp 90) (.tmp 92) rfl Try.underlying25 info_int rfl Nat.zero_lt_one (Nat.le_of_ble_eq_true rfl) rfl (World.ownsRow.alloc H5.out.1.ot _) rfl (SrcAt.one (blk_at (by simp))) (ints_one .i64 [_]) hrl2 (Nat.zero_le _) ?_)
        intro v7 w7 hA
        obtain ⟨a7, b7, rfl⟩ := hA.val
        have t7 := (app_core (l := r1.tt) ((Mod.refl _ _).alloc _) hA).2.1.keep t6 H5.out.1.ct
        have H7 := Lib.hid (H5.out.1.app3 ((Mod.refl _ _).alloc _) hA)
        have d7 := blk_cell t7 3
        have f7 := blk_free t7 3
        simp at d7
        clear hA t7 t6 d6 d5 f5
        go_wp2_with fail
        go_ret
        exact ⟨0, rfl, r1.bind x y, .put HX.out HY.out HXY.out HXN.out HN.out HY4.out HNW.out HRS.out.1 HRS.out.2, RefTo.three HRT.out H5.out.2 H7.out.2 { H7.out.1 with ok := bind_ok HM4.out.ok (by rw [HK1.out.2]; exact HY.out) HK1.out.1 }⟩
      · have e6 : (r.stOf y == 2) = false := by simpa using y2
        have HRT := Lib.hid (show Mod (RM.F c iv sv fv tv) w wr from Mod.of_below HB3.out)
        have HRS := Lib.hid (show (r.stOf y = 2 → RDoom r x r) ∧ (r.stOf y ≠ 2 → r = r) from ⟨fun h => absurd h y2, fun _ => rfl⟩)
        have HK1 := Lib.hid (show r.fr.length < 100000 ∧ r.ids = r.ids from ⟨hsm, rfl⟩)
        have HM4 := HM3
        clear HM3 HD3 HS3 HB3 y2
        obtain ⟨t1c, -, t3c, t4c⟩ := HM4.out.cells
        have ft := HM4.out.top
        have hrl : r.fr.length + 1 ≤ 1099511627776 := by have := HK1.out.1; omega
        have hrl2 : r.tt.length + 1 ≤ 1099511627776 := by rw [HM4.out.ok.tlen]; exact hrl
        go_wp2_with (at_builtin; refine walk_append (zero := .int .i64 0) (base := 0) (n := r.fr.length) (m := 1) (xs := r.fr.map (Value.int .i64)) (ys := [.int .i64 x]) rfl (.tmp 80) (.tmp 82) rfl Try.underlying25 info_int rfl Nat.zero_lt_one (Nat.le_of_ble_eq_true rfl) rfl (World.ownsRow.alloc HM4.out.of _) rfl (SrcAt.one (blk_at (by simp))) (ints_one .i64 [_]) hrl (Nat.zero_le _) ?_)
        intro v5 w5 hA
        obtain ⟨a5, b5, rfl⟩ := hA.val
        have t5 := (app_core (l := r.fr) ((Mod.refl _ _).alloc _) hA).2.1.keep ft HM4.out.cf
        have H5 := Lib.hid (HM4.out.toRC.app2 ((Mod.refl _ _).alloc _) hA)
        have d5 := blk_cell t5 2
        have f5 := blk_free t5 2
        have d6 := blk_cell t5 3
        simp at d5 d6
        clear hA t5 ft t1c t3c t4c
        have t6 := H5.out.1.top
        go_wp2_with (at_builtin; refine walk_append (zero := .int .i64 0) (base := 0) (n := r.tt.length) (m := 1) (xs := r.tt.map (Value.int .i64)) (ys := [.int .i64 y]) rfl (.tmp 90) (.tmp 92) rfl Try.underlying25 info_int rfl Nat.zero_lt_one (Nat.le_of_ble_eq_true rfl) rfl (World.ownsRow.alloc H5.out.1.ot _) rfl (SrcAt.one (blk_at (by simp))) (ints_one .i64 [_]) hrl2 (Nat.zero_le _) ?_)
        intro v7 w7 hA
        obtain ⟨a7, b7, rfl⟩ := hA.val
        have t7 := (app_core (l := r.tt) ((Mod.refl _ _).alloc _) hA).2.1.keep t6 H5.out.1.ct
        have H7 := Lib.hid (H5.out.1.app3 ((Mod.refl _ _).alloc _) hA)
        have d7 := blk_cell t7 3
        have f7 := blk_free t7 3
        simp at d7
        clear hA t7 t6 d6 d5 f5
        go_wp2_with fail
        go_ret
        exact ⟨0, rfl, r.bind x y, .put HX.out HY.out HXY.out HXN.out HN.out HY4.out HNW.out HRS.out.1 (fun _ => rfl), RefTo.three HRT.out H5.out.2 H7.out.2 { H7.out.1 with ok := bind_ok HM4.out.ok HY.out hsm }⟩
end
end Go.Proofs.Ytbihfjehlbaahaa
