/- The document's bonds: Bad. -/
import Derived.Test.YtbihfjehlbaahaaJT
namespace Go.Proofs.Ytbihfjehlbaahaa
open Go.RowKit
section
variable {w w1 : World} {c : Nat} {iv sv fv tv : Value} {r : RS}
inductive RBad (r : RS) (x : Int) : Int → List Int → RS → Prop
  | none : x ∉ r.ids → RBad r x 11 [] r
  | over : x ∈ r.ids → (r.stOf x = 3 ∨ r.stOf x = 4) → RBad r x 7 [] r
  | bad {l r1 r'} : x ∈ r.ids → ¬ (r.stOf x = 3 ∨ r.stOf x = 4) → Rise l (r.hit x) → Doomed r l r1 → RSet r1 x 4 r' → RBad r x 0 (l.filter (fun y => y != x)) r'

set_option maxRecDepth 100000 in
set_option maxHeartbeats 12800000 in
theorem rb_bad (h : RM w c iv sv fv tv r) (x : Int) :
    Calls Try.prog 28 #[.pointer (some ⟨c, 0, none⟩), .int .i64 x] w (RowDone w c iv sv fv tv (RBad r x)) := by
  obtain ⟨ia, ic, hiv, i1, -, -⟩ := h.oi.form
  obtain ⟨sa, sc, hsv, s1, -, -⟩ := h.os.form
  subst hiv hsv
  have HSS := Lib.hid (own_some h.os)
  have HM := Lib.hid h
  have HAX := Lib.hid (rb_at h x)
  have HSX := Lib.hid (rb_state h x)
  have HDO := Lib.hid (rb_doom h x)
  have HSL := Lib.hid h.ok.slen
  have HSO := Lib.hid h.os.lt
  have hfew := h.ok.few
  clear h
  go_enter Try.func28, Try.ntmps28
  go_wp2_with fail
  refine HAX.out.mono ?_
  rintro e w' ⟨rfl, ⟨rfl, hnx⟩ | ⟨n, hn, rfl, hxn⟩⟩
  · go_wp2_with fail
    go_ret2
    exact RowDone.no HM.out (Below.refl _ _) (.none hnx)
  have HN := Lib.hid hxn
  have HX := Lib.hid (show x ∈ r.ids from hxn ▸ get_mem hn)
  clear hxn HAX
  go_wp2_with fail
  refine HSX.out.mono ?_
  rintro e w' ⟨rfl, rfl⟩
  by_cases x3 : r.stOf x = 3
  · have e2 : (r.stOf x == 3) = true := by simp [x3]
    have HX3 := Lib.hid x3
    clear x3
    go_wp2_with fail
    go_ret2
    exact RowDone.no HM.out (Below.refl _ _) (.over HX.out (.inl HX3.out))
  have e2 : (r.stOf x == 3) = false := by simpa using x3
  have HX3 := Lib.hid x3
  clear x3
  go_wp2_with fail
  refine HSX.out.mono ?_
  rintro e w' ⟨rfl, rfl⟩
  by_cases x4 : r.stOf x = 4
  · have e3 : (r.stOf x == 4) = true := by simp [x4]
    have HX4 := Lib.hid x4
    clear x4
    go_wp2_with fail
    go_ret2
    exact RowDone.no HM.out (Below.refl _ _) (.over HX.out (.inr HX4.out))
  have e3 : (r.stOf x == 4) = false := by simpa using x4
  have HXN := Lib.hid (show ¬ (r.stOf x = 3 ∨ r.stOf x = 4) from fun h => h.elim HX3.out x4)
  clear x4 HX3 HSX
  go_wp2_with fail
  refine HDO.out.mono ?_
  rintro e w1 ⟨v, l, r1, rfl, hvl, hri, hvn, hm1, hd, hmod⟩
  obtain ⟨va, vc, rfl, -, -, v3⟩ := hvl.form
  have HL := Lib.hid (fun W (hb : Below w1.heap.size w1 W) => (hvl.mod (Mod.of_below (F := fun _ => False) hb) (fun _ _ h => h) : Owned .i64 3 W (.slice va l.length vc) l))
  have HVS := Lib.hid (own_some hvl)
  have hll : l.length ≤ r.ids.length := List.Nodup.length_le_of_subset (hri.1.imp (fun h => by omega)) (fun y hy => ((hri.2 y).1 hy).1)
  have HRI := Lib.hid hri
  have HD := Lib.hid hd
  have HM1 := Lib.hid (fun W (hb : Below w1.heap.size w1 W) => hm1.below hb)
  have HMOD := Lib.hid hmod
  clear hvl hri hvn hm1 hd hmod HDO v3
  go_wp2_with fail
  go_loopg [7, 8] l.length (fun kx ov jv wr => ∃ (i : Nat) (O : List Int), jv = .int .i64 (i : Int) ∧ i ≤ l.length ∧ l.length - i ≤ kx ∧ O.length ≤ i ∧ Hid (Owned .i64 3 wr ov O ∧ (∀ g, ov.ownBlock = some g → w1.heap.size ≤ g) ∧ Below w1.heap.size w1 wr) ∧ Hid (O = (l.take i).filter (fun y => y != x)))
  case atStart => exact ⟨0, [], rfl, Nat.zero_le _, by omega, Nat.le_refl _, Lib.hid ⟨Owned.nil _ _ _, fun g hg => by simp [Value.ownBlock] at hg, Below.refl _ _⟩, Lib.hid (by simp)⟩
  case round =>
    obtain ⟨i, O, rfl, hi, hix, hOl, HW, HO⟩ := hrel
    have q0 : (0 : Int) ≤ (i : Int) := by omega
    by_cases hlt : i < l.length
    · have q2 : (i : Int) < (l.length : Int) := by omega
      obtain ⟨g, rfl⟩ := HVS.out i hlt
      have d1 := (HL.out wr HW.out.2.2).at_ hlt
      have ht : l.take (i + 1) = l.take i ++ [l.getD i 0] := by
        have hg : l.getD i 0 = l[i] := by simp [List.getD_eq_getElem?_getD, hlt]
        rw [hg, List.take_succ_eq_append_getElem hlt]
      have HT := Lib.hid ht
      clear ht
      generalize l.getD i 0 = y at *
      by_cases hyx : y = x
      · have e4 : (y != x) = false := by simp [hyx]
        have HO2 := Lib.hid (show O = (l.take (i + 1)).filter (fun y => y != x) by rw [HT.out, List.filter_append, ← HO.out]; simp [hyx])
        clear hyx HO HT
        go_wp2_with fail
        go_roundg (l.length - (i + 1))
        case rel => exact ⟨i + 1, O, by go_num, by omega, by omega, by omega, HW, HO2⟩
        case measure => omega
      · have e4 : (y != x) = true := by simpa using hyx
        have HO2 := Lib.hid (show O ++ [y] = (l.take (i + 1)).filter (fun y => y != x) by rw [HT.out, List.filter_append, ← HO.out]; simp [hyx])
        have hrl : O.length + 1 ≤ 1099511627776 := by omega
        clear hyx HO HT
        obtain ⟨oa, oc, hov, -, -, -⟩ := Owned.form HW.out.1
        subst hov
        go_wp2_with (at_builtin; refine walk_append (zero := .int .i64 0) (base := 0) (n := O.length) (m := 1) (xs := O.map (Value.int .i64)) (ys := [.int .i64 y]) rfl (.tmp 40) (.tmp 45) rfl Try.underlying25 info_int rfl Nat.zero_lt_one (Nat.le_of_ble_eq_true rfl) rfl (World.ownsRow.alloc HW.out.1 _) rfl (SrcAt.one (blk_at (by simp))) (ints_one .i64 [_]) hrl (Nat.zero_le _) ?_)
        intro v8 w8 hA
        obtain ⟨B8, f8⟩ := app_new (w := w1) (bl_al HW.out.2.2 _) HW.out.2.1 hA
        have HW2 := Lib.hid (And.intro (Owned.app (ys := [y]) hA : Owned .i64 3 w8 v8 (O ++ [y])) (And.intro f8 B8))
        clear hA B8 f8 HW d1
        go_wp2_with fail
        go_roundg (l.length - (i + 1))
        case rel => exact ⟨i + 1, O ++ [y], by go_num, by omega, by omega, by simp; omega, HW2, HO2⟩
        case measure => omega
    · obtain rfl : i = l.length := by omega
      have hR := HM1.out wr HW.out.2.2
      obtain ⟨-, c1, -, -⟩ := hR.cells
      have hsl : r.st.length = r1.st.length := by rw [hR.ok.slen, HD.out.ids, HSL.out]
      have hn1 : n < r1.ids.length := by rw [HD.out.ids]; exact hn
      have hn2 : n < r.st.length := by rw [HSL.out]; exact hn
      have hx1 : r1.ids.getD n 0 = x := by rw [HD.out.ids]; exact HN.out
      obtain ⟨sg, rfl⟩ := HSS.out n hn2
      have hR2 := hR
      rw [hsl] at hR2
      have hpt := hR2.put hn1 4
      rw [← hsl] at hpt
      have HPUT := Lib.hid hpt
      have HRS := Lib.hid (put_set hR.ok hn1 hx1 4)
      have dn := hR2.os.at_ (show n < r1.st.length by rw [← hsl]; exact hn2)
      have fz : wr.frozen? ⟨sg, n, none⟩ = false := by
        rcases hR2.os.2 with ⟨_, h0⟩ | ⟨g', cap', cur, hv, hg, hh, _⟩
        · omega
        · simp only [Value.slice.injEq, Option.some.injEq, Addr.mk.injEq, and_true] at hv
          obtain ⟨rfl, -, -⟩ := hv
          exact blk_free hh n
      have HAT := Lib.hid (fun (W : World) (hm : Mod (fun _ => False) wr W) => rb_at_in (hR.mod hm (fun _ _ h => h)) hn1 hx1)
      have HOL := Lib.hid (show O = l.filter (fun y => y != x) by have := HO.out; rwa [List.take_length] at this)
      have HMW := Lib.hid (show Mod (fun g => (Value.slice (some ⟨sg, 0, none⟩) r.st.length sc).ownBlock = some g) w wr from HMOD.out.next (Mod.of_below (F := fun _ => False) HW.out.2.2) (fun _ h => h.elim))
      have p1 : (0 : Int) ≤ (n : Int) := by omega
      have p2 : (n : Int) < (r.st.length : Int) := by omega
      clear HO hlt hix hi hR hR2 hn hn1 hn2 hx1 hpt hsl
      go_wp2_with fail
      go_region_law (first | (go_simp; go_at_call 55; refine (HAT.out _ (by first | exact (Mod.refl _ _).drew | exact Mod.refl _ _)).mono ?_; rintro e w' ⟨rfl, rfl⟩))
      all_goals
        have HR3 := Lib.hid (HPUT.out.mod (w1 := (wr.setCell ⟨sg, n, none⟩ (.int .i64 4)).drew) (Mod.refl (fun _ => False) _).drew (fun _ _ h => h))
        have HM3 := Lib.hid (show Mod (fun g => (Value.slice (some ⟨sg, 0, none⟩) r.st.length sc).ownBlock = some g) w (wr.setCell ⟨sg, n, none⟩ (.int .i64 4)).drew from (HMW.out.setCell (p := ⟨sg, n, none⟩) (.inl rfl) _).drew)
        have hsz : w.heap.size ≤ w1.heap.size := HMOD.out.size
        have HO3 := Lib.hid (Owned.mod (w1 := (wr.setCell ⟨sg, n, none⟩ (.int .i64 4)).drew) HW.out.1 (F := fun g => g = sg) ((Mod.setCell (F := fun g => g = sg) (Mod.refl _ wr) (p := ⟨sg, n, none⟩) (.inl rfl) _).drew) (fun g hg e => by
          have := HW.out.2.1 g hg
          have := HSO.out sg rfl
          omega))
        clear HPUT HAT dn fz
        go_wp2_with fail
        go_ret2
        exact ⟨_, O, 0, r1.put n 4, rfl, HO3.out, fun g hg => Nat.le_trans hsz (HW.out.2.1 g hg), HOL.out ▸ .bad HX.out HXN.out HRI.out HD.out HRS.out, HR3.out, HM3.out⟩
end
end Go.Proofs.Ytbihfjehlbaahaa
