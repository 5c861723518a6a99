/- The document's bonds: Good. -/
import Derived.Test.YtbihfjehlbaahaaJS
namespace Go.Proofs.Ytbihfjehlbaahaa
open Go.RowKit
/-- Those of the first i that answer p. -/
def Upto (ids : List Int) (i : Nat) (p : Int → Prop) (x : Int) : Prop := (∃ j, j < i ∧ ids.getD j 0 = x) ∧ p x
theorem up_nil (ids : List Int) (p : Int → Prop) : Rise [] (Upto ids 0 p) := ⟨List.Pairwise.nil, fun y => ⟨fun h => by simp at h, fun ⟨⟨j, hj, _⟩, _⟩ => by omega⟩⟩
theorem up_skip {ids O : List Int} {i : Nat} {p : Int → Prop} (h : Rise O (Upto ids i p)) (hn : ¬ p (ids.getD i 0)) : Rise O (Upto ids (i + 1) p) := ⟨h.1, fun y => by
  rw [h.2 y]
  refine ⟨fun ⟨⟨j, hj, g⟩, k⟩ => ⟨⟨j, by omega, g⟩, k⟩, fun ⟨⟨j, hj, g⟩, k⟩ => ⟨⟨j, ?_, g⟩, k⟩⟩
  by_cases hji : j = i
  · subst hji
    rw [g] at hn
    exact absurd k hn
  · omega⟩
theorem up_put {ids O O' : List Int} {i : Nat} {p : Int → Prop} (h : Rise O (Upto ids i p)) (hp : p (ids.getD i 0)) (hq : Puts O (ids.getD i 0) O') : Rise O' (Upto ids (i + 1) p) := ⟨hq.up, fun y => by
  rw [hq.mem y, h.2 y]
  constructor
  · rintro (⟨⟨j, hj, g⟩, k⟩ | rfl)
    · exact ⟨⟨j, by omega, g⟩, k⟩
    · exact ⟨⟨i, by omega, rfl⟩, hp⟩
  · rintro ⟨⟨j, hj, g⟩, k⟩
    by_cases hji : j = i
    · subst hji; exact .inr g.symm
    · exact .inl ⟨⟨j, by omega, g⟩, k⟩⟩
theorem up_end {ids O : List Int} {p : Int → Prop} (h : Rise O (Upto ids ids.length p)) : Rise O (fun x => x ∈ ids ∧ p x) := ⟨h.1, fun y => by
  rw [h.2 y]
  exact ⟨fun ⟨⟨j, hj, g⟩, k⟩ => ⟨g ▸ get_mem hj, k⟩, fun ⟨h0, k⟩ => by obtain ⟨j, hj, g⟩ := mem_get h0; exact ⟨⟨j, hj, g⟩, k⟩⟩⟩
section
variable {w w1 : World} {c : Nat} {iv sv fv tv : Value} {r : RS}
/-- The document's bonds once one stands elsewhere. -/
structure RSet (r : RS) (x v : Int) (r' : RS) : Prop where
  ids : r'.ids = r.ids
  fr : r'.fr = r.fr
  tt : r'.tt = r.tt
  st : ∀ y, r'.stOf y = if y = x then v else r.stOf y
theorem put_set (h : r.ok) {n : Nat} {x : Int} (hn : n < r.ids.length) (hx : r.ids.getD n 0 = x) (v : Int) : RSet r x v (r.put n v) := ⟨rfl, rfl, rfl, fun y => by rw [put_st h hn, hx]⟩
def RS.freed (r : RS) (x z : Int) : Prop := (r.stOf z = 1 ∨ r.stOf z = 2) ∧ r.step z x ∧ ∃ L, Rise L (r.step z) ∧ L.length = 1
inductive RGood (r : RS) (x : Int) : Int → List Int → RS → Prop
  | none : x ∉ r.ids → RGood r x 11 [] r
  | over : x ∈ r.ids → r.stOf x ≠ 1 → RGood r x 7 [] r
  | wait {z} : x ∈ r.ids → r.stOf x = 1 → r.step x z → RGood r x 18 [] r
  | good {l r'} : x ∈ r.ids → r.stOf x = 1 → (∀ z, ¬ r.step x z) → Rise l (fun z => z ∈ r.ids ∧ r.freed x z) → RSet r x 3 r' → RGood r x 0 l r'
def RowDone (w : World) (c : Nat) (iv sv fv tv : Value) (Q : Int → List Int → RS → Prop) (e : Ending) (w' : World) : Prop := ∃ v l n r', e = .returned (.tuple #[v, .int .i64 n]) ∧ Owned .i64 3 w' v l ∧ (∀ g, v.ownBlock = some g → w.heap.size ≤ g) ∧ Q n l r' ∧ RM w' c iv sv fv tv r' ∧ Mod (fun g => sv.ownBlock = some g) w w'
theorem RowDone.no {Q : Int → List Int → RS → Prop} {w' : World} {n : Int} (h : RM w' c iv sv fv tv r) (hb : Below w.heap.size w w') (hq : Q n [] r) : RowDone w c iv sv fv tv Q (.returned (.tuple #[.slice none 0 0, .int .i64 n])) w' :=
  ⟨_, [], n, r, rfl, Owned.nil _ _ _, fun g hg => by simp [Value.ownBlock] at hg, hq, h, Mod.of_below hb⟩

set_option maxRecDepth 100000 in
set_option maxHeartbeats 12800000 in
theorem rb_good (h : RM w c iv sv fv tv r) (x : Int) :
    Calls Try.prog 27 #[.pointer (some ⟨c, 0, none⟩), .int .i64 x] w (RowDone w c iv sv fv tv (RGood r x)) := by
  obtain ⟨ia, ic, hiv, i1, -, -⟩ := h.oi.form
  obtain ⟨sa, sc, hsv, s1, -, -⟩ := h.os.form
  subst hiv hsv
  have HI := Lib.hid (own_some h.oi)
  have HSS := Lib.hid (own_some h.os)
  have HR := Lib.hid (fun W (hb : Below w.heap.size w W) => h.below hb)
  have HK := Lib.hid h.ok
  have HSL := Lib.hid h.ok.slen
  have HAX := Lib.hid (rb_at h x)
  have HSX := Lib.hid (rb_state h x)
  have HFX := Lib.hid (rb_for h x)
  have hfew := h.ok.few
  clear h
  go_enter Try.func27, Try.ntmps27
  go_wp2_with fail
  refine HAX.out.mono ?_
  rintro e w' ⟨rfl, ⟨rfl, hnx⟩ | ⟨n, hn, rfl, hxn⟩⟩
  · go_wp2_with fail
    go_ret2
    exact RowDone.no (HR.out _ (Below.refl _ _)) (Below.refl _ _) (.none hnx)
  have HN := Lib.hid hxn
  have HX := Lib.hid (show x ∈ r.ids from hxn ▸ get_mem hn)
  clear hxn HAX
  go_wp2_with fail
  refine HSX.out.mono ?_
  rintro e w' ⟨rfl, rfl⟩
  by_cases hx1 : r.stOf x = 1
  rotate_left
  · have e1 : (r.stOf x != 1) = true := by simpa using hx1
    have HX1 := Lib.hid hx1
    clear hx1
    go_wp2_with fail
    go_ret2
    exact RowDone.no (HR.out _ (Below.refl _ _)) (Below.refl _ _) (.over HX.out HX1.out)
  have e1 : (r.stOf x != 1) = false := by simp [hx1]
  have HX1 := Lib.hid hx1
  clear hx1 HSX
  go_wp2_with fail
  refine HFX.out.mono ?_
  rintro e w1 ⟨v, l, rfl, hl, hri, hb, -⟩
  obtain ⟨va, vc, rfl, -, -, -⟩ := hl.form
  have HB1 := Lib.hid hb
  by_cases hl0 : 0 < l.length
  · have q1 : (0 : Int) < (l.length : Int) := by omega
    have HZ := Lib.hid ((hri.2 _).1 (get_mem hl0))
    clear hl hri hb HFX
    go_wp2_with fail
    go_ret2
    exact RowDone.no (HR.out _ HB1.out) HB1.out (.wait HX.out HX1.out HZ.out)
  have HNZ := Lib.hid (show ∀ z, ¬ r.step x z from fun z hz => by
    have := (hri.2 z).2 hz
    rw [List.length_eq_zero_iff.1 (show l.length = 0 by omega)] at this
    simp at this)
  have hl1 : l = [] := List.length_eq_zero_iff.1 (by omega)
  subst hl1
  clear hl hri hb HFX hl0
  go_wp2_with fail
  go_loopg [6, 7, 8] r.ids.length (fun kx ov jv _ wr => ∃ (i : Nat) (O : List Int), jv = .int .i64 (i : Int) ∧ i ≤ r.ids.length ∧ r.ids.length - i ≤ kx ∧ O.length ≤ i ∧ Hid (Owned .i64 3 wr ov O ∧ (∀ g, ov.ownBlock = some g → w.heap.size ≤ g) ∧ Below w.heap.size w wr) ∧ Hid (Rise O (Upto r.ids i (r.freed x))))
  case atStart => exact ⟨0, [], rfl, Nat.zero_le _, by omega, Nat.le_refl _, Lib.hid ⟨Owned.nil _ _ _, fun g hg => by simp [Value.ownBlock] at hg, HB1.out⟩, Lib.hid (up_nil _ _)⟩
  case round =>
    obtain ⟨i, O, rfl, hi, hix, hOl, HM, HO⟩ := hrel
    have hR := HR.out wr HM.out.2.2
    obtain ⟨c0, c1, -, -⟩ := hR.cells
    have q0 : (0 : Int) ≤ (i : Int) := by omega
    clear HB1
    by_cases hlt : i < r.ids.length
    · have q2 : (i : Int) < (r.ids.length : Int) := by omega
      have hlt2 : i < r.st.length := by rw [HSL.out]; exact hlt
      have q3 : (i : Int) < (r.st.length : Int) := by omega
      obtain ⟨g, rfl⟩ := HI.out i hlt
      obtain ⟨sg, rfl⟩ := HSS.out i hlt2
      have d1 := hR.oi.at_ hlt
      have d2 := hR.os.at_ hlt2
      have hls : r.stOf (r.ids.getD i 0) = r.st.getD i 0 := lookS_at HK.out.nodup HK.out.slen hlt rfl
      have HDI := Lib.hid (fun W (hb : Below w.heap.size w W) => (HR.out W hb).oi.at_ hlt)
      have HWA := Lib.hid (rb_waits hR (r.ids.getD i 0) x)
      have HFZ := Lib.hid (rb_for hR (r.ids.getD i 0))
      have HSK := Lib.hid (fun (e : ¬ r.freed x (r.ids.getD i 0)) => up_skip HO.out e)
      have HPT := Lib.hid (fun (e : r.freed x (r.ids.getD i 0)) O' (hq : Puts O (r.ids.getD i 0) O') => up_put HO.out e hq)
      have HUP := Lib.hid HO.out.1
      rw [← hls] at d2
      clear hls hR HO
      generalize r.ids.getD i 0 = z at *
      obtain ⟨M, hM⟩ : ∃ M : Nat, M = gk := ⟨_, rfl⟩
      rw [← hM] at hix
      by_cases z1 : r.stOf z = 1
      · have e2 : (r.stOf z == 1) = true := by simp [z1]
        have HZ1 := Lib.hid (show r.stOf z = 1 ∨ r.stOf z = 2 from .inl z1)
        clear z1
        go_wp2_with fail
        refine HWA.out.mono ?_
        rintro e w' ⟨b, rfl, hb, rfl⟩
        have HB := Lib.hid hb
        clear hb
        rcases Bool.eq_false_or_eq_true b with rfl | rfl
        · have HSTEP := Lib.hid (show r.step z x from HB.out.1 rfl)
          go_wp2_with fail
          refine HFZ.out.mono ?_
          rintro e w3 ⟨v, l, rfl, hl, hri, hb, -⟩
          obtain ⟨va, vc, rfl, -, -, -⟩ := hl.form
          have HB3 := Lib.hid (bl_next HM.out.2.2 hb)
          have hM3 : Owned .i64 3 w3 u6 O := HM.out.1.mod (Mod.of_below (F := fun _ => False) hb) (fun _ _ h => h)
          have HN3 := Lib.hid HM.out.2.1
          have c0' := (HR.out w3 HB3.out).cells.1
          have d1' := HDI.out w3 HB3.out
          have HRL := Lib.hid hri
          by_cases hl1 : l.length = 1
          · have e4 : ((l.length : Int) == 1) = true := by rw [hl1]; rfl
            have HO2 := Lib.hid (fun O' hq => HPT.out ⟨HZ1.out, HSTEP.out, l, HRL.out, hl1⟩ O' hq)
            have HPU := Lib.hid (put_any hM3 HUP.out (by omega) z)
            clear hl hri hb HM HSK HPT HFZ HWA HDI HRL hl1 hM3
            go_wp2_with fail
            refine HPU.out.mono ?_
            rintro e w5 ⟨v', O', rfl, hO', hp, hb, hn5⟩
            have HO3 := Lib.hid (HO2.out O' hp)
            have hlen := hp.len
            have HM2 := Lib.hid (show Owned .i64 3 w5 v' O' ∧ (∀ g, v'.ownBlock = some g → w.heap.size ≤ g) ∧ Below w.heap.size w w5 from ⟨hO', fun g hg => by
              rcases hn5 g hg with h | h
              · exact HN3.out g h
              · have := HB3.out.size; omega, bl_next HB3.out hb⟩)
            clear hO' hp hb hn5 HPU HO2
            go_wp2_with fail
            go_roundg (r.ids.length - (i + 1))
            case rel => exact ⟨i + 1, O', by go_num, by omega, by omega, by omega, HM2, HO3⟩
            case measure => omega
          · have e4 : ((l.length : Int) == 1) = false := by rw [beq_eq_false_iff_ne]; omega
            have HO2 := Lib.hid (HSK.out (fun h => by
              obtain ⟨L, hL, hL1⟩ := h.2.2
              exact hl1 (by rw [HRL.out.eq hL (fun _ => Iff.rfl)]; exact hL1)))
            have HM2 := Lib.hid (And.intro hM3 (And.intro HN3.out HB3.out))
            clear hl hri hb HM HSK HPT HFZ HWA HDI HRL hl1 hM3
            go_wp2_with fail
            go_roundg (r.ids.length - (i + 1))
            case rel => exact ⟨i + 1, O, by go_num, by omega, by omega, by omega, HM2, HO2⟩
            case measure => omega
        · have HO2 := Lib.hid (HSK.out (fun h => by have := HB.out.2 h.2.1; simp at this))
          clear HSK HPT HFZ HWA HDI HB
          go_wp2_with fail
          go_roundg (r.ids.length - (i + 1))
          case rel => exact ⟨i + 1, O, by go_num, by omega, by omega, by omega, HM, HO2⟩
          case measure => omega
      · have e2 : (r.stOf z == 1) = false := by simpa using z1
        by_cases z2 : r.stOf z = 2
        · have e3 : (r.stOf z == 2) = true := by simp [z2]
          have HZ1 := Lib.hid (show r.stOf z = 1 ∨ r.stOf z = 2 from .inr z2)
          clear z1 z2
          go_wp2_with fail
          refine HWA.out.mono ?_
          rintro e w' ⟨b, rfl, hb, rfl⟩
          have HB := Lib.hid hb
          clear hb
          rcases Bool.eq_false_or_eq_true b with rfl | rfl
          · have HSTEP := Lib.hid (show r.step z x from HB.out.1 rfl)
            go_wp2_with fail
            refine HFZ.out.mono ?_
            rintro e w3 ⟨v, l, rfl, hl, hri, hb, -⟩
            obtain ⟨va, vc, rfl, -, -, -⟩ := hl.form
            have HB3 := Lib.hid (bl_next HM.out.2.2 hb)
            have hM3 : Owned .i64 3 w3 u6 O := HM.out.1.mod (Mod.of_below (F := fun _ => False) hb) (fun _ _ h => h)
            have HN3 := Lib.hid HM.out.2.1
            have c0' := (HR.out w3 HB3.out).cells.1
            have d1' := HDI.out w3 HB3.out
            have HRL := Lib.hid hri
            by_cases hl1 : l.length = 1
            · have e4 : ((l.length : Int) == 1) = true := by rw [hl1]; rfl
              have HO2 := Lib.hid (fun O' hq => HPT.out ⟨HZ1.out, HSTEP.out, l, HRL.out, hl1⟩ O' hq)
              have HPU := Lib.hid (put_any hM3 HUP.out (by omega) z)
              clear hl hri hb HM HSK HPT HFZ HWA HDI HRL hl1 hM3
              go_wp2_with fail
              refine HPU.out.mono ?_
              rintro e w5 ⟨v', O', rfl, hO', hp, hb, hn5⟩
              have HO3 := Lib.hid (HO2.out O' hp)
              have hlen := hp.len
              have HM2 := Lib.hid (show Owned .i64 3 w5 v' O' ∧ (∀ g, v'.ownBlock = some g → w.heap.size ≤ g) ∧ Below w.heap.size w w5 from ⟨hO', fun g hg => by
                rcases hn5 g hg with h | h
                · exact HN3.out g h
                · have := HB3.out.size; omega, bl_next HB3.out hb⟩)
              clear hO' hp hb hn5 HPU HO2
              go_wp2_with fail
              go_roundg (r.ids.length - (i + 1))
              case rel => exact ⟨i + 1, O', by go_num, by omega, by omega, by omega, HM2, HO3⟩
              case measure => omega
            · have e4 : ((l.length : Int) == 1) = false := by rw [beq_eq_false_iff_ne]; omega
              have HO2 := Lib.hid (HSK.out (fun h => by
                obtain ⟨L, hL, hL1⟩ := h.2.2
                exact hl1 (by rw [HRL.out.eq hL (fun _ => Iff.rfl)]; exact hL1)))
              have HM2 := Lib.hid (And.intro hM3 (And.intro HN3.out HB3.out))
              clear hl hri hb HM HSK HPT HFZ HWA HDI HRL hl1 hM3
              go_wp2_with fail
              go_roundg (r.ids.length - (i + 1))
              case rel => exact ⟨i + 1, O, by go_num, by omega, by omega, by omega, HM2, HO2⟩
              case measure => omega
          · have HO2 := Lib.hid (HSK.out (fun h => by have := HB.out.2 h.2.1; simp at this))
            clear HSK HPT HFZ HWA HDI HB
            go_wp2_with fail
            go_roundg (r.ids.length - (i + 1))
            case rel => exact ⟨i + 1, O, by go_num, by omega, by omega, by omega, HM, HO2⟩
            case measure => omega
        · have e3 : (r.stOf z == 2) = false := by simpa using z2
          have HO2 := Lib.hid (HSK.out (fun h => h.1.elim z1 z2))
          clear HSK HPT HFZ HWA HDI z1 z2
          go_wp2_with fail
          go_roundg (r.ids.length - (i + 1))
          case rel => exact ⟨i + 1, O, by go_num, by omega, by omega, by omega, HM, HO2⟩
          case measure => omega
    · obtain rfl : i = r.ids.length := by omega
      have HO2 := Lib.hid (up_end HO.out)
      have hn2 : n < r.st.length := by rw [HSL.out]; exact hn
      obtain ⟨sg, rfl⟩ := HSS.out n hn2
      have HPUT := Lib.hid (hR.put hn 3)
      have HRS := Lib.hid (put_set HK.out hn HN.out 3)
      have dn := hR.os.at_ hn2
      have fz : wr.frozen? ⟨sg, n, none⟩ = false := by
        rcases hR.os.2 with ⟨_, h0⟩ | ⟨g', cap', cur, hv, hg, hh, _⟩
        · omega
        · simp only [Value.slice.injEq, Option.some.injEq, Addr.mk.injEq, and_true] at hv
          obtain ⟨rfl, -, -⟩ := hv
          exact blk_free hh n
      have HAT := Lib.hid (fun (W : World) (hm : Mod (fun _ => False) wr W) => rb_at_in (hR.mod hm (fun _ _ h => h)) hn HN.out)
      have p1 : (0 : Int) ≤ (n : Int) := by omega
      have p2 : (n : Int) < (r.st.length : Int) := by omega
      have HSO := Lib.hid (HR.out w (Below.refl _ _)).os.lt
      clear HO hlt hix hi hR hn hn2
      go_wp2_with fail
      go_region_law (first | (go_simp; go_at_call 55; refine (HAT.out _ (by first | exact (Mod.refl _ _).drew | exact Mod.refl _ _)).mono ?_; rintro e w' ⟨rfl, rfl⟩))
      all_goals
        have HR3 := Lib.hid (HPUT.out.mod (w1 := (wr.setCell ⟨sg, n, none⟩ (.int .i64 3)).drew) (Mod.refl (fun _ => False) _).drew (fun _ _ h => h))
        have HM3 := Lib.hid (show Mod (fun g => (Value.slice (some ⟨sg, 0, none⟩) r.st.length sc).ownBlock = some g) w (wr.setCell ⟨sg, n, none⟩ (.int .i64 3)).drew from ((Mod.of_below (F := fun g => (Value.slice (some ⟨sg, 0, none⟩) r.st.length sc).ownBlock = some g) HM.out.2.2).setCell (p := ⟨sg, n, none⟩) (.inl rfl) _).drew)
        have HO3 := Lib.hid (Owned.mod (w1 := (wr.setCell ⟨sg, n, none⟩ (.int .i64 3)).drew) HM.out.1 (F := fun g => g = sg) ((Mod.setCell (F := fun g => g = sg) (Mod.refl _ wr) (p := ⟨sg, n, none⟩) (.inl rfl) _).drew) (fun g hg e => by
          have := HM.out.2.1 g hg
          have := HSO.out sg rfl
          omega))
        clear HPUT HAT dn fz
        go_wp2_with fail
        go_ret2
        exact ⟨_, O, 0, r.put n 3, rfl, HO3.out, HM.out.2.1, .good HX.out HX1.out HNZ.out HO2.out HRS.out, HR3.out, HM3.out⟩
end
end Go.Proofs.Ytbihfjehlbaahaa
