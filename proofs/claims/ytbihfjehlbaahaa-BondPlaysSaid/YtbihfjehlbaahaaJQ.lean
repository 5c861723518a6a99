/- vinculumref16: doom. -/
import Derived.Test.YtbihfjehlbaahaaJP
namespace Go.Proofs.Ytbihfjehlbaahaa
open Go.RowKit

theorem owned_set {w : World} {g n cap i : Nat} {l : List Int} (h : Owned .i64 3 w (.slice (some ⟨g, 0, none⟩) n cap) l) (hn : n = l.length) (hi : i < l.length) (v : Int) : Owned .i64 3 (w.setCell ⟨g, i, none⟩ (.int .i64 v)) (.slice (some ⟨g, 0, none⟩) n cap) (l.set i v) := by
  subst hn
  refine ⟨by simp, ?_⟩
  rcases h.2 with ⟨_, h0⟩ | ⟨g', cap', cur, hv, hg, hh, h1, h2, h3, h4⟩
  · omega
  · simp only [Value.slice.injEq, Option.some.injEq, Addr.mk.injEq, and_true] at hv
    obtain ⟨rfl, -, rfl⟩ := hv
    refine .inr ⟨g, cap, cur.setIfInBounds i (.int .i64 v), by simp, hg, blk_set hh, by simpa using h1, h2, by simpa using h3, ?_⟩
    rw [Nat.mul_one] at h4 ⊢
    simp only [List.length_set, Array.toList_setIfInBounds, List.take_set, h4, List.map_set]
def RS.put (r : RS) (n : Nat) (v : Int) : RS := ⟨r.ids, r.st.set n v, r.fr, r.tt⟩
theorem lookS_set : ∀ {is ss : List Int} {n : Nat} {x v : Int}, is.Nodup → ss.length = is.length → n < is.length → lookS is (ss.set n v) x = if x = is.getD n 0 then v else lookS is ss x
  | [], _, _, _, _, _, _, h => by simp at h
  | i :: is, [], _, _, _, _, h, _ => by simp at h
  | i :: is, s :: ss, 0, x, v, hn, _, _ => by
    simp only [List.set_cons_zero, lookS, List.getD_cons_zero]
    by_cases e : i = x
    · rw [if_pos e, if_pos e.symm]
    · rw [if_neg e, if_neg (fun h => e h.symm), if_neg e]
  | i :: is, s :: ss, n + 1, x, v, hn, hl, hlt => by
    have hc := List.nodup_cons.1 hn
    have hlt2 : n < is.length := by simpa using hlt
    have ih := lookS_set (is := is) (ss := ss) (n := n) (x := x) (v := v) hc.2 (by simpa using hl) hlt2
    simp only [List.set_cons_succ, lookS, List.getD_cons_succ]
    by_cases e : i = x
    · rw [if_pos e, if_pos e, if_neg (fun h => hc.1 (by rw [e, h]; exact get_mem hlt2))]
    · rw [if_neg e, if_neg e, ih]
theorem put_st {r : RS} (h : r.ok) {n : Nat} (hn : n < r.ids.length) (v x : Int) : (r.put n v).stOf x = if x = r.ids.getD n 0 then v else r.stOf x := lookS_set h.nodup h.slen hn
theorem put_ok {r : RS} (h : r.ok) (n : Nat) (v : Int) : (r.put n v).ok := ⟨h.nodup, by simp [RS.put, h.slen], h.tlen, h.few, h.small, h.tin⟩
section
variable {w w1 : World} {c : Nat} {iv sv fv tv : Value} {r : RS}
theorem RM.put {sg sc : Nat} (h : RM w c iv (.slice (some ⟨sg, 0, none⟩) r.st.length sc) fv tv r) {n : Nat} (hn : n < r.ids.length) (v : Int) : RM (w.setCell ⟨sg, n, none⟩ (.int .i64 v)) c iv (.slice (some ⟨sg, 0, none⟩) r.st.length sc) fv tv (r.put n v) := by
  have hm : Mod (fun g => g = sg) w (w.setCell ⟨sg, n, none⟩ (.int .i64 v)) := Mod.setCell (F := fun g => g = sg) (Mod.refl _ w) (p := ⟨sg, n, none⟩) (.inl rfl) _
  exact { h with
    top := hm.keep h.top (fun e => h.cs (by rw [e]; rfl))
    oi := h.oi.mod hm (fun g hg e => h.si g hg (by rw [e]; rfl))
    os := owned_set h.os rfl (by rw [h.ok.slen]; exact hn) v
    of := h.of.mod hm (fun g hg e => h.fs sg rfl (e ▸ hg))
    ot := h.ot.mod hm (fun g hg e => h.ts sg rfl (e ▸ hg))
    ok := put_ok h.ok n v }
theorem rb_at_in (h : RM w c iv sv fv tv r) {x : Int} {n : Nat} (hn : n < r.ids.length) (hx : r.ids.getD n 0 = x) :
    Calls Try.prog 55 #[.pointer (some ⟨c, 0, none⟩), .int .i64 x] w fun e w' => e = .returned (.int .i64 n) ∧ w = w' :=
  (rb_at h x).mono fun e w' ⟨hw, h1⟩ => by
    refine ⟨?_, hw⟩
    rcases h1 with ⟨_, hno⟩ | ⟨m, hm, he, hx2⟩
    · exact absurd (hx ▸ get_mem hn) hno
    · have h2 : r.ids[m]? = r.ids[n]? := by
        have e1 := hx2.trans hx.symm
        simp only [List.getD_eq_getElem?_getD, List.getElem?_eq_getElem hm, List.getElem?_eq_getElem hn, Option.getD_some] at e1
        rw [List.getElem?_eq_getElem hm, List.getElem?_eq_getElem hn, e1]
      have := (List.getElem?_inj hm h.ok.nodup).1 h2
      subst this
      exact he
/-- Whom doom dooms. -/
def RS.hit (r : RS) (a x : Int) : Prop := x ∈ r.ids ∧ (x = a ∨ r.Way x a) ∧ r.stOf x = 1
/-- The document's bonds once those of l are doomed. -/
structure Doomed (r : RS) (l : List Int) (r' : RS) : Prop where
  ids : r'.ids = r.ids
  fr : r'.fr = r.fr
  tt : r'.tt = r.tt
  st : ∀ x, x ∈ r.ids → r'.stOf x = if x ∈ l then 2 else r.stOf x
def DoomDone (w : World) (c : Nat) (iv sv fv tv : Value) (r : RS) (a : Int) (e : Ending) (w' : World) : Prop := ∃ v l r', e = .returned v ∧ Owned .i64 3 w' v l ∧ Rise l (r.hit a) ∧ (∀ g, v.ownBlock = some g → w.heap.size ≤ g) ∧ RM w' c iv sv fv tv r' ∧ Doomed r l r' ∧ Mod (fun g => sv.ownBlock = some g) w w'

set_option maxRecDepth 100000 in
set_option maxHeartbeats 12800000 in
theorem rb_doom (h : RM w c iv sv fv tv r) (a : Int) :
    Calls Try.prog 57 #[.pointer (some ⟨c, 0, none⟩), .int .i64 a] w (DoomDone w c iv sv fv tv r a) := by
  obtain ⟨ia, ic, hiv, i1, -, -⟩ := h.oi.form
  obtain ⟨sa, sc, hsv, s1, -, -⟩ := h.os.form
  subst hiv hsv
  have HI := Lib.hid (own_some h.oi)
  have HSS := Lib.hid (own_some h.os)
  have HR := Lib.hid (fun W (hb : Below w.heap.size w W) => h.below hb)
  have HK := Lib.hid h.ok
  have HSL := Lib.hid h.ok.slen
  have HSO := Lib.hid h.os.lt
  have hfew := h.ok.few
  clear h
  go_enter Try.func57, Try.ntmps57
  go_wp2_with fail
  go_loopg [5, 6] r.ids.length (fun kx ov jv wr => ∃ (i : Nat) (O : List Int), jv = .int .i64 (i : Int) ∧ i ≤ r.ids.length ∧ r.ids.length - i ≤ kx ∧ O.length ≤ i ∧ Hid (Owned .i64 3 wr ov O ∧ (∀ g, ov.ownBlock = some g → w.heap.size ≤ g) ∧ Below w.heap.size w wr) ∧ Hid (Rise O (fun x => (∃ j, j < i ∧ r.ids.getD j 0 = x) ∧ (x = a ∨ r.Way x a) ∧ r.stOf x = 1)))
  case atStart => exact ⟨0, [], rfl, Nat.zero_le _, by omega, Nat.le_refl _, Lib.hid ⟨Owned.nil _ _ _, fun g hg => by simp [Value.ownBlock] at hg, Below.refl _ _⟩, Lib.hid ⟨List.Pairwise.nil, fun y => ⟨fun h => by simp at h, fun ⟨⟨j, hj, _⟩, _⟩ => by omega⟩⟩⟩
  case round =>
    obtain ⟨i, O, rfl, hi, hix, hOl, HM, HO⟩ := hrel
    have hR := HR.out wr HM.out.2.2
    obtain ⟨c0, c1, -, -⟩ := hR.cells
    have q0 : (0 : Int) ≤ (i : Int) := by omega
    by_cases hlt : i < r.ids.length
    · have q1 : (i : Int) < (r.ids.length : Int) := by omega
      have hlt2 : i < r.st.length := by rw [HSL.out]; exact hlt
      have q2 : (i : Int) < (r.st.length : Int) := by omega
      obtain ⟨g, rfl⟩ := HI.out i hlt
      obtain ⟨sg, rfl⟩ := HSS.out i hlt2
      have d1 := hR.oi.at_ hlt
      have hls : r.stOf (r.ids.getD i 0) = r.st.getD i 0 := lookS_at HK.out.nodup HK.out.slen hlt rfl
      have hreach := rb_reach hR (r.ids.getD i 0)
      have HNO := Lib.hid (fun (e : ¬ ((r.ids.getD i 0 = a ∨ r.Way (r.ids.getD i 0) a) ∧ r.stOf (r.ids.getD i 0) = 1)) => (⟨HO.out.1, fun y => by
        rw [HO.out.2 y]
        refine ⟨fun ⟨⟨j, hj, g⟩, h⟩ => ⟨⟨j, by omega, g⟩, h⟩, fun ⟨⟨j, hj, g⟩, h⟩ => ⟨⟨j, ?_, g⟩, h⟩⟩
        by_cases hji : j = i
        · subst hji
          rw [g] at e
          exact absurd h e
        · omega⟩ : Rise O (fun x => (∃ j, j < i + 1 ∧ r.ids.getD j 0 = x) ∧ (x = a ∨ r.Way x a) ∧ r.stOf x = 1)))
      have HYES := Lib.hid (fun (e : (r.ids.getD i 0 = a ∨ r.Way (r.ids.getD i 0) a) ∧ r.stOf (r.ids.getD i 0) = 1) O' (hp : Puts O (r.ids.getD i 0) O') => (⟨hp.up, fun y => by
        rw [hp.mem y, HO.out.2 y]
        constructor
        · rintro (⟨⟨j, hj, g⟩, h⟩ | rfl)
          · exact ⟨⟨j, by omega, g⟩, h⟩
          · exact ⟨⟨i, by omega, rfl⟩, e⟩
        · rintro ⟨⟨j, hj, g⟩, h⟩
          by_cases hji : j = i
          · subst hji; exact .inr g.symm
          · exact .inl ⟨⟨j, by omega, g⟩, h⟩⟩ : Rise O' (fun x => (∃ j, j < i + 1 ∧ r.ids.getD j 0 = x) ∧ (x = a ∨ r.Way x a) ∧ r.stOf x = 1)))
      have HHO := Lib.hid HO.out.1
      have HREA := Lib.hid hreach
      rw [hls] at HNO HYES
      clear hR HO hreach hls
      have HST := Lib.hid (fun (W : World) (hb : Below w.heap.size w W) => (HR.out W hb).os.at_ hlt2)
      generalize r.ids.getD i 0 = x at *
      generalize r.st.getD i 0 = sx at *
      obtain ⟨M, hM⟩ : ∃ M : Nat, M = gk := ⟨_, rfl⟩
      rw [← hM] at hix
      go_wp2_with fail
      refine HREA.out.mono ?_
      rintro e w3 ⟨v, l, rfl, hl, hml, hll, hb⟩
      obtain ⟨va, vc, rfl, v1, v2⟩ := hl.form
      have HL := Lib.hid hl
      have HML := Lib.hid hml
      have HV := Lib.hid v2
      have HB3 := Lib.hid (bl_next HM.out.2.2 hb)
      have HM3 := Lib.hid (show Owned .i64 3 w3 u5 O from HM.out.1.mod (Mod.of_below (F := fun _ => False) hb) (fun _ _ h => h))
      have HN3 := Lib.hid HM.out.2.1
      clear hl hml hb v2 HREA HM c0 c1 d1 v1
      go_wp2_with fail
      go_loopg [8, 10] l.length (fun kx hv kv wr => ∃ (k : Nat) (b : Bool), hv = .bool b ∧ kv = .int .i64 (k : Int) ∧ k ≤ l.length ∧ l.length - k ≤ kx ∧ Hid (b = true ↔ x = a ∨ ∃ m, m < k ∧ l.getD m 0 = a) ∧ wr = w3)
      case atStart => exact ⟨0, (x == a), rfl, rfl, Nat.zero_le _, by omega, Lib.hid (by rw [beq_iff_eq]; exact ⟨.inl, fun h => h.resolve_right (fun ⟨m, hm, _⟩ => by omega)⟩), rfl⟩
      case round =>
        obtain ⟨k, b, rfl, rfl, hk, hkx, HB, rfl⟩ := hrel
        have q3 : (0 : Int) ≤ (k : Int) := by omega
        by_cases hkl : k < l.length
        · have q4 : (k : Int) < (l.length : Int) := by omega
          obtain ⟨gv, go2, rfl⟩ := HV.out k hkl
          have d2 := HL.out.at_ hkl
          have HB2 := Lib.hid (show ((b || (l.getD k 0 == a)) = true ↔ x = a ∨ ∃ m, m < k + 1 ∧ l.getD m 0 = a) by
            rw [Bool.or_eq_true, HB.out, beq_iff_eq]
            constructor
            · rintro ((e | ⟨m, hm, e⟩) | e)
              · exact .inl e
              · exact .inr ⟨m, by omega, e⟩
              · exact .inr ⟨k, by omega, e⟩
            · rintro (e | ⟨m, hm, e⟩)
              · exact .inl (.inl e)
              · by_cases h : m = k
                · subst h; exact .inr e
                · exact .inl (.inr ⟨m, by omega, e⟩))
          generalize l.getD k 0 = y at *
          clear HB
          rcases Bool.eq_false_or_eq_true b with rfl | rfl
          · go_wp2_with fail
            go_roundg (l.length - (k + 1))
            case rel => exact ⟨k + 1, true, rfl, by go_num, by omega, by omega, HB2, rfl⟩
            case measure => omega
          · by_cases hya : y = a
            · have e1 : (y == a) = true := by simp [hya]
              rw [e1] at HB2
              clear hya
              go_wp2_with fail
              go_roundg (l.length - (k + 1))
              case rel => exact ⟨k + 1, true, rfl, by go_num, by omega, by omega, HB2, rfl⟩
              case measure => omega
            · have e1 : (y == a) = false := by simpa using hya
              rw [e1] at HB2
              clear hya
              go_wp2_with fail
              go_roundg (l.length - (k + 1))
              case rel => exact ⟨k + 1, false, rfl, by go_num, by omega, by omega, HB2, rfl⟩
              case measure => omega
        · obtain rfl : k = l.length := by omega
          have hbw : b = true ↔ x = a ∨ r.Way x a := by
            rw [HB.out]
            constructor
            · rintro (e | ⟨m, hm, e⟩)
              · exact .inl e
              · exact .inr ((HML.out a).1 (e ▸ get_mem hm)).1
            · rintro (e | h)
              · exact .inl e
              · by_cases e : x = a
                · exact .inl e
                · obtain ⟨m, hm, e2⟩ := mem_get ((HML.out a).2 ⟨h, fun h => e h.symm⟩)
                  exact .inr ⟨m, hm, e2⟩
          have hR := HR.out wr HB3.out
          obtain ⟨-, c1, -, -⟩ := hR.cells
          have d3 := HST.out wr HB3.out
          have HBW := Lib.hid hbw
          have HPU := Lib.hid (put_any HM3.out HHO.out (by omega) x)
          clear HB hbw hkx hkl hk hR
          rcases Bool.eq_false_or_eq_true b with rfl | rfl
          · by_cases hs : sx = 1
            · have e1 : (sx == 1) = true := by simp [hs]
              have HY := Lib.hid (HYES.out ⟨HBW.out.1 rfl, hs⟩)
              clear HNO HYES hs
              go_wp2_with fail
              refine HPU.out.mono ?_
              rintro e w5 ⟨v', O', rfl, hO', hp, hb, hn⟩
              have HO2 := Lib.hid (HY.out O' hp)
              have hlen := hp.len
              have HM2 := Lib.hid (show Owned .i64 3 w5 v' O' ∧ (∀ g, v'.ownBlock = some g → w.heap.size ≤ g) ∧ Below w.heap.size w w5 from ⟨hO', fun g hg => by
                rcases hn g hg with h | h
                · exact HN3.out g h
                · have := HB3.out.size; omega, bl_next HB3.out hb⟩)
              clear hO' hp hb hn HPU HY
              go_wp2_with fail
              go_roundg (r.ids.length - (i + 1))
              case rel => exact ⟨i + 1, O', by go_num, by omega, by omega, by omega, HM2, HO2⟩
              case measure => omega
            · have e1 : (sx == 1) = false := by simpa using hs
              have HO2 := Lib.hid (HNO.out (fun h => hs h.2))
              have HM2 := Lib.hid (And.intro HM3.out (And.intro HN3.out HB3.out))
              clear HNO HYES hs HPU
              go_wp2_with fail
              go_roundg (r.ids.length - (i + 1))
              case rel => exact ⟨i + 1, O, by go_num, by omega, by omega, by omega, HM2, HO2⟩
              case measure => omega
          · have HO2 := Lib.hid (HNO.out (fun h => by have := HBW.out.2 h.1; simp at this))
            have HM2 := Lib.hid (And.intro HM3.out (And.intro HN3.out HB3.out))
            clear HNO HYES HPU
            go_wp2_with fail
            go_roundg (r.ids.length - (i + 1))
            case rel => exact ⟨i + 1, O, by go_num, by omega, by omega, by omega, HM2, HO2⟩
            case measure => omega
    · obtain rfl : i = r.ids.length := by omega
      have HO2 := Lib.hid (show Rise O (r.hit a) from ⟨HO.out.1, fun y => by
        rw [HO.out.2 y]
        exact ⟨fun ⟨⟨j, hj, g⟩, h⟩ => ⟨g ▸ get_mem hj, h⟩, fun ⟨h0, h⟩ => by obtain ⟨j, hj, g⟩ := mem_get h0; exact ⟨⟨j, hj, g⟩, h⟩⟩⟩)
      obtain ⟨oa, oc, hov, o1, -, -⟩ := Owned.form HM.out.1
      subst hov
      have HR0 := Lib.hid hR
      have HD0 := Lib.hid (show Doomed r (O.take 0) r from ⟨rfl, rfl, rfl, fun x _ => by simp⟩)
      have HMO := Lib.hid (Mod.of_below (F := fun g => (Value.slice sa r.st.length sc).ownBlock = some g) HM.out.2.2)
      clear hR HO hlt hix hi
      have HOO := Lib.hid HM.out.1
      have HNN := Lib.hid HM.out.2.1
      have hOl2 : O.length ≤ 2000 := by omega
      clear HM
      go_wp2_with fail
      go_loopg [11] O.length (fun kx jv wr => ∃ (j : Nat) (r' : RS), jv = .int .i64 (j : Int) ∧ j ≤ O.length ∧ O.length - j ≤ kx ∧ Hid (RM wr c (.slice ia r.ids.length ic) (.slice sa r.st.length sc) fv tv r') ∧ Hid (Doomed r (O.take j) r') ∧ Hid (Mod (fun g => (Value.slice sa r.st.length sc).ownBlock = some g) w wr) ∧ Hid (Owned .i64 3 wr (.slice oa O.length oc) O))
      case atStart => exact ⟨0, r, rfl, Nat.zero_le _, by omega, HR0, HD0, HMO, HOO⟩
      case round =>
        obtain ⟨j, r', rfl, hj, hjx, HRr, HDr, HMr, HOr⟩ := hrel
        clear HR0 HD0 HMO HOO
        have q3 : (0 : Int) ≤ (j : Int) := by omega
        by_cases hjl : j < O.length
        · have q4 : (j : Int) < (O.length : Int) := by omega
          obtain ⟨go2, rfl⟩ := own_some HOr.out j hjl
          have d1 := HOr.out.at_ hjl
          obtain ⟨-, c1, -, -⟩ := HRr.out.cells
          have hxin : O.getD j 0 ∈ r'.ids := by rw [HDr.out.ids]; exact ((HO2.out.2 _).1 (get_mem hjl)).1
          obtain ⟨n, hn, hnx⟩ := mem_get hxin
          have hsl : r.st.length = r'.st.length := by rw [HRr.out.ok.slen, HDr.out.ids, HSL.out]
          have hn2 : n < r.st.length := by rw [hsl, HRr.out.ok.slen]; exact hn
          obtain ⟨sg, rfl⟩ := HSS.out n hn2
          have hRr := HRr.out
          rw [hsl] at hRr
          have hpt := hRr.put hn 2
          rw [← hsl] at hpt
          have HPUT := Lib.hid hpt
          have dn := hRr.os.at_ (show n < r'.st.length by rw [← hsl]; exact hn2)
          have fz : wr.frozen? ⟨sg, n, none⟩ = false := by
            rcases hRr.os.2 with ⟨_, h0⟩ | ⟨g', cap', cur, hv, hg, hh, _⟩
            · omega
            · simp only [Value.slice.injEq, Option.some.injEq, Addr.mk.injEq, and_true] at hv
              obtain ⟨rfl, -, -⟩ := hv
              exact blk_free hh n
          have HAT := Lib.hid (fun (W : World) (hm : Mod (fun _ => False) wr W) => rb_at_in (HRr.out.mod hm (fun _ _ h => h)) hn hnx)
          have HDN := Lib.hid (show Doomed r (O.take (j + 1)) (r'.put n 2) from ⟨HDr.out.ids, HDr.out.fr, HDr.out.tt, fun x hx => by
            rw [put_st HRr.out.ok hn, hnx, HDr.out.st x hx]
            have ht : O.take (j + 1) = O.take j ++ [O.getD j 0] := by
              have hg : O.getD j 0 = O[j] := by simp [List.getD_eq_getElem?_getD, hjl]
              rw [hg, List.take_succ_eq_append_getElem hjl]
            have hiff : x ∈ O.take (j + 1) ↔ x ∈ O.take j ∨ x = O.getD j 0 := by rw [ht, List.mem_append, List.mem_singleton]
            by_cases e : x = O.getD j 0
            · rw [if_pos e, if_pos (hiff.2 (.inr e))]
            · rw [if_neg e]
              by_cases e2 : x ∈ O.take j
              · rw [if_pos e2, if_pos (hiff.2 (.inl e2))]
              · rw [if_neg e2, if_neg (fun h => by rcases hiff.1 h with h | h; exact e2 h; exact e h)]⟩)
          have p1 : (0 : Int) ≤ (n : Int) := by omega
          have p2 : (n : Int) < (r.st.length : Int) := by omega
          have hne : go2 ≠ sg := fun e => by
            have := HNN.out go2 rfl
            have := HSO.out sg rfl
            omega
          have HNE := Lib.hid hne
          have HSG := Lib.hid hsl
          generalize O.getD j 0 = x at *
          clear hxin hRr hn hn2 hnx hne hsl hpt
          go_wp2_with fail
          go_region_law (first | (go_simp; go_at_call 55; refine (HAT.out _ (by first | exact (Mod.refl _ _).drew | exact Mod.refl _ _)).mono ?_; rintro e w' ⟨rfl, rfl⟩))
          all_goals
            have HR3 := Lib.hid (HPUT.out.mod (w1 := (wr.setCell ⟨sg, n, none⟩ (.int .i64 2)).drew) (Mod.refl (fun _ => False) _).drew (fun _ _ h => h))
            have HM3 := Lib.hid (show Mod (fun g => (Value.slice (some ⟨sg, 0, none⟩) r.st.length sc).ownBlock = some g) w (wr.setCell ⟨sg, n, none⟩ (.int .i64 2)).drew from (HMr.out.setCell (p := ⟨sg, n, none⟩) (.inl rfl) _).drew)
            have HO3 := Lib.hid (show Owned .i64 3 (wr.setCell ⟨sg, n, none⟩ (.int .i64 2)).drew (.slice (some ⟨go2, 0, none⟩) O.length oc) O from HOr.out.mod (F := fun g => g = sg) ((Mod.setCell (F := fun g => g = sg) (Mod.refl _ wr) (p := ⟨sg, n, none⟩) (.inl rfl) _).drew) (fun g hg e => HNE.out (by have : go2 = g := Option.some.inj hg; rw [this, e])))
            clear HPUT HMr HOr HAT dn fz d1 c1
            go_wp2_with fail
            go_roundg (O.length - (j + 1))
            case rel => exact ⟨j + 1, r'.put n 2, by go_num, by omega, by omega, HR3, HDN, HM3, HO3⟩
            case measure => omega
        · obtain rfl : j = O.length := by omega
          have HD2 := Lib.hid (show Doomed r O r' by have := HDr.out; rwa [List.take_length] at this)
          clear HDr
          go_wp2_with fail
          go_ret
          exact ⟨_, O, r', rfl, HOr.out, HO2.out, HNN.out, HRr.out, HD2.out, HMr.out⟩
end
end Go.Proofs.Ytbihfjehlbaahaa
