/- SeeOnce holds: of a key's versions, one behind the other, each ended where the next one begins, one at most is seen at any time. No condition. -/
import Derived.Test.YtbiadeniplmkfaaF0
import Derived.Test.YtbiadeniplmkfaaO0
namespace Go.Proofs.Ytbiadeniplmkfaa
open Go.RowKit Go.ChangeShapes

def lastTo (l : List Int) : Nat → Int
  | 0 => 0
  | k + 1 => lastTo l k + 1 + (l.getD k 0) % 8
def timesTo (l : List Int) : Nat → List Int
  | 0 => []
  | k + 1 => timesTo l k ++ [lastTo l (k + 1)]
theorem timesTo_len (l : List Int) (k : Nat) : (timesTo l k).length = k := by
  induction k with
  | zero => rfl
  | succ k ih => simp [timesTo, ih]
theorem timesTo_get (l : List Int) (k i : Nat) (h : i < k) : (timesTo l k).getD i 0 = lastTo l (i + 1) := by
  induction k with
  | zero => omega
  | succ k ih =>
    rw [timesTo, List.getD_eq_getElem?_getD]
    by_cases hi : i < k
    · rw [List.getElem?_append_left (by rw [timesTo_len]; exact hi), ← List.getD_eq_getElem?_getD]
      exact ih hi
    · have : i = k := by omega
      subst this
      rw [List.getElem?_append_right (by rw [timesTo_len]; omega), timesTo_len]
      simp
theorem lastTo_bd (l : List Int) (k : Nat) : 0 ≤ lastTo l k ∧ lastTo l k ≤ 8 * k := by
  induction k with
  | zero => simp [lastTo]
  | succ k ih => simp only [lastTo]; omega
theorem lastTo_succ (l : List Int) (k : Nat) : lastTo l k + 1 ≤ lastTo l (k + 1) := by simp only [lastTo]; omega

/-- Where the version at a place ends. -/
def endOf (l : List Int) (n : Nat) (open_ : Bool) (i : Nat) : Int := if i + 1 < n then lastTo l (i + 2) else if open_ = true then 2305843009213693952 else lastTo l (i + 1) + 3
theorem endOf_cases (l : List Int) (n : Nat) (open_ : Bool) (i : Nat) : (i + 1 < n ∧ endOf l n open_ i = lastTo l (i + 2)) ∨ (n ≤ i + 1 ∧ open_ = true ∧ endOf l n open_ i = 2305843009213693952) ∨ (n ≤ i + 1 ∧ open_ = false ∧ endOf l n open_ i = lastTo l (i + 1) + 3) := by
  unfold endOf
  by_cases h : i + 1 < n
  · left; simp [h]
  · right; cases open_ <;> simp [h] <;> omega

theorem once_see {b e t : Int} (hb : 0 ≤ b ∧ b ≤ 1099511627776) (ht : 0 ≤ t ∧ t < 256) (he : 0 ≤ e ∧ e ≤ 1099511627776 ∨ e = 2305843009213693952) :
    (b ≤ t ∧ t < e ∧ seeK noneL b e 7 t = 1 ∨ ¬ (b ≤ t ∧ t < e) ∧ seeK noneL b e 7 t = 2) ∧ seeL noneL b e 7 t = [] := by
  have hr := rd_cases b
  have h1 : rdK b = 1 ∧ rdN b = b := by omega
  have e1 : wordK noneL b 7 t 2 = pastK b t := by unfold wordK; rw [h1.1, h1.2]; rfl
  have p1 := pastK_ways b t
  rcases he with he | rfl
  · have hr := rd_cases e
    have h2 : rdK e = 1 ∧ rdN e = e := by omega
    have e2 : wordK noneL e 7 t 1 = pastK e t := by unfold wordK; rw [h2.1, h2.2]; rfl
    have p2 := pastK_ways e t
    unfold seeK seeL
    rw [e1, e2]
    rcases p1 with ⟨h1, q1⟩ | ⟨h1, q1⟩ <;> rcases p2 with ⟨h2, q2⟩ | ⟨h2, q2⟩ <;> rw [q1, q2] <;> simp [whoL] <;> omega
  · have e2 : wordK noneL 2305843009213693952 7 t 1 = 2 := rfl
    unfold seeK seeL
    rw [e1, e2]
    rcases p1 with ⟨h1, q1⟩ | ⟨h1, q1⟩ <;> rw [q1] <;> simp [whoL] <;> omega

/-- How many are seen of the first ones. -/
def Seen (l : List Int) (n : Nat) (open_ : Bool) (t : Int) (k : Nat) (s : Int) : Prop :=
  (s = 1 ∧ 0 < k ∧ lastTo l 1 ≤ t ∧ t < endOf l n open_ (k - 1)) ∨ (s = 0 ∧ ¬ (0 < k ∧ lastTo l 1 ≤ t ∧ t < endOf l n open_ (k - 1)))
theorem lastTo_first (l : List Int) (k : Nat) : lastTo l 1 ≤ lastTo l (k + 1) := by
  induction k with
  | zero => exact Int.le_refl _
  | succ k ih => have := lastTo_succ l (k + 1); omega
theorem Seen.yes {l : List Int} {n : Nat} {open_ : Bool} {t s : Int} {k : Nat} (h : Seen l n open_ t k s) (hk : k < n) (h1 : lastTo l (k + 1) ≤ t) (h2 : t < endOf l n open_ k) : s = 0 ∧ Seen l n open_ t (k + 1) (s + 1) := by
  unfold Seen at *
  have hf := lastTo_first l k
  have e1 : k + 1 - 1 = k := rfl
  rw [e1]
  have hc := endOf_cases l n open_ (k - 1)
  have : s = 0 := by
    rcases h with ⟨_, h0, _, h3⟩ | h
    · exfalso
      have e2 : k - 1 + 2 = k + 1 := by omega
      rw [e2] at hc
      omega
    · exact h.1
  omega
theorem Seen.no {l : List Int} {n : Nat} {open_ : Bool} {t s : Int} {k : Nat} (h : Seen l n open_ t k s) (hk : k < n) (h1 : ¬ (lastTo l (k + 1) ≤ t ∧ t < endOf l n open_ k)) (ht : t < 256) : Seen l n open_ t (k + 1) s := by
  unfold Seen at *
  have hf := lastTo_first l k
  have e1 : k + 1 - 1 = k := rfl
  rw [e1]
  have hc := endOf_cases l n open_ (k - 1)
  have hd := endOf_cases l n open_ k
  have hs : lastTo l (k + 1) + 1 ≤ lastTo l (k + 2) := lastTo_succ l (k + 1)
  by_cases h0 : k = 0
  · subst h0
    simp only [Nat.zero_add] at *
    omega
  · have e2 : k - 1 + 2 = k + 1 := by omega
    rw [e2] at hc
    have e3 : k - 1 + 1 = k := by omega
    rw [e3] at hc
    omega

set_option maxRecDepth 100000 in
set_option maxHeartbeats 3200000 in
theorem seeOnce_walk {a0 : Option Addr} {len0 cap0 : Nat} {l : List Int} {a1 : Int} {a2 : Bool} {w : World} (hn : l.length = len0) (hl : RowAt .i64 w (.slice a0 len0 cap0) l) (_hw : ∀ x ∈ l, (Lit.int .i64 x).wf = true) (_w1 : (Lit.int .u64 a1).wf = true) :
    Calls Try.prog 13 #[.slice a0 len0 cap0, .int .u64 a1, .bool a2] w fun e w' => e = .returned (.bool true) ∧ Below w.heap.size w w' := by
  obtain ⟨ua, uc, hu, hmx⟩ := hl.len
  simp only [Value.slice.injEq] at hu
  unfold maxLen at hmx
  rw [hn] at hmx
  clear hu
  have m1 := u64_and255 a1
  obtain ⟨t, ht⟩ : ∃ x, x = a1 % 256 := ⟨_, rfl⟩
  have bt : 0 ≤ t ∧ t < 256 := by omega
  rw [← ht] at m1
  clear ht
  have HL := Lib.hid hl
  have HN := Lib.hid hn
  clear hl hn
  go_enter Try.func13, Try.ntmps13
  go_wp2
  go_loopw [7, 8, 9] (fun v la i wr => ∃ k : Nat, k ≤ len0 ∧ k ≤ 20 ∧ i = .int .i64 k ∧ la = .int .u64 (lastTo l k) ∧ Owned .u64 22 w.heap.size wr v (timesTo l k) ∧ Below w.heap.size w wr) (fun _ _ i _ => len0 - (intOf i).toNat)
  case atStart => exact ⟨0, Nat.zero_le _, by omega, rfl, rfl, Owned.nil _ _ _ _, Below.refl _ _⟩
  case round =>
    obtain ⟨k, hk, hk2, rfl, rfl, hown, hB⟩ := hrel
    have hb := lastTo_bd l k
    have HO := Lib.hid hown
    clear hown
    by_cases hlt : k < len0 ∧ k < 20
    · obtain ⟨hlt, hlt2⟩ := hlt
      rcases HL.out with ⟨h0, _⟩ | ⟨b, off, cap, hv, _, hbl, hc⟩
      · have := HN.out; rw [h0] at this; simp at this; omega
      have hkl : k < l.length := HN.out.symm ▸ hlt
      have c1 := (hB.cell (p := ⟨b, off + k, none⟩) hbl).trans (hc k hkl)
      simp only [Value.slice.injEq] at hv
      obtain ⟨rfl, hnl, rfl⟩ := hv
      have HLS := Lib.hid (show lastTo l (k + 1) = lastTo l k + 1 + (l.getD k 0) % 8 from rfl)
      have HTS := Lib.hid (show timesTo l (k + 1) = timesTo l k ++ [lastTo l (k + 1)] from rfl)
      have hlen := timesTo_len l k
      have HTL := Lib.hid hlen
      clear hnl hc hkl hlen
      have m3 := i64_and7 (l.getD k 0)
      generalize l.getD k 0 = x at *
      obtain ⟨y, hy⟩ : ∃ y, y = x % 8 := ⟨_, rfl⟩
      have by_ : 0 ≤ y ∧ y < 8 := by omega
      rw [← hy] at m3 HLS
      clear hy
      generalize lastTo l k = la at *
      go_wp2_with (at_builtin; refine append_one rfl _ _ rfl Try.underlying29 info_u64 (by decide) rfl HO.out rfl ?c1 ?c2 ?c3)
      case c1 => rw [HTL.out]; omega
      case c2 => exact hB.size
      · intro v' w' h1 h2
        go_wp2
        go_roundw
        case rel => exact ⟨k + 1, by omega, by omega, by go_num, by rw [HLS.out], by rw [HTS.out, HLS.out]; exact h1, h2 _ _ (Nat.le_refl _) hB⟩
        case measure => simp [intOf]; omega
    · have hd : (decide (k < len0) = false) ∨ (decide (k < len0) = true ∧ decide ((k : Int) < 20) = false) := by simp; omega
      have hle : len0 = k ∨ k = 20 := by omega
      clear HL HN hlt
      have hl := timesTo_len l k
      have HT := Lib.hid (fun i hi => timesTo_get l k i hi)
      have HB := Lib.hid (lastTo_bd l)
      have hb1 := lastTo_bd l 1
      have HR := Lib.hid (HO.out.row)
      obtain ⟨ra, rc, hv, _⟩ := HR.out.len
      rw [hl] at hv
      subst hv
      clear HO
      have HTL := Lib.hid hl
      clear hl
      rcases hd with hd | ⟨hd, hd2⟩
      all_goals
        go_wp2_with fail
        have HB0 := Lib.hid hB
        clear hB
        obtain ⟨wo, rfl⟩ : ∃ wo : World, wo = wr := ⟨_, rfl⟩
        go_loopw [10, 11] (fun se i w2 => ∃ j : Nat, ∃ s : Int, j ≤ k ∧ i = .int .i64 j ∧ se = .int .i64 s ∧ Seen l k a2 t j s ∧ 0 ≤ s ∧ s ≤ 1 ∧ Below wo.heap.size wo w2) (fun _ i _ => k - (intOf i).toNat)
        case atStart => exact ⟨0, 0, by omega, rfl, rfl, .inr ⟨rfl, by omega⟩, by omega, by omega, Below.refl _ _⟩
        case round =>
          obtain ⟨j, s, hj, rfl, rfl, hseen, hs0, hs1, hW⟩ := hrel
          have HSN := Lib.hid hseen
          clear hseen
          by_cases hlt : j < k
          · rcases HR.out with ⟨h0, _⟩ | ⟨b, off, cap, hv, _, hbl, hc⟩
            · have := HTL.out; rw [h0] at this; simp at this; omega
            have hc0 := (hW.cell (p := ⟨b, off + j, none⟩) hbl).trans (hc j (by rw [HTL.out]; exact hlt))
            rw [HT.out j hlt] at hc0
            have hbj := HB.out (j + 1)
            have HC1 := Lib.hid (fun (h : j + 1 < k) => ((hW.cell (p := ⟨b, off + (j + 1), none⟩) hbl).trans (hc (j + 1) (by rw [HTL.out]; exact h))).trans (by rw [HT.out (j + 1) h]))
            have hbj2 := HB.out (j + 2)
            simp only [Value.slice.injEq] at hv
            obtain ⟨rfl, hnl, rfl⟩ := hv
            clear hnl hc
            have hcase := endOf_cases l k a2 j
            have HY := Lib.hid (fun h1 h2 => HSN.out.yes hlt h1 h2)
            have HZ := Lib.hid (fun h1 => HSN.out.no hlt h1 bt.2)
            have HX := Lib.hid (show endOf l k a2 j = 2305843009213693952 ∨ 0 ≤ endOf l k a2 j ∧ endOf l k a2 j ≤ 1099511627776 by omega)
            clear HSN HT HTL HR
            have hcase2 : (∃ e, endOf l k a2 j = e ∧ ((j + 1 < k ∧ e = lastTo l (j + 2)) ∨ (k ≤ j + 1 ∧ a2 = true ∧ e = 2305843009213693952) ∨ (k ≤ j + 1 ∧ a2 = false ∧ e = lastTo l (j + 1) + 3))) := ⟨_, rfl, hcase⟩
            clear hcase
            obtain ⟨e, hee, hcase⟩ := hcase2
            rw [hee] at HX
            simp only [hee] at HY HZ
            clear hee
            have HS2 := Lib.hid (once_see (b := lastTo l (j + 1)) (e := e) (t := t) ⟨by omega, by omega⟩ bt (by have := HX.out; omega))
            have HE2 := Lib.hid (show 0 ≤ e ∧ e ≤ 18446744073709551615 by have := HX.out; omega)
            clear HX
            rcases hcase with ⟨h1, he⟩ | ⟨h1, rfl, he⟩ | ⟨h1, rfl, he⟩
            all_goals
              first | (have c1 := HC1.out h1; have hd : decide ((j : Int) + 1 < k) = true := by simp; omega) | (have hd : decide ((j : Int) + 1 < k) = false := by simp; omega)
              subst he
              go_wp2_with (go_at_call 28; refine (forever_any _).mono ?_; rintro e w1 ⟨rfl, rfl⟩)
              refine (see_any _ _ _ _ _ noneL _ _ (tells_nil _) (Below.refl _ _) (by omega) (by omega) HE2.out.1 HE2.out.2).mono ?_
              rintro ee w3 ⟨sv, rfl, hi, b3⟩
              rw [HS2.out.2] at hi
              obtain ⟨aa, ac, rfl⟩ := hi.nil_len
              have hs2 := HS2.out.1
              have c2 := keep b3 hc0
              clear hi HS2 HE2 HC1 hc0
              first | clear c1 | skip
              generalize seeK noneL _ _ 7 t = vv at *
              rcases hs2 with ⟨q1, q2, rfl⟩ | ⟨q, rfl⟩
              · have hy := HY.out q1 q2
                have HYY := Lib.hid hy.2
                obtain rfl : s = 0 := hy.1
                clear hy HY HZ q2
                go_wp2_with fail
                go_roundw
                case rel => exact ⟨j + 1, 0 + 1, by omega, by go_num, by go_num, HYY.out, by omega, by omega, bl_next hW b3⟩
                case measure => simp [intOf]; omega
              · have HYY := Lib.hid (HZ.out q)
                clear HY HZ q
                go_wp2_with fail
                go_roundw
                case rel => exact ⟨j + 1, s, by omega, by go_num, rfl, HYY.out, by omega, by omega, bl_next hW b3⟩
                case measure => simp [intOf]; omega
          · obtain rfl : k = j := by omega
            have hsn := HSN.out
            unfold Seen at hsn
            have hB0 := HB0.out
            clear HSN HB0
            by_cases h0 : k = 0
            · subst h0
              obtain rfl : s = 0 := by omega
              clear hsn HT HTL HR HB
              go_wp2_with (go_at_call 29; refine (awake7_any _).mono ?_; rintro ee w6 ⟨rfl, hb6⟩)
              go_ret
              exact ⟨rfl, bl_next (bl_next hB0 hW) hb6⟩
            · obtain ⟨m, rfl⟩ : ∃ m, k = m + 1 := ⟨k - 1, by omega⟩
              rcases HR.out with ⟨h0, _⟩ | ⟨b, off, cap, hv, _, hbl, hc⟩
              · have := HTL.out; rw [h0] at this; simp at this
              have c0 := ((hW.cell (p := ⟨b, off + 0, none⟩) hbl).trans (hc 0 (by rw [HTL.out]; omega))).trans (by rw [HT.out 0 (by omega)])
              have c1 := ((hW.cell (p := ⟨b, off + m, none⟩) hbl).trans (hc m (by rw [HTL.out]; omega))).trans (by rw [HT.out m (by omega)])
              rw [Nat.zero_add, Nat.add_zero] at c0
              simp only [Value.slice.injEq] at hv
              obtain ⟨rfl, hnl, rfl⟩ := hv
              have hbm := HB.out (m + 1)
              have he := endOf_cases l (m + 1) a2 m
              rw [show m + 1 - 1 = m from rfl] at hsn
              clear hnl hc HT HTL HR HB
              have hb1 := lastTo_bd l 1
              have hs : (a2 = true ∧ lastTo l 1 ≤ t ∧ s = 1) ∨ (lastTo l 1 ≤ t ∧ a2 = false ∧ t < lastTo l (m + 1) + 3 ∧ s = 1) ∨ (lastTo l 1 ≤ t ∧ a2 = false ∧ lastTo l (m + 1) + 3 ≤ t ∧ s = 0) ∨ (t < lastTo l 1 ∧ s = 0) := by
                cases a2 <;> simp at he ⊢ <;> omega
              clear hsn he
              generalize lastTo l (m + 1) = y at *
              generalize lastTo l 1 = x at *
              rcases hs with ⟨rfl, h1, rfl⟩ | ⟨h1, rfl, h2, rfl⟩ | ⟨h1, rfl, h2, rfl⟩ | ⟨h1, rfl⟩
              all_goals
                go_wp2_with (go_at_call 29; refine (awake7_any _).mono ?_; rintro ee w6 ⟨rfl, hb6⟩)
                go_ret
                exact ⟨rfl, bl_next (bl_next hB0 hW) hb6⟩

end Go.Proofs.Ytbiadeniplmkfaa
