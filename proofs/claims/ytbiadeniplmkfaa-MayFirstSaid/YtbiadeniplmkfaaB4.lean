/- May.First, the program's and the document's: no word bars. The document's answer for 8.2. -/
import Derived.Test.YtbiadeniplmkfaaB3
namespace Go.Proofs.Ytbiadeniplmkfaa
open Go.RowKit

def inRange (l : List Int) : Prop := ∀ i, i < l.length → 0 ≤ l.getD i 0 ∧ l.getD i 0 ≤ 18446744073709551615

set_option maxHeartbeats 800000 in
theorem first_any (l : List Int) (u : Value) (me at_ : Int) (lk : Value) (L : Int → Tx × Bool) (w : World) (ht : Tells w lk L) (hl : RowAt .u64 w u l) (hr : inRange l) :
    Calls Try.prog 17 #[u, .int .i64 me, .int .u64 at_, lk] w fun e w' => e = .returned (.bool (!(l.any (barB L me at_)))) ∧ Below w.heap.size w w' := by
  have HC : Hid (Calls Try.prog 45 #[u, .func (.func 46) #[] #[.pointer (some ⟨w.heap.size + 1, 0, none⟩), .pointer (some ⟨w.heap.size + 1 + 1, 0, none⟩), .pointer (some ⟨w.heap.size, 0, none⟩)]] (((w.alloc (.cells #[.int .i64 me] 3)).alloc (.cells #[.int .u64 at_] 22)).alloc (.cells #[lk] 25)) fun e w' => e = .returned (.bool (l.any (barB L me at_))) ∧ Below (((w.alloc (.cells #[.int .i64 me] 3)).alloc (.cells #[.int .u64 at_] 22)).alloc (.cells #[lk] 25)).heap.size (((w.alloc (.cells #[.int .i64 me] 3)).alloc (.cells #[.int .u64 at_] 22)).alloc (.cells #[lk] 25)) w') := by
    have hb := bl_alloc (bl_alloc (bl_alloc (Below.refl _ w) (.cells #[.int .i64 me] 3)) (.cells #[.int .u64 at_] 22)) (.cells #[lk] 25)
    refine containsFunc_any l u 46 _ (barB L me at_) _ (hl.later hb) (fun _ _ => by kernel_rfl) (fun w1 i hi h1 => ?_)
    have g := hr i hi
    have c0 : w1.cell? ⟨w.heap.size, 0, none⟩ = some (.int .i64 me) := keep h1 (by rw [World.cell?_alloc_past _ _ _ (by simp; omega), World.cell?_alloc_past _ _ _ (by simp)]; simp)
    have c1 : w1.cell? ⟨w.heap.size + 1, 0, none⟩ = some (.int .u64 at_) := keep h1 (by rw [World.cell?_alloc_past _ _ _ (by simp)]; simp)
    have c2 : w1.cell? ⟨w.heap.size + 1 + 1, 0, none⟩ = some lk := keep h1 (by rw [World.cell?_alloc_at _ _ _ _ (by simp)]; simp)
    exact firstClo_any (l.getD i 0) me at_ _ _ _ lk L w w1 ht (bl_next hb h1) g.1 g.2 c1 c2 c0
  have hk : lk = .nilFunc ∨ ∃ f caps, lk = .func (.func f) #[] caps := by
    rcases ht with ⟨h, _⟩ | ⟨f, caps, h, _⟩
    · exact .inl h
    · exact .inr ⟨f, caps, h⟩
  clear ht hl hr
  rcases hk with rfl | ⟨f, caps, rfl⟩
  all_goals
    go_enter Try.func17, Try.ntmps17
    go_wp2_with fail
    refine HC.out.mono ?_
    rintro e w1 ⟨rfl, hb⟩
    go_wp2_with fail
    go_ret
    exact ⟨rfl, bl_next (bl_alloc (bl_alloc (bl_alloc (Below.refl _ _) _) _) _) hb⟩

theorem not_any_all {p : Int → Bool} {l : List Int} (h : noneTo p l l.length) : (!(l.any p)) = true := by rw [none_all h]; rfl
theorem not_any_some {p : Int → Bool} {l : List Int} {k : Nat} (hk : k < l.length) (h : p (l.getD k 0) = true) : (!(l.any p)) = false := by rw [some_any hk h]; rfl

set_option maxHeartbeats 3200000 in
theorem rfirst_any (l : List Int) (u : Value) (me at_ : Int) (lo : List Oth) (v : Value) (w : World) (hv : OthAt w v lo) (hl : RowAt .u64 w u l) (hr : inRange l) :
    Calls Try.prog 23 #[u, .int .i64 me, .int .u64 at_, v] w fun e w' => e = .returned (.bool (!(l.any (barB (lookS lo) me at_)))) ∧ Below w.heap.size w w' := by
  obtain ⟨ua, uc, hu, hm⟩ := hl.len
  unfold maxLen at hm
  have HN := Lib.hid (@not_any_all (barB (lookS lo) me at_) l)
  have HS := Lib.hid (fun k hk h => @not_any_some (barB (lookS lo) me at_) l k hk h)
  have HL := Lib.hid hl
  have HR := Lib.hid hr
  have HV := Lib.hid hv
  clear hl hr hv
  subst hu
  obtain ⟨n, hn⟩ : ∃ n, n = l.length := ⟨_, rfl⟩
  have HE := Lib.hid hn
  rw [← hn] at hm HL ⊢
  clear hn
  go_enter Try.func23, Try.ntmps23
  go_wp2
  go_loopw [9] (fun i wr => ∃ k : Nat, k ≤ n ∧ i = .int .i64 k ∧ Below w.heap.size w wr ∧ noneTo (barB (lookS lo) me at_) l k) (fun i _ => n - (intOf i).toNat)
  case atStart => exact ⟨0, Nat.zero_le _, rfl, Below.refl _ _, fun i hi => by omega⟩
  case round =>
    obtain ⟨k, hk, rfl, hB, hno⟩ := hrel
    have HO := Lib.hid hno
    clear hno
    by_cases hlt : k < n
    · rcases HL.out with ⟨h0, _⟩ | ⟨b, off, cap, hv, _, _, hbl, hc⟩
      · have := HE.out; rw [h0] at this; simp at this; omega
      have hkl : k < l.length := HE.out ▸ hlt
      have hc2 := hc k hkl
      have c1 := (hB.cell (p := ⟨b, off + k, none⟩) hbl).trans hc2
      simp only [Value.slice.injEq] at hv
      obtain ⟨rfl, hnl, rfl⟩ := hv
      have hrk := HR.out k hkl
      have HP := Lib.hid (HS.out k hkl)
      have HQ := Lib.hid (show barB (lookS lo) me at_ (l.getD k 0) = false → noneTo (barB (lookS lo) me at_) l (k + 1) from fun h i hi => if e : i = k then e ▸ h else HO.out i (by omega))
      clear hc hc2 HL hnl HS HO hkl HN HR
      generalize l.getD k 0 = x at *
      have HRD := Lib.hid (fun w => ref_read x w hrk.1 hrk.2)
      have HT := Lib.hid (fun w1 m h => look_any lo v m w1 h)
      have hx := rd_ways x
      have H1 := Lib.hid (@bar_time (lookS lo) me at_ x)
      have H2 := Lib.hid (@bar_txn (lookS lo) me at_ x)
      have H3 := Lib.hid (@bar_else (lookS lo) me at_ x)
      generalize barB (lookS lo) me at_ x = bb at *
      clear hrk
      generalize rdK x = kk at *
      generalize rdN x = m at *
      rcases hx with ⟨rfl, hn, hm2⟩ | ⟨rfl, hn, hm2⟩ | ⟨rfl, hn⟩ | ⟨rfl, hn, hm2⟩
      · have h1 := H1.out rfl
        clear hn H1 H2 H3
        by_cases hd : at_ < m
        · have HR := Lib.hid (HP.out (by rw [h1]; simpa using hd))
          have hdd : decide (m ≤ at_) = false := by simp; omega
          clear h1 HP HQ
          go_wp2_with fail
          refine (HRD.out _).mono ?_
          rintro e w1 ⟨rfl, hb1⟩
          go_wp2_with fail
          go_ret
          exact ⟨ret_bool HR.out.symm, bl_alloc (bl_next hB hb1) _⟩
        · have HR := Lib.hid (HQ.out (by rw [h1]; simpa using hd))
          have hdd : decide (m ≤ at_) = true := by simp; omega
          clear h1 HP HQ
          go_wp2_with fail
          refine (HRD.out _).mono ?_
          rintro e w1 ⟨rfl, hb1⟩
          go_wp2_with fail
          go_roundw
          case rel => exact ⟨k + 1, by omega, by go_num, bl_alloc (bl_next hB hb1) _, HR.out⟩
          case measure => simp [intOf]; omega
      · have HT' := Lib.hid (fun w1 hw1 => HT.out w1 m hw1)
        have H2' := Lib.hid (H2.out rfl)
        unfold toldS at H2'
        clear HT H2 H1 H3
        generalize lookS lo m = r at *
        obtain ⟨⟨lv, st, bg, en⟩, ok⟩ := r
        simp only [Tx.val] at HT' H2'
        by_cases hme : m = me
        · have HR := Lib.hid (HQ.out (by rw [H2'.out]; simp [hme]))
          have hmb : (m == me) = true := by simpa using hme
          clear HP HQ H2' hme HT'
          go_wp2_with fail
          refine (HRD.out _).mono ?_
          rintro e w1 ⟨rfl, hb1⟩
          go_wp2_with fail
          go_roundw
          case rel => exact ⟨k + 1, by omega, by go_num, bl_alloc (bl_next hB hb1) _, HR.out⟩
          case measure => simp [intOf]; omega
        · have hmb : (m == me) = false := by simpa using hme
          have hmn : (m != me) = true := by simpa using hme
          have h4 := Bool.eq_false_or_eq_true (st != 4)
          have h5 := Bool.eq_false_or_eq_true (st != 5)
          have hq := H2'.out
          rw [hmn] at hq
          clear H2' hmn hme
          rcases Bool.eq_false_or_eq_true ok with rfl | rfl <;> rcases h4 with h4 | h4 <;> rcases h5 with h5 | h5
          case inl.inl.inl =>
            have HR := Lib.hid (HP.out (by rw [hq, h4, h5]; rfl))
            clear HP HQ hq
            go_wp2_with fail
            refine (HRD.out _).mono ?_
            rintro e w1 ⟨rfl, hb1⟩
            go_wp2_with fail
            refine (HT'.out _ ((HV.out.later hB).later (bl_alloc hb1 _))).mono ?_
            rintro e w2 ⟨rfl, hb2⟩
            go_wp2_with fail
            go_ret
            exact ⟨ret_bool HR.out.symm, bl_alloc (bl_next (bl_alloc (bl_next hB hb1) _) hb2) _⟩
          all_goals
            have HR := Lib.hid (HQ.out (by rw [hq]; first | (rw [h4, h5]; rfl) | rfl))
            clear HP HQ hq
            go_wp2_with fail
            refine (HRD.out _).mono ?_
            rintro e w1 ⟨rfl, hb1⟩
            go_wp2_with fail
            refine (HT'.out _ ((HV.out.later hB).later (bl_alloc hb1 _))).mono ?_
            rintro e w2 ⟨rfl, hb2⟩
            go_wp2_with fail
            go_roundw
            case rel => exact ⟨k + 1, by omega, by go_num, bl_alloc (bl_next (bl_alloc (bl_next hB hb1) _) hb2) _, HR.out⟩
            case measure => simp [intOf]; omega
      all_goals
        have HR := Lib.hid (HP.out (H3.out (by decide) (by decide)))
        clear HP HQ H1 H2 H3 hn
        go_wp2_with fail
        refine (HRD.out _).mono ?_
        rintro e w1 ⟨rfl, hb1⟩
        go_wp2_with fail
        go_ret
        exact ⟨ret_bool HR.out.symm, bl_alloc (bl_next hB hb1) _⟩
    · have HZ := Lib.hid (HN.out (HE.out ▸ (show k = n by omega) ▸ HO.out))
      clear HS HO HN HR
      go_wp2_with fail
      go_ret
      exact ⟨ret_bool HZ.out.symm, hB⟩
end Go.Proofs.Ytbiadeniplmkfaa
