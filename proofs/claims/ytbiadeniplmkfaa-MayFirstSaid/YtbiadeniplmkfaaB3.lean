/- May.First, the program's and the document's: both say whether no word bars. -/
import Derived.Test.YtbiadeniplmkfaaB2
import Derived.Test.YtbiadeniplmkfaaC1
namespace Go.Proofs.Ytbiadeniplmkfaa
open Go.RowKit

/-- Whether a word bars a first version. -/
def barB (L : Int → Tx × Bool) (me at_ x : Int) : Bool := if rdK x = 1 then decide (at_ < rdN x) else if rdK x = 2 then ((rdN x != me) && ((toldS L (rdN x)).2 && ((toldS L (rdN x)).1.st != 4))) else true
theorem bar_time {L : Int → Tx × Bool} {me at_ x : Int} (h : rdK x = 1) : barB L me at_ x = decide (at_ < rdN x) := by unfold barB; rw [if_pos h]
theorem bar_txn {L : Int → Tx × Bool} {me at_ x : Int} (h : rdK x = 2) : barB L me at_ x = ((rdN x != me) && ((toldS L (rdN x)).2 && ((toldS L (rdN x)).1.st != 4))) := by unfold barB; rw [if_neg (by omega), if_pos h]
theorem bar_else {L : Int → Tx × Bool} {me at_ x : Int} (h : rdK x ≠ 1) (g : rdK x ≠ 2) : barB L me at_ x = true := by unfold barB; rw [if_neg h, if_neg g]

set_option maxHeartbeats 800000 in
theorem firstClo_any (x me at_ : Int) (ba bl bm : Nat) (lk : Value) (L : Int → Tx × Bool) (w0 w : World) (ht : Tells w0 lk L) (hw : Below w0.heap.size w0 w) (h0 : 0 ≤ x) (h1 : x ≤ 18446744073709551615)
    (ca : w.cell? ⟨ba, 0, none⟩ = some (.int .u64 at_)) (cl : w.cell? ⟨bl, 0, none⟩ = some lk) (cm : w.cell? ⟨bm, 0, none⟩ = some (.int .i64 me)) :
    Calls Try.prog 46 #[.int .u64 x, .pointer (some ⟨ba, 0, none⟩), .pointer (some ⟨bl, 0, none⟩), .pointer (some ⟨bm, 0, none⟩)] w fun e w' => e = .returned (.bool (barB L me at_ x)) ∧ Below w.heap.size w w' := by
  have HR := Lib.hid (fun w => word_read x w h0 h1)
  have hx := rd_ways x
  have HT := Lib.hid (fun w1 n => told_any n lk L w0 w1 ht)
  have H1 := Lib.hid (@bar_time L me at_ x)
  have H2 := Lib.hid (@bar_txn L me at_ x)
  have H3 := Lib.hid (@bar_else L me at_ x)
  have HCA := Lib.hid ca
  have HCL := Lib.hid cl
  have HCM := Lib.hid cm
  clear ht ca cl cm
  generalize rdK x = k at *
  generalize rdN x = n at *
  rcases hx with ⟨rfl, hn, hm⟩ | ⟨rfl, hn, hm⟩ | ⟨rfl, hn⟩ | ⟨rfl, hn, hm⟩
  · have H4 := Lib.hid (H1.out rfl)
    clear hn H1 H2 H3
    go_enter Try.func46, Try.ntmps46
    go_wp2_with fail
    refine (HR.out _).mono ?_
    rintro e w1 ⟨rfl, hb1⟩
    have ca := keep (bl_alloc hb1 (.cells #[.int .i64 1, .int .u64 n] 59)) HCA.out
    go_wp2_with fail
    go_ret
    exact ⟨ret_bool H4.out.symm, bl_alloc hb1 _⟩
  · have HT' := Lib.hid (fun w1 h => HT.out w1 n h (by omega) hm)
    have H2' := Lib.hid (H2.out rfl)
    clear HT H2 H1 H3
    generalize toldS L n = r at *
    obtain ⟨⟨lv, st, bg, en⟩, ok⟩ := r
    simp only [Tx.val] at HT' H2'
    rcases Bool.eq_false_or_eq_true (n != me) with e1 | e1 <;> rcases Bool.eq_false_or_eq_true ok with rfl | rfl <;> rcases Bool.eq_false_or_eq_true (st != 4) with e2 | e2
    all_goals
      have H4 := H2'.out
      rw [e1, e2] at H4
      have H5 := Lib.hid H4
      clear H4 H2'
      go_enter Try.func46, Try.ntmps46
      go_wp2_with fail
      refine (HR.out _).mono ?_
      rintro e w1 ⟨rfl, hb1⟩
      have B1 := bl_alloc hb1 (.cells #[.int .i64 2, .int .u64 n] 59)
      have cl := keep B1 HCL.out
      go_wp2_with fail
      refine (HT'.out _ (hw.trans (B1.mono hw.size))).mono ?_
      rintro e w2 ⟨rfl, hb2⟩
      have B2 := bl_alloc (bl_next B1 hb2) (.cells #[.int .i64 lv, .int .i64 st, .int .u64 bg, .int .u64 en] 24)
      obtain ⟨hc2, hf2⟩ := bcell hb2
      have hz2 : w1.heap.size < w2.heap.size := by have := hb2.size; simp at this; omega
      simp only [World.size_alloc] at hc2 hf2
      have cm := keep B2 HCM.out
      clear cl
      go_wp2_with fail
      go_ret
      exact ⟨ret_bool H5.out.symm, B2⟩
  all_goals
    clear hn
    have H5 := Lib.hid (H3.out (by decide) (by decide))
    clear H1 H2 H3
    go_enter Try.func46, Try.ntmps46
    go_wp2_with fail
    refine (HR.out _).mono ?_
    rintro e w1 ⟨rfl, hb1⟩
    go_wp2_with fail
    go_ret
    exact ⟨ret_bool H5.out.symm, bl_alloc hb1 _⟩

/-- Where a test was met first, if at all. -/
def IdxOf (p : Int → Bool) (l : List Int) (w : World) (e : Ending) (w' : World) : Prop := ∃ r : Int, e = .returned (.int .i64 r) ∧ decide (0 ≤ r) = l.any p ∧ Below w.heap.size w w'

def noneTo (p : Int → Bool) (l : List Int) (k : Nat) : Prop := ∀ i, i < k → p (l.getD i 0) = false
theorem none_all {p : Int → Bool} {l : List Int} (h : noneTo p l l.length) : l.any p = false := by
  rw [List.any_eq_false]
  intro x hx
  obtain ⟨i, hi, rfl⟩ := List.mem_iff_getElem.1 hx
  have := h i hi
  simpa [List.getD_eq_getElem?_getD, List.getElem?_eq_getElem hi] using this
theorem some_any {p : Int → Bool} {l : List Int} {k : Nat} (hk : k < l.length) (h : p (l.getD k 0) = true) : l.any p = true := by
  rw [List.any_eq_true]
  exact ⟨l[k], List.getElem_mem hk, by simpa [List.getD_eq_getElem?_getD, List.getElem?_eq_getElem hk] using h⟩

set_option maxHeartbeats 800000 in
theorem indexFunc_any (l : List Int) (u : Value) (f : FuncId) (caps : Array Value) (p : Int → Bool) (w : World) (hl : RowAt .u64 w u l) (hcf : ∀ args w, (callFunc f args).run Try.prog w = .ok (.enter f args) w)
    (hf : ∀ w1 i, i < l.length → Below w.heap.size w w1 → Calls Try.prog f (#[.int .u64 (l.getD i 0)] ++ caps) w1 fun e w2 => e = .returned (.bool (p (l.getD i 0))) ∧ Below w1.heap.size w1 w2) :
    Calls Try.prog 50 #[u, .func (.func f) #[] caps] w (IdxOf p l w) := by
  obtain ⟨ua, uc, hu, hm⟩ := hl.len
  unfold maxLen at hm
  have HF := Lib.hid hf
  have HN := Lib.hid (@none_all p l)
  have HS := Lib.hid (fun k hk h => @some_any p l k hk h)
  have HL := Lib.hid hl
  clear hf hl
  subst hu
  obtain ⟨n, hn⟩ : ∃ n, n = l.length := ⟨_, rfl⟩
  have HE := Lib.hid hn
  rw [← hn] at hm HL ⊢
  clear hn
  go_enter Try.func50, Try.ntmps50
  go_wp2
  go_loopw [8] (fun i wr => ∃ k : Nat, k ≤ n ∧ i = .int .i64 k ∧ Below w.heap.size w wr ∧ noneTo p l k) (fun i _ => n - (intOf i).toNat)
  case atStart => exact ⟨0, Nat.zero_le _, rfl, Below.refl _ _, fun i hi => by omega⟩
  case round =>
    obtain ⟨k, hk, rfl, hB, hno⟩ := hrel
    have HO := Lib.hid hno
    clear hno
    by_cases hlt : k < n
    · rcases HL.out with ⟨h0, _⟩ | ⟨b, off, cap, hv, _, _, hbl, hc⟩
      · have := HE.out; rw [h0] at this; simp at this; omega
      have hc2 := hc k (HE.out ▸ hlt)
      have c1 := (hB.cell (p := ⟨b, off + k, none⟩) hbl).trans hc2
      simp only [Value.slice.injEq] at hv
      obtain ⟨rfl, hnl, rfl⟩ := hv
      clear hc hc2 HL hnl
      have HC := Lib.hid (HF.out wr k (HE.out ▸ hlt) hB)
      have HP := Lib.hid (fun h => HS.out _ (HE.out ▸ hlt) h)
      have HQ := Lib.hid (show p (l.getD k 0) = false → noneTo p l (k + 1) from fun h i hi => if e : i = k then e ▸ h else HO.out i (by omega))
      clear HF HS HO
      generalize l.getD k 0 = x at *
      go_wp2_with fail
      refine HC.out.mono ?_
      rintro e w1 ⟨rfl, hb1⟩
      clear HC
      cases hp : p x
      · have HR := Lib.hid (HQ.out hp)
        clear hp HQ HP
        go_wp2_with fail
        go_roundw
        case rel => exact ⟨k + 1, by omega, by go_num, bl_next hB hb1, HR.out⟩
        case measure => simp [intOf]; omega
      · have HR := Lib.hid (HP.out hp)
        clear hp HQ HP
        go_wp2_with fail
        go_ret
        exact ⟨_, rfl, by rw [HR.out]; simp, bl_next hB hb1⟩
    · have HR := Lib.hid (HN.out (HE.out ▸ (show k = n by omega) ▸ HO.out))
      clear HF HS HO HN
      go_wp2_with fail
      go_ret
      exact ⟨_, rfl, by rw [HR.out]; rfl, hB⟩

set_option maxHeartbeats 800000 in
theorem containsFunc_any (l : List Int) (u : Value) (f : FuncId) (caps : Array Value) (p : Int → Bool) (w : World) (hl : RowAt .u64 w u l) (hcf : ∀ args w, (callFunc f args).run Try.prog w = .ok (.enter f args) w)
    (hf : ∀ w1 i, i < l.length → Below w.heap.size w w1 → Calls Try.prog f (#[.int .u64 (l.getD i 0)] ++ caps) w1 fun e w2 => e = .returned (.bool (p (l.getD i 0))) ∧ Below w1.heap.size w1 w2) :
    Calls Try.prog 45 #[u, .func (.func f) #[] caps] w fun e w' => e = .returned (.bool (l.any p)) ∧ Below w.heap.size w w' := by
  have HI := Lib.hid (indexFunc_any l u f caps p w hl hcf hf)
  clear hl hcf hf
  go_enter Try.func45, Try.ntmps45
  go_wp2_with fail
  refine HI.out.mono ?_
  rintro e w1 ⟨r, rfl, hr, hb⟩
  have HR := Lib.hid hr
  clear hr
  go_wp2_with fail
  go_ret
  exact ⟨ret_bool HR.out, hb⟩
end Go.Proofs.Ytbiadeniplmkfaa
