/- What is seen: the contracts of the program's txn, word1, Begin, End, who, See, over any teller. -/
import Derived.Test.YtbiadeniplmkfaaA0
namespace Go.Proofs.Ytbiadeniplmkfaa
open Go.RowKit

/-- What a transaction's word says at a time. -/
def sayK (L : Int → Tx × Bool) (id me at_ : Int) : Int := if id = me then 1 else if (toldS L id).2 = false then 3 else if (toldS L id).1.st = 3 then pastK (toldS L id).1.en at_ else if (toldS L id).1.st = 2 ∧ 0 < (toldS L id).1.en ∧ (toldS L id).1.en ≤ at_ then 4 else 2
def sayN (L : Int → Tx × Bool) (id me at_ : Int) : Int := if id = me then 0 else if (toldS L id).2 = false then 0 else if (toldS L id).1.st = 3 then 0 else if (toldS L id).1.st = 2 ∧ 0 < (toldS L id).1.en ∧ (toldS L id).1.en ≤ at_ then id else 0
theorem say_own {L : Int → Tx × Bool} {id me at_ : Int} (h : id = me) : sayK L id me at_ = 1 ∧ sayN L id me at_ = 0 := by simp [sayK, sayN, h]
theorem say_cases {L : Int → Tx × Bool} {id me at_ : Int} {lv st bg en : Int} {ok : Bool} (h : id ≠ me) (ht : toldS L id = (⟨lv, st, bg, en⟩, ok)) :
    (ok = false ∧ sayK L id me at_ = 3 ∧ sayN L id me at_ = 0) ∨ (ok = true ∧ st = 3 ∧ sayK L id me at_ = pastK en at_ ∧ sayN L id me at_ = 0) ∨ (ok = true ∧ st = 2 ∧ 0 < en ∧ en ≤ at_ ∧ sayK L id me at_ = 4 ∧ sayN L id me at_ = id) ∨
    (ok = true ∧ st ≠ 3 ∧ ¬ (st = 2 ∧ 0 < en ∧ en ≤ at_) ∧ sayK L id me at_ = 2 ∧ sayN L id me at_ = 0) := by
  unfold sayK sayN
  rw [ht]
  simp only [if_neg h]
  cases ok
  · simp
  · by_cases a : st = 3
    · simp [a]
    · by_cases b : st = 2 ∧ 0 < en ∧ en ≤ at_
      · simp [b]
      · simp [a, b]

theorem tup2 {a b c d : Int} (h : a = c) (g : b = d) : Ending.returned (.tuple #[.int .i64 a, .int .i64 b]) = Ending.returned (.tuple #[.int .i64 c, .int .i64 d]) := by rw [h, g]

set_option maxHeartbeats 400000 in
theorem txn_any (n me at_ : Int) (lk : Value) (L : Int → Tx × Bool) (w0 w : World) (ht : Tells w0 lk L) (hw : Below w0.heap.size w0 w) (h0 : 0 ≤ n) (h1 : n ≤ 65535) :
    Calls Try.prog 52 #[.int .u64 n, .int .i64 me, .int .u64 at_, lk] w fun e w' => e = .returned (.tuple #[.int .i64 (sayK L n me at_), .int .i64 (sayN L n me at_)]) ∧ Below w.heap.size w w' := by
  by_cases hme : n = me
  · have hs := Lib.hid (@say_own L n me at_ hme)
    have hb : (n == me) = true := by simp [hme]
    clear hme
    go_enter Try.func52, Try.ntmps52
    go_wp2_with fail
    go_ret2
    exact ⟨tup2 hs.out.1.symm hs.out.2.symm, Below.refl _ _⟩
  · have hb : (n == me) = false := by simp [hme]
    have HC := Lib.hid (told_any n lk L w0 w ht hw h0 h1)
    have hs := Lib.hid (fun lv st bg en ok => @say_cases L n me at_ lv st bg en ok)
    clear ht
    generalize toldS L n = r at *
    obtain ⟨⟨lv, st, bg, en⟩, ok⟩ := r
    have hs' := Lib.hid (hs.out _ _ _ _ _ hme rfl)
    clear hs hme
    simp only [Tx.val] at HC
    cases ok
    all_goals
      go_enter Try.func52, Try.ntmps52
      go_wp2_with fail
      refine HC.out.mono ?_
      rintro e w1 ⟨rfl, hb1⟩
      clear HC
      go_wp2_with (go_at_call 51; refine (past_any _ _ _).mono ?_; rintro e w2 ⟨rfl, rfl⟩)
    all_goals
      go_ret2
      have hs2 := hs'.out
      simp only [beq_iff_eq, beq_eq_false_iff_ne, ne_eq, reduceCtorEq, false_and, false_or, true_and, or_false] at *
      exact ⟨tup2 (by omega) (by omega), bl_alloc hb1 _⟩

/-- What a word says at a time; a word that says nothing is what it is told to be. -/
def wordK (L : Int → Tx × Bool) (x me at_ other : Int) : Int := if rdK x = 1 then pastK (rdN x) at_ else if rdK x = 2 then sayK L (rdN x) me at_ else if rdK x = 3 then 2 else other
def wordN (L : Int → Tx × Bool) (x me at_ : Int) : Int := if rdK x = 2 then sayN L (rdN x) me at_ else 0

/-- The four ways that a word may read, with its reader's contracts. -/
theorem rd_ways (x : Int) : (rdK x = 1 ∧ rdN x = x ∧ x ≤ 1099511627776) ∨ (rdK x = 2 ∧ 1 ≤ rdN x ∧ rdN x ≤ 65535) ∨ (rdK x = 3 ∧ rdN x = 0) ∨ (rdK x = 0 ∧ rdN x = 0 ∧ 1099511627776 < x) := by
  have := rd_cases x; omega

set_option maxHeartbeats 400000 in
theorem word1_any (x me at_ other : Int) (lk : Value) (L : Int → Tx × Bool) (w0 w : World) (ht : Tells w0 lk L) (hw : Below w0.heap.size w0 w) (h0 : 0 ≤ x) (h1 : x ≤ 18446744073709551615) :
    Calls Try.prog 48 #[.int .u64 x, .int .i64 me, .int .u64 at_, lk, .int .i64 other] w fun e w' => e = .returned (.tuple #[.int .i64 (wordK L x me at_ other), .int .i64 (wordN L x me at_)]) ∧ Below w.heap.size w w' := by
  have HR := Lib.hid (fun w => word_read x w h0 h1)
  have HT := Lib.hid (fun w1 n => txn_any n me at_ lk L w0 w1 ht)
  have HK := Lib.hid (show wordK L x me at_ other = if rdK x = 1 then pastK (rdN x) at_ else if rdK x = 2 then sayK L (rdN x) me at_ else if rdK x = 3 then 2 else other from rfl)
  have HN := Lib.hid (show wordN L x me at_ = if rdK x = 2 then sayN L (rdN x) me at_ else 0 from rfl)
  have hx := rd_ways x
  clear ht
  generalize rdK x = k at *
  generalize rdN x = n at *
  rcases hx with ⟨rfl, hn, hm⟩ | ⟨rfl, hn, hm⟩ | ⟨rfl, hn⟩ | ⟨rfl, hn, hm⟩
  · clear hn
    go_enter Try.func48, Try.ntmps48
    go_wp2_with fail
    refine (HR.out _).mono ?_
    rintro e w1 ⟨rfl, hb1⟩
    go_wp2_with (go_at_call 51; refine (past_any _ _ _).mono ?_; rintro e w2 ⟨rfl, rfl⟩)
    go_ret2
    exact ⟨tup2 (by rw [HK.out]; rfl) (by rw [HN.out]; rfl), bl_alloc hb1 _⟩
  · go_enter Try.func48, Try.ntmps48
    go_wp2_with fail
    refine (HR.out _).mono ?_
    rintro e w1 ⟨rfl, hb1⟩
    go_wp2_with fail
    refine (HT.out _ _ (hw.trans ((bl_alloc hb1 _).mono hw.size)) (by omega) hm).mono ?_
    rintro e w2 ⟨rfl, hb2⟩
    go_wp2_with fail
    go_ret2
    exact ⟨tup2 (by rw [HK.out]; rfl) (by rw [HN.out]; rfl), bl_next (bl_alloc hb1 _) hb2⟩
  all_goals
    clear hn
    go_enter Try.func48, Try.ntmps48
    go_wp2_with fail
    refine (HR.out _).mono ?_
    rintro e w1 ⟨rfl, hb1⟩
    go_wp2_with fail
    go_ret2
    exact ⟨tup2 (by rw [HK.out]; rfl) (by rw [HN.out]; rfl), bl_alloc hb1 _⟩

set_option maxHeartbeats 400000 in
theorem begin_any (x me at_ : Int) (lk : Value) (L : Int → Tx × Bool) (w0 w : World) (ht : Tells w0 lk L) (hw : Below w0.heap.size w0 w) (h0 : 0 ≤ x) (h1 : x ≤ 18446744073709551615) :
    Calls Try.prog 33 #[.int .u64 x, .int .i64 me, .int .u64 at_, lk] w fun e w' => e = .returned (.tuple #[.int .i64 (wordK L x me at_ 2), .int .i64 (wordN L x me at_)]) ∧ Below w.heap.size w w' := by
  have HW := Lib.hid (word1_any x me at_ 2 lk L w0 w ht hw h0 h1)
  clear ht
  go_enter Try.func33, Try.ntmps33
  go_wp2_with fail
  refine HW.out.mono ?_
  rintro e w1 ⟨rfl, hb1⟩
  go_wp2_with fail
  go_ret2
  exact ⟨tup2 rfl rfl, hb1⟩

set_option maxHeartbeats 400000 in
theorem end_any (x me at_ : Int) (lk : Value) (L : Int → Tx × Bool) (w0 w : World) (ht : Tells w0 lk L) (hw : Below w0.heap.size w0 w) (h0 : 0 ≤ x) (h1 : x ≤ 18446744073709551615) :
    Calls Try.prog 34 #[.int .u64 x, .int .i64 me, .int .u64 at_, lk] w fun e w' => e = .returned (.tuple #[.int .i64 (wordK L x me at_ 1), .int .i64 (wordN L x me at_)]) ∧ Below w.heap.size w w' := by
  have HW := Lib.hid (word1_any x me at_ 1 lk L w0 w ht hw h0 h1)
  clear ht
  go_enter Try.func34, Try.ntmps34
  go_wp2_with fail
  refine HW.out.mono ?_
  rintro e w1 ⟨rfl, hb1⟩
  go_wp2_with fail
  go_ret2
  exact ⟨tup2 rfl rfl, hb1⟩


/-- A slice of integers of one kind that reads as a list. -/
def RowAt (k : IntKind) (w : World) (v : Value) (l : List Int) : Prop := (l = [] ∧ ∃ a cap, v = .slice a 0 cap ∧ (a = none → cap = 0)) ∨ ∃ b off cap, v = .slice (some ⟨b, off, none⟩) l.length cap ∧ l.length ≤ cap ∧ l.length ≤ maxLen ∧ b < w.heap.size ∧ ∀ i, i < l.length → w.cell? ⟨b, off + i, none⟩ = some (.int k (l.getD i 0))
theorem RowAt.later {k : IntKind} {w w1 : World} {v : Value} {l : List Int} (h : RowAt k w v l) (hb : Below w.heap.size w w1) : RowAt k w1 v l := by
  rcases h with h | ⟨b, off, cap, hv, hlc, hm, hl, hc⟩
  · exact .inl h
  · exact .inr ⟨b, off, cap, hv, hlc, hm, Nat.lt_of_lt_of_le hl hb.size, fun i hi => (hb.cell (p := ⟨b, off + i, none⟩) hl).trans (hc i hi)⟩
theorem RowAt.nil (k : IntKind) (w : World) : RowAt k w (.slice none 0 0) [] := .inl ⟨rfl, _, _, rfl, fun _ => rfl⟩
theorem RowAt.one (k : IntKind) (w : World) (x : Int) (T : TypeId) : RowAt k (w.alloc (.cells #[.int k x] T)) (.slice (some ⟨w.heap.size, 0, none⟩) 1 1) [x] := by
  refine .inr ⟨w.heap.size, 0, 1, rfl, by simp, by simp [maxLen], by simp, fun i hi => ?_⟩
  have : i = 0 := by simp at hi; omega
  subst this
  simp
abbrev IntsAt := RowAt .i64
theorem IntsAt.nil (w : World) : IntsAt w (.slice none 0 0) [] := RowAt.nil _ w
theorem IntsAt.one (w : World) (x : Int) (T : TypeId) : IntsAt (w.alloc (.cells #[.int .i64 x] T)) (.slice (some ⟨w.heap.size, 0, none⟩) 1 1) [x] := RowAt.one _ w x T

def RetInts (l : List Int) (w : World) (e : Ending) (w' : World) : Prop := ∃ sv, e = .returned sv ∧ IntsAt w' sv l ∧ Below w.heap.size w w'
def RetKInts (k : Int) (l : List Int) (w : World) (e : Ending) (w' : World) : Prop := ∃ sv, e = .returned (.tuple #[.int .i64 k, sv]) ∧ IntsAt w' sv l ∧ Below w.heap.size w w'

def whoL (k id : Int) : List Int := if k = 4 then [id] else []
theorem whoL_some (id : Int) : whoL 4 id = [id] := rfl
theorem whoL_none {k id : Int} (h : k ≠ 4) : whoL k id = [] := by unfold whoL; rw [if_neg h]

set_option maxHeartbeats 400000 in
theorem who_any (k id : Int) (w : World) : Calls Try.prog 47 #[.int .i64 k, .int .i64 id] w (RetInts (whoL k id) w) := by
  by_cases h : k = 4
  · subst h
    go_enter Try.func47, Try.ntmps47
    go_wp2_with fail
    go_ret
    exact ⟨_, rfl, IntsAt.one _ _ _, bl_alloc (Below.refl _ _) _⟩
  · have hb : (k == 4) = false := by simp [h]
    rw [whoL_none h]
    clear h
    go_enter Try.func47, Try.ntmps47
    go_wp2_with fail
    go_ret
    exact ⟨_, rfl, IntsAt.nil _, Below.refl _ _⟩

/-- What is seen of a version. -/
def seeK (L : Int → Tx × Bool) (b e me at_ : Int) : Int :=
  if wordK L b me at_ 2 = 2 ∨ wordK L b me at_ 2 = 3 then wordK L b me at_ 2 else if wordK L e me at_ 1 = 3 then 3 else if wordK L e me at_ 1 = 2 then 1 else 2
def seeL (L : Int → Tx × Bool) (b e me at_ : Int) : List Int :=
  if wordK L b me at_ 2 = 2 ∨ wordK L b me at_ 2 = 3 then [] else if wordK L e me at_ 1 = 3 then [] else if wordK L e me at_ 1 = 2 then whoL (wordK L b me at_ 2) (wordN L b me at_) else whoL (wordK L e me at_ 1) (wordN L e me at_)

theorem sayK_range (L : Int → Tx × Bool) (n me at_ : Int) : sayK L n me at_ = 1 ∨ sayK L n me at_ = 2 ∨ sayK L n me at_ = 3 ∨ sayK L n me at_ = 4 := by
  unfold sayK pastK
  repeat' split
  all_goals simp
theorem wordK_range (L : Int → Tx × Bool) (x me at_ other : Int) (ho : other = 1 ∨ other = 2) : wordK L x me at_ other = 1 ∨ wordK L x me at_ other = 2 ∨ wordK L x me at_ other = 3 ∨ wordK L x me at_ other = 4 := by
  have := sayK_range L (rdN x) me at_
  unfold wordK pastK
  repeat' split
  all_goals first | omega | simp

set_option maxHeartbeats 400000 in
theorem see_any (b e me at_ : Int) (lk : Value) (L : Int → Tx × Bool) (w0 w : World) (ht : Tells w0 lk L) (hw : Below w0.heap.size w0 w) (h0 : 0 ≤ b) (h1 : b ≤ 18446744073709551615) (g0 : 0 ≤ e) (g1 : e ≤ 18446744073709551615) :
    Calls Try.prog 27 #[.int .u64 b, .int .u64 e, .int .i64 me, .int .u64 at_, lk] w (RetKInts (seeK L b e me at_) (seeL L b e me at_) w) := by
  have HB := Lib.hid (begin_any b me at_ lk L w0 w ht hw h0 h1)
  have HE := Lib.hid (fun w1 hw1 => end_any e me at_ lk L w0 w1 ht hw1 g0 g1)
  have hb := wordK_range L b me at_ 2 (.inr rfl)
  have he := wordK_range L e me at_ 1 (.inl rfl)
  unfold seeK seeL
  clear ht
  generalize wordK L b me at_ 2 = kb at *
  generalize wordK L e me at_ 1 = ke at *
  generalize wordN L b me at_ = nb at *
  generalize wordN L e me at_ = ne at *
  clear h0 h1 g0 g1
  have hb' : (kb = 1 ∨ kb = 4) ∨ (kb = 2 ∨ kb = 3) := by omega
  clear hb
  rcases hb' with hb' | hb'
  · rcases hb' with rfl | rfl <;> rcases he with rfl | rfl | rfl | rfl
    all_goals
      simp only [reduceIte, Int.reduceEq, or_self, whoL]
      go_enter Try.func27, Try.ntmps27
      go_wp2_with fail
      refine HB.out.mono ?_
      rintro ee w1 ⟨rfl, hb1⟩
      go_wp2_with fail
      refine (HE.out _ (hw.trans (hb1.mono hw.size))).mono ?_
      rintro ee w2 ⟨rfl, hb2⟩
      go_wp2_with (go_at_call 47; refine (who_any _ _ _).mono ?_; rintro ee w3 ⟨sv, rfl, hi, hb3⟩)
      go_ret2
      first | exact ⟨_, rfl, hi, bl_next (bl_next hb1 hb2) hb3⟩ | exact ⟨_, rfl, IntsAt.nil _, bl_next hb1 hb2⟩
  · rcases hb' with rfl | rfl
    all_goals
      simp only [reduceIte, Int.reduceEq, or_true, true_or]
      go_enter Try.func27, Try.ntmps27
      go_wp2_with fail
      refine HB.out.mono ?_
      rintro ee w1 ⟨rfl, hb1⟩
      go_wp2_with fail
      go_ret2
      exact ⟨_, rfl, IntsAt.nil _, hb1⟩

end Go.Proofs.Ytbiadeniplmkfaa
