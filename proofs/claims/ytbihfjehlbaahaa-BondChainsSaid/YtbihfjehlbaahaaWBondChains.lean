/- BondChains holds: of a chain, each bound to the one ahead, one that ends badly dooms all behind it, and none ahead; those that end well, one by one, set the next free. No condition. -/
import Derived.Test.YtbihfjehlbaahaaJH
namespace Go.Proofs.Ytbihfjehlbaahaa
open Go.RowKit Go.ChangeShapes

/-- Each waits for the one ahead. -/
def chainOn (x : Int) : List Int := if x ≤ 1 then [] else [x - 1]
theorem chain_less {n : Nat} : ∀ x : Int, 1 ≤ x → x ≤ n → ∀ y ∈ chainOn x, 1 ≤ y ∧ y < x := fun x _ _ y hy => by
  unfold chainOn at hy
  by_cases e : x ≤ 1
  · simp [e] at hy
  · simp [e] at hy; omega
theorem chain_reach {s : Bs} {n : Nat} {st : Int → Int} (h : Sts s n st chainOn) {a : Int} (ha : a ≤ n) : ∀ k : Nat, 1 ≤ a - (k + 1) → Reach s a (a - (k + 1))
  | 0, h1 => .one (by rw [h.on a (by omega) ha]; unfold chainOn; rw [if_neg (by omega)]; simp)
  | k + 1, h1 => by
    have ih := chain_reach h ha k (by omega)
    refine .more ih ?_
    rw [h.on _ (by omega) (by omega)]
    unfold chainOn
    rw [if_neg (by omega)]
    simp; omega
theorem chain_first {s : Bs} {st : Int → Int} {on : Int → List Int} (h : Sts s 1 (fun x => if x = 0 + 1 then 1 else st x) (fun x => if x = 0 + 1 then [] else on x)) : Sts s 1 (fun _ => 1) chainOn :=
  h.congr (fun x h1 h2 => by have : x = 1 := by omega
                             subst this; simp) (fun x h1 h2 => by have : x = 1 := by omega
                                                                  subst this; simp [chainOn])
theorem chain_next {s s' : Bs} {k : Nat} {c : Int} (hk : k ≠ 0) (h : Sts s (k + 1) (fun x => if x = (k : Int) + 1 then 1 else 1) (fun x => if x = (k : Int) + 1 then [] else chainOn x)) (hb : BindTo s ((k : Int) + 1) k c s') : c = 0 ∧ Sts s' (k + 1) (fun _ => 1) chainOn := by
  have hm := h.mem (x := (k : Int) + 1) (by omega) (by omega)
  have hmk := h.mem (x := (k : Int)) (by omega) (by omega)
  have hr : ¬ Reach s k ((k : Int) + 1) := fun hr => by
    have := reach_less (h.less (fun x h1 h2 y hy => by
      by_cases e : x = (k : Int) + 1
      · simp [e] at hy
      · simp only [if_neg e] at hy
        exact chain_less (n := k) x h1 (by omega) y hy)) hmk hr
    omega
  obtain ⟨rfl, rfl⟩ := hb.put_of hm hmk (by omega) (by rw [h.st _ (by omega) (by omega)]; simp) (by rw [h.on _ (by omega) (by omega)]; simp) (by rw [h.st _ (by omega) (by omega)]; simp) hr
  refine ⟨rfl, (h.bound _ _).congr (fun x _ _ => by simp) (fun x h1 h2 => ?_)⟩
  by_cases e : x = (k : Int) + 1
  · subst e
    simp only [if_true]
    unfold chainOn
    rw [if_neg (by omega)]
    simp
  · simp only [if_neg e]
/-- Those below a are well. -/
def goodTo (a x : Int) : Int := if x < a then 3 else 1
theorem chain_good {s : Bs} {n : Nat} {a : Int} (h : Sts s n (goodTo a) chainOn) (h1 : 1 ≤ a) (h2 : a + 1 ≤ n) : (a ∈ s.ids ∧ s.st a = 1 ∧ ∀ z ∈ s.on a, s.st z = 3) ∧ Sts (s.turn a 3) n (goodTo (a + 1)) chainOn ∧ ∀ l, Rise l ((s.turn a 3).frees a) → l = [a + 1] := by
  have hS : Sts (s.turn a 3) n (goodTo (a + 1)) chainOn := (h.turn a 3).congr (fun x _ _ => by
    unfold goodTo
    by_cases e : x = a
    · rw [if_pos e, if_pos (by omega)]
    · rw [if_neg e]
      by_cases e2 : x < a
      · rw [if_pos e2, if_pos (by omega)]
      · rw [if_neg e2, if_neg (by omega)]) (fun _ _ _ => rfl)
  refine ⟨⟨h.mem h1 (by omega), ?_, fun z hz => ?_⟩, hS, fun l hl => ?_⟩
  · rw [h.st a h1 (by omega)]; unfold goodTo; rw [if_neg (by omega)]
  · rw [h.on a h1 (by omega)] at hz
    have := chain_less (n := n) a h1 (by omega) z hz
    rw [h.st z this.1 (by omega)]
    unfold goodTo
    rw [if_pos this.2]
  · refine hl.eq (k := (⟨by simp, fun x => by simp⟩ : Rise [a + 1] (fun x => x = a + 1))) (fun x => ?_)
    constructor
    · rintro ⟨hx, -, h3, -⟩
      have hx2 := hS.le hx
      rw [hS.on x hx2.1 hx2.2] at h3
      unfold chainOn at h3
      by_cases e : x ≤ 1
      · simp [e] at h3
      · simp [e] at h3; omega
    · rintro rfl
      refine ⟨hS.mem (by omega) h2, .inl ?_, ?_, fun z hz => ?_⟩
      · rw [hS.st _ (by omega) h2]; unfold goodTo; rw [if_neg (by omega)]
      · rw [hS.on _ (by omega) h2]; unfold chainOn; rw [if_neg (by omega)]; simp
      · rw [hS.on _ (by omega) h2] at hz
        have := chain_less (n := n) _ (by omega) h2 z hz
        rw [hS.st z this.1 (by omega)]
        unfold goodTo
        rw [if_pos this.2]
theorem chain_doom {s : Bs} {n : Nat} {a : Int} (h : Sts s n (goodTo a) chainOn) (h1 : 1 ≤ a) (h2 : a ≤ n) (y : Int) : Doom s a y ↔ a ≤ y ∧ y ≤ n := by
  constructor
  · intro hy
    refine ⟨doom_above (fun x hx z hz => (h.less chain_less x hx z hz).1) hy, ?_⟩
    cases hy with
    | self => exact h2
    | step _ hi _ _ => exact (h.le hi).2
  · rintro ⟨g1, g2⟩
    have : ∀ k : Nat, a + k ≤ n → Doom s a (a + k) := by
      intro k
      induction k with
      | zero => intro _; simpa using Doom.self
      | succ k ih =>
        intro hk
        refine .step (ih (by omega)) (h.mem (by omega) hk) ?_ ?_
        · rw [h.st _ (by omega) hk]; unfold goodTo; rw [if_neg (by omega)]
        · rw [h.on _ (by omega) hk]; unfold chainOn; rw [if_neg (by omega)]; simp; omega
    have := this (y - a).toNat (by omega)
    rwa [show a + ((y - a).toNat : Int) = y by omega] at this
def runL (a : Int) (k : Nat) : List Int := List.map (fun (i : Nat) => a + 1 + (i : Int)) (List.range k)
theorem runL_rise (a : Int) (k : Nat) : Rise (runL a k) (fun x => a < x ∧ x ≤ a + k) := by
  refine ⟨?_, fun x => ?_⟩
  · unfold runL
    rw [List.pairwise_map]
    exact List.pairwise_lt_range.imp fun h => by omega
  · unfold runL
    rw [List.mem_map]
    constructor
    · rintro ⟨i, hi, rfl⟩
      have := List.mem_range.1 hi
      omega
    · intro h
      exact ⟨(x - a - 1).toNat, List.mem_range.2 (by omega), by omega⟩
theorem runL_len (a : Int) (k : Nat) : (runL a k).length = k := by simp [runL]
theorem runL_at (a : Int) {k j : Nat} (h : j < k) : (runL a k).getD j 0 = a + 1 + j := by simp [runL, List.getD_eq_getElem?_getD, h]
def endedAt (a x : Int) : Int := if x < a then 3 else if x = a then 4 else 2
theorem chain_bad {s : Bs} {n : Nat} {a : Int} (h : Sts s n (goodTo a) chainOn) (h1 : 1 ≤ a) (h2 : a ≤ n) {P l : List Int} (hP : ∀ y, y ∈ P ↔ Doom s a y) (hl : Rise l (fun x => Doom s a x ∧ s.st x = 1 ∧ x ≠ a)) :
    l = runL a (n - a).toNat ∧ Sts ((s.doomed P).turn a 4) n (endedAt a) chainOn := by
  refine ⟨hl.eq (runL_rise a _) (fun x => ?_), ((h.doomed P).turn a 4).congr (fun x g1 g2 => ?_) (fun _ _ _ => rfl)⟩
  · rw [chain_doom h h1 h2]
    constructor
    · rintro ⟨⟨g1, g2⟩, -, g3⟩
      omega
    · rintro ⟨g1, g2⟩
      refine ⟨by omega, ?_, by omega⟩
      rw [h.st x (by omega) (by omega)]
      unfold goodTo
      rw [if_neg (by omega)]
  · have hx : x ∈ P ↔ a ≤ x := by rw [hP, chain_doom h h1 h2]; exact ⟨fun h => h.1, fun h => ⟨h, g2⟩⟩
    simp only [hx]
    unfold endedAt goodTo
    by_cases e : x = a
    · rw [if_pos e, if_neg (by omega), if_pos e]
    · rw [if_neg e]
      by_cases e2 : x < a
      · rw [if_pos e2, if_pos e2, if_neg (by omega)]
      · rw [if_neg e2, if_neg e2, if_pos ⟨by omega, rfl⟩, if_neg e]

set_option maxRecDepth 100000 in
set_option maxHeartbeats 6400000 in
theorem bondChains_walk {a0 a1 : Int} {w : World} (_w0 : (Lit.int .i64 a0).wf = true) (_w1 : (Lit.int .i64 a1).wf = true) :
    Calls Try.prog 9 #[.int .i64 a0, .int .i64 a1] w fun e w' => e = .returned (.bool true) ∧ Below w.heap.size w w' := by
  have m0 := i64_and255 a0
  have m1 := i64_and255 a1
  obtain ⟨x, hx, hx2⟩ : ∃ x : Nat, a0 % 256 = x ∧ x < 256 := ⟨(a0 % 256).toNat, by omega, by omega⟩
  obtain ⟨y, hy, hy2⟩ : ∃ y : Nat, a1 % 256 = y ∧ y < 256 := ⟨(a1 % 256).toNat, by omega, by omega⟩
  rw [hx] at m0
  rw [hy] at m1
  clear hx hy _w0 _w1
  have HN := Lib.hid (bs_new (Sep.nil w))
  obtain ⟨n, hn, n1, n2⟩ : ∃ n : Nat, ((n : Int) = (x : Int) % 60 + 2) ∧ 2 ≤ n ∧ n ≤ 61 := ⟨x % 60 + 2, by omega, by omega, by omega⟩
  have hn0 : ((n : Int) == 0) = false := by simp; omega
  have hqy : (y : Int) % n = ((y % n : Nat) : Int) := by simp
  obtain ⟨a, ha, a1, a2⟩ : ∃ a : Nat, wrap64 ((y : Int) % n + 1) = a ∧ 1 ≤ a ∧ a ≤ n := ⟨y % n + 1, by have := Nat.mod_lt y (show 0 < n by omega); rw [hqy]; unfold wrap64; omega, by omega, by have := Nat.mod_lt y (show 0 < n by omega); omega⟩
  have HNN := Lib.hid hn
  have HA := Lib.hid ha
  clear hn ha hqy
  go_enter Try.func9, Try.ntmps9
  go_upto_region 2 with fail
  rw [← HNN.out]
  go_upto_region 3 with fail
  rw [HA.out]
  have HY := Lib.hid hy2
  clear HNN HA m0 m1 hx2 hy2 hn0
  go_wp2_with fail
  refine HN.out.mono ?_
  rintro e w1 ⟨b, F, rfl, hW⟩
  have H1 := Lib.hid hW
  clear hW HN
  go_wp2_with fail
  go_loopg [6] n (fun kx iv wr => ∃ (k : Nat) (F : Nat → Prop) (s : Bs), iv = .int .i64 ((k : Int) + 1) ∧ k ≤ n ∧ n - k ≤ kx ∧ Hid (Sep w wr [obBonds b F s]) ∧ Hid (Sts s k (fun _ => 1) chainOn))
  case atStart => exact ⟨0, F, Bs.new, rfl, Nat.zero_le _, by omega, H1, Lib.hid Sts.new⟩
  case round =>
    obtain ⟨k, F2, s, rfl, hk, hkx, HW, HS⟩ := hrel
    clear H1
    by_cases hlt : k < n
    · have p1 : (k : Int) + 1 ≤ (n : Int) := by omega
      have HO := Lib.hid (bs_next HW.out HS.out (by omega))
      clear HW HS
      by_cases hk0 : k = 0
      · have hd1 : decide ((1 : Int) < (k : Int) + 1) = false := by simp; omega
        have HK0 := Lib.hid hk0
        clear hk0
        go_wp2_with fail
        refine HO.out.mono ?_
        rintro e w2 ⟨F3, s3, rfl, hW, hS⟩
        have H3 := Lib.hid hW
        have HS3 := Lib.hid (show Sts s3 (k + 1) (fun _ => 1) chainOn by have h := HK0.out; subst h; exact chain_first hS)
        clear hW hS HO HK0
        go_wp2_with fail
        go_roundg (n - (k + 1))
        case rel => exact ⟨k + 1, F3, s3, by go_num, by omega, by omega, H3, HS3⟩
        case measure => omega
      · have hd1 : decide ((1 : Int) < (k : Int) + 1) = true := by simp; omega
        have hsub : wrap64 ((k : Int) + 1 - 1) = k := by unfold wrap64; omega
        go_wp2_with fail
        refine HO.out.mono ?_
        rintro e w2 ⟨F3, s3, rfl, hW, hS⟩
        have HB := Lib.hid (bs_bind hW (id := (k : Int) + 1) (tz := k) (wf_int (by omega) (by omega)) (wf_int (by omega) (by omega)))
        have HS3 := Lib.hid (fun s' c hb => chain_next (s' := s') (c := c) hk0 hS hb)
        clear hW hS HO hk0
        go_wp2_with fail
        refine HB.out.mono ?_
        rintro e w3 ⟨F4, c4, s4, rfl, hb, hW⟩
        obtain ⟨rfl, hS4⟩ := HS3.out s4 c4 hb
        have H4 := Lib.hid hW
        have HS4 := Lib.hid hS4
        clear hW hS4 hb HB HS3
        go_wp2_with fail
        go_roundg (n - (k + 1))
        case rel => exact ⟨k + 1, F4, s4, by go_num, by omega, by omega, H4, HS4⟩
        case measure => omega
    · obtain rfl : k = n := by omega
      have p1 : ¬ (k : Int) + 1 ≤ (k : Int) := by omega
      have HS1 := Lib.hid (show Sts s k (goodTo (((0 : Nat) : Int) + 1)) chainOn from HS.out.congr (fun x h1 _ => by unfold goodTo; rw [if_neg (by omega)]) (fun _ _ _ => rfl))
      clear hk hkx hlt HS
      go_wp2_with fail
      go_loopg [7] a (fun kx iv wr => ∃ (i : Nat) (F : Nat → Prop) (s : Bs), iv = .int .i64 ((i : Int) + 1) ∧ i + 1 ≤ a ∧ a - i ≤ kx ∧ Hid (Sep w wr [obBonds b F s]) ∧ Hid (Sts s k (goodTo ((i : Int) + 1)) chainOn))
      case atStart => exact ⟨0, F2, s, rfl, by omega, by omega, HW, HS1⟩
      case round =>
        obtain ⟨i, F3, s3, rfl, hi, hix, H3, HS3⟩ := hrel
        clear HW HS1
        by_cases hia : i + 1 < a
        · have p2 : (i : Int) + 1 < (a : Int) := by omega
          have hcg := chain_good HS3.out (by omega) (by omega)
          have HG := Lib.hid (bs_good_yes H3.out (id := (i : Int) + 1) (wf_int (by omega) (by omega)) hcg.1.1 hcg.1.2.1 hcg.1.2.2)
          have HS4 := Lib.hid hcg.2.1
          have HL := Lib.hid hcg.2.2
          clear hcg H3 HS3
          go_wp2_with fail
          refine HG.out.mono ?_
          rintro e w4 ⟨v, l, rfl, hr, hW⟩
          obtain rfl := HL.out l hr
          have H4 := Lib.hid hW
          generalize s3.turn ((i : Int) + 1) 3 = s4 at *
          clear hr hW HG HL
          go_wp2_with fail
          refine (same_ints (l := [(i : Int) + 1 + 1]) (m := [(i : Int) + 1 + 1]) (H4.out.read.later ((Below.refl _ _).alloc (Nat.le_refl _) _)) (RowAt.one _ _ _ _)).mono ?_
          rintro e w5 ⟨rfl, hb5⟩
          have H5 := Lib.hid ((H4.out.tail.below ((Below.refl _ _).alloc (Nat.le_refl _) _)).below hb5)
          have hdt : decide ([(i : Int) + 1 + 1] = [(i : Int) + 1 + 1]) = true := by simp
          rw [hdt]
          clear hb5 H4 hdt
          go_wp2_with fail
          go_roundg (a - (i + 1))
          case rel => exact ⟨i + 1, F3, s4, by go_num, by omega, by omega, H5, HS4⟩
          case measure => omega
        · have eia : (i : Int) + 1 = (a : Int) := by omega
          rw [eia] at HS3 ⊢
          clear hia hi hix eia
          have hsta : s3.st a = 1 := by rw [HS3.out.st a (by omega) (by omega)]; unfold goodTo; rw [if_neg (by omega)]
          have HBD := Lib.hid (bs_bad_yes H3.out (id := (a : Int)) (wf_int (by omega) (by omega)) (HS3.out.mem (by omega) (by omega)) (.inl hsta))
          have HCB := Lib.hid (fun P l hP hl => chain_bad HS3.out (by omega) (by omega) (P := P) (l := l) hP hl)
          obtain ⟨q, hq⟩ : ∃ q : Nat, q = k - a := ⟨_, rfl⟩
          have hq2 : ((k : Int) - a).toNat = q := by omega
          have hq3 : (k : Int) - (a : Int) = (q : Int) := by omega
          rw [hq2] at HCB
          have HQ := Lib.hid hq
          clear H3 HS3 hsta hq hq2
          go_wp2_with fail
          refine HBD.out.mono ?_
          rintro e w4 ⟨v, l, P, rfl, hP, hr, hW⟩
          obtain ⟨rfl, hS4⟩ := HCB.out P l hP hr
          have H4 := Lib.hid hW
          have HS4 := Lib.hid hS4
          obtain ⟨la, lc, rfl, hl2, hl3⟩ := RowAt.form H4.out.read
          rw [runL_len] at *
          generalize (s3.doomed P).turn (a : Int) 4 = s4 at *
          have HL3 := Lib.hid hl3
          clear hP hr hW hS4 HBD HCB hl3 hl2
          go_wp2_with fail
          go_loopg [12] q (fun kx iv wr => ∃ (j : Nat), iv = .int .i64 ((a : Int) + 1 + (j : Int)) ∧ j ≤ q ∧ q - j ≤ kx ∧ Hid (Sep w wr [obRead (.slice la q lc) (runL (a : Int) q), obBonds b F3 s4]))
          case atStart => exact ⟨0, by simp, Nat.zero_le _, Nat.le_refl _, H4⟩
          case round =>
            obtain ⟨j, rfl, hj, hjx, H5⟩ := hrel
            clear H4 hq3
            have hkq := HQ.out
            by_cases hjq : j < q
            · have p3 : (a : Int) + 1 + (j : Int) ≤ (k : Int) := by omega
              have hst5 : s4.st ((a : Int) + 1 + j) = 2 := by rw [HS4.out.st _ (by omega) (by omega)]; unfold endedAt; rw [if_neg (by omega), if_neg (by omega)]
              have HG := Lib.hid (bs_good_no H5.out.swap (id := (a : Int) + 1 + j) (c := 7) (wf_int (by omega) (by omega)) (fun c' l t hg => by
                have := hg.over_of (HS4.out.mem (by omega) (by omega)) (by rw [hst5]; decide)
                exact ⟨this.1, this.2.1⟩))
              have hso : s4.stOf ((a : Int) + 1 + j) = 2 := by rw [HS4.out.stOf (by omega) (by omega)]; unfold endedAt; rw [if_neg (by omega), if_neg (by omega)]
              have HSO := Lib.hid hso
              obtain ⟨g, o, rfl⟩ := HL3.out j hjq
              have hix : (a : Int) + 1 + j - a - 1 = (j : Int) := by omega
              have q0 : (0 : Int) ≤ (j : Int) := by omega
              have q1 : (j : Int) < (q : Int) := by omega
              clear H5 hst5 hso hkq
              go_wp2_with fail
              refine HG.out.mono ?_
              rintro e w6 ⟨v6, rfl, hW⟩
              have H6 := Lib.hid hW.swap
              have d6 := RowAt.at_ H6.out.read (i := j) (by rw [runL_len]; exact hjq)
              rw [runL_at _ hjq] at d6
              have HST := Lib.hid (bs_state_of hW (id := (a : Int) + 1 + j) (wf_int (by omega) (by omega)) HSO.out)
              clear hW HG
              go_wp2_with fail
              refine HST.out.mono ?_
              rintro e w7 ⟨rfl, rfl⟩
              clear HST
              go_wp2_with fail
              go_roundg (q - (j + 1))
              case rel => exact ⟨j + 1, by go_num, by omega, by omega, H6⟩
              case measure => omega
            · obtain rfl : j = q := by omega
              have p3 : ¬ (a : Int) + 1 + (j : Int) ≤ (k : Int) := by omega
              have hs1 : ¬ (s4.st 1 = 1 ∨ s4.st 1 = 2) := by
                rw [HS4.out.st 1 (by omega) (by omega)]
                unfold endedAt
                by_cases e : (1 : Int) < a
                · rw [if_pos e]; omega
                · rw [if_neg e, if_pos (by omega)]; omega
              have HB := Lib.hid (bs_bind_of H5.out.swap (id := 1) (tz := (k : Int)) (c := 7) (s' := s4) (by decide) (wf_int (by omega) (by omega)) (fun c' t hb => hb.over_of (HS4.out.mem (by omega) (by omega)) (HS4.out.mem (by omega) (by omega)) (by omega) hs1))
              have hso : s4.stOf (a : Int) = 4 := by rw [HS4.out.stOf (by omega) (by omega)]; unfold endedAt; rw [if_neg (by omega), if_pos rfl]
              have HSO := Lib.hid hso
              clear H5 hso hs1 hkq hj hjx hjq
              go_wp2_with fail
              refine HB.out.mono ?_
              rintro e w6 ⟨F6, rfl, hW⟩
              have HST := Lib.hid (bs_state_of hW (id := (a : Int)) (wf_int (by omega) (by omega)) HSO.out)
              have HB6 := Lib.hid hW.bel
              clear hW HB
              go_wp2_with fail
              refine HST.out.mono ?_
              rintro e w7 ⟨rfl, rfl⟩
              go_wp2_with fail
              refine (awake16_any _).mono ?_
              rintro e w8 ⟨rfl, hb8⟩
              have HB8 := Lib.hid hb8
              clear hb8
              go_wp2_with fail
              go_ret
              exact ⟨rfl, bl_next HB6.out HB8.out⟩
end Go.Proofs.Ytbihfjehlbaahaa
