/- BondRising holds: where everyone is bound to lesser ones alone all may end well, one by one from the least on; each is free when all it waits for are well. No condition. -/
import Derived.Test.YtbihfjehlbaahaaJL
namespace Go.Proofs.Ytbihfjehlbaahaa
open Go.RowKit Go.ChangeShapes

/-- Those below i have ended well. -/
structure Up (s : Bs) (n : Nat) (N : List Bool) (i : Nat) : Prop where
  ids : s.ids = upto n
  st : ∀ x : Int, 1 ≤ x → x ≤ n → s.st x = if x < i then 3 else 1
  less : ∀ x : Int, 1 ≤ x → x ≤ n → ∀ y ∈ s.on x, 1 ≤ y ∧ y < x
  tells : ∀ x y : Nat, 1 ≤ x → x ≤ n → 1 ≤ y → y ≤ n → (N.getD (x * 32 + y) false = true ↔ (y : Int) ∈ s.on x)
section
variable {s : Bs} {n : Nat} {N : List Bool} {i : Nat}
theorem Need.up (h : Need s n N) : Up s n N 1 := ⟨h.ids, fun x h1 h2 => by rw [h.st x h1 h2, if_neg (by omega)], h.less, h.tells⟩
theorem Up.sts (h : Up s n N i) : Sts s n (fun x => if x < i then 3 else 1) s.on := ⟨h.ids, h.st, fun _ _ _ => rfl⟩
theorem Up.free (h : Up s n N i) (h1 : 1 ≤ i) (h2 : i ≤ n) : (i : Int) ∈ s.ids ∧ s.st i = 1 ∧ ∀ z ∈ s.on i, s.st z = 3 :=
  ⟨h.sts.mem (by omega) (by omega), by rw [h.st _ (by omega) (by omega), if_neg (by omega)], fun z hz => by
    have := h.less i (by omega) (by omega) z hz
    rw [h.st z this.1 (by omega), if_pos this.2]⟩
theorem Up.next (h : Up s n N i) : Up (s.turn i 3) n N (i + 1) := ⟨h.ids, fun x h1 h2 => by
    simp only [Bs.turn]
    by_cases e : x = i
    · rw [if_pos e, if_pos (by omega)]
    · rw [if_neg e, h.st x h1 h2]
      by_cases e2 : x < i
      · rw [if_pos e2, if_pos (by omega)]
      · rw [if_neg e2, if_neg (by omega)], h.less, h.tells⟩
/-- Who is free behind the end of i. -/
theorem Up.frees (h : Up s n N (i + 1)) (_h1 : 1 ≤ i) (h2 : i ≤ n) (x : Int) : s.frees i x ↔ (i : Int) < x ∧ x ≤ n ∧ (i : Int) ∈ s.on x ∧ ∀ j : Nat, i < j → (j : Int) < x → (j : Int) ∉ s.on x := by
  constructor
  · rintro ⟨hx, _, h3, h4⟩
    have hx2 := h.sts.le hx
    have hl := h.less x hx2.1 hx2.2 i h3
    refine ⟨hl.2, hx2.2, h3, fun j hj hjx hin => ?_⟩
    have := h4 j hin
    rw [h.st j (by omega) (by omega), if_neg (by omega)] at this
    omega
  · rintro ⟨g1, g2, g3, g4⟩
    refine ⟨h.sts.mem (by omega) g2, .inl (by rw [h.st x (by omega) g2, if_neg (by omega)]), g3, fun z hz => ?_⟩
    have hz2 := h.less x (by omega) g2 z hz
    by_cases e : z < (i : Int) + 1
    · rw [h.st z hz2.1 (by omega), if_pos (by omega)]
    · exact absurd hz (by have := g4 z.toNat (by omega) (by omega); rwa [show ((z.toNat : Nat) : Int) = z by omega] at this)
/-- Those free ahead of k. -/
def Frees (s : Bs) (i k : Nat) (W : List Int) : Prop := Rise W (fun x => s.frees i x ∧ x < k)
theorem Frees.no {k : Nat} {W : List Int} (h : Frees s i k W) (hn : ¬ s.frees i k) : Frees s i (k + 1) W := ⟨h.1, fun y => by
  rw [h.2 y]
  refine ⟨fun g => ⟨g.1, by omega⟩, fun g => ⟨g.1, ?_⟩⟩
  by_cases e : y = k
  · exact absurd (e ▸ g.1) hn
  · omega⟩
theorem Frees.yes {k : Nat} {W : List Int} (h : Frees s i k W) (hd : s.frees i k) : Frees s i (k + 1) (W ++ [(k : Int)]) := by
  refine ⟨List.pairwise_append.2 ⟨h.1, by simp, fun x hx y hy => ?_⟩, fun y => ?_⟩
  · simp only [List.mem_singleton] at hy
    have := (h.2 x).1 hx
    omega
  · rw [List.mem_append, List.mem_singleton, h.2 y]
    constructor
    · rintro (g | rfl)
      · exact ⟨g.1, by omega⟩
      · exact ⟨hd, by omega⟩
    · rintro ⟨g1, g2⟩
      by_cases e : y = k
      · exact .inr e
      · exact .inl ⟨g1, by omega⟩
end

set_option maxRecDepth 100000 in
set_option maxHeartbeats 12800000 in
theorem bondRising_walk {a0 : Int} {fa ta : Option Addr} {fl fc tl tc : Nat} {l1 l2 : List Int} {w : World} (_w0 : (Lit.int .i64 a0).wf = true) (n1 : l1.length = fl) (r1 : RowAt .i64 w (.slice fa fl fc) l1) (_w1 : ∀ x ∈ l1, (Lit.int .i64 x).wf = true)
    (n2 : l2.length = tl) (r2 : RowAt .i64 w (.slice ta tl tc) l2) (_w2 : ∀ x ∈ l2, (Lit.int .i64 x).wf = true) :
    Calls Try.prog 4 #[.int .i64 a0, .slice fa fl fc, .slice ta tl tc] w fun e w' => e = .returned (.bool true) ∧ Below w.heap.size w w' := by
  subst n1 n2
  have m0 := i64_and255 a0
  obtain ⟨x, hx, hx2⟩ : ∃ x : Nat, a0 % 256 = x ∧ x < 256 := ⟨(a0 % 256).toNat, by omega, by omega⟩
  rw [hx] at m0
  clear hx _w0 _w1 _w2
  obtain ⟨_, _, hr1, k1, j1⟩ := r1.form
  obtain ⟨_, _, hr2, k2, j2⟩ := r2.form
  unfold maxLen at k1 k2
  have R1 := Lib.hid r1
  have R2 := Lib.hid r2
  have J1 := Lib.hid (show ∀ i, i < l1.length → ∃ g o, fa = some ⟨g, o, none⟩ by simp only [Value.slice.injEq] at hr1; rw [hr1.1]; exact j1)
  have J2 := Lib.hid (show ∀ i, i < l2.length → ∃ g o, ta = some ⟨g, o, none⟩ by simp only [Value.slice.injEq] at hr2; rw [hr2.1]; exact j2)
  have HN := Lib.hid (bs_new (Sep.nil w))
  obtain ⟨n, hn, n1, n2⟩ : ∃ n : Nat, ((n : Int) = (x : Int) % 29 + 2) ∧ 2 ≤ n ∧ n ≤ 30 := ⟨x % 29 + 2, by omega, by omega, by omega⟩
  have hn0 : ((n : Int) == 0) = false := by simp; omega
  have HNN := Lib.hid hn
  have HAL := Lib.hid alloc_need
  clear hn r1 r2 hr1 hr2 j1 j2
  go_enter Try.func4, Try.ntmps4
  go_upto_region 2 with fail
  rw [← HNN.out]
  clear m0 HNN hx2 hn0
  go_wp2_with fail
  refine HN.out.mono ?_
  rintro e w1 ⟨b, F, rfl, hW⟩
  have H1 := Lib.hid hW
  clear hW HN
  go_wp2_with fail
  go_loopg [8] n (fun kx iv wr => ∃ (k : Nat) (F : Nat → Prop) (s : Bs), iv = .int .i64 ((k : Int) + 1) ∧ k ≤ n ∧ n - k ≤ kx ∧ Hid (Sep w wr [obBonds b F s]) ∧ Hid (Sts s k (fun _ => 1) (fun _ => [])))
  case atStart => exact ⟨0, F, Bs.new, rfl, Nat.zero_le _, by omega, H1, Lib.hid Sts.new⟩
  case round =>
    obtain ⟨k, F2, s, rfl, hk, hkx, HW, HS⟩ := hrel
    clear H1
    by_cases hlt : k < n
    · have p1 : (k : Int) + 1 ≤ (n : Int) := by omega
      have HO := Lib.hid (bs_next HW.out HS.out (by omega))
      clear HW HS HAL
      go_wp2_with fail
      refine HO.out.mono ?_
      rintro e w3 ⟨F3, s3, rfl, hW, hS⟩
      have H3 := Lib.hid hW
      have HS3 := Lib.hid (open_next hS)
      clear hW hS HO
      go_wp2_with fail
      go_roundg (n - (k + 1))
      case rel => exact ⟨k + 1, F3, s3, by go_num, by omega, by omega, H3, HS3⟩
      case measure => omega
    · obtain rfl : k = n := by omega
      have p1 : ¬ (k : Int) + 1 ≤ (k : Int) := by omega
      have HND := Lib.hid (need_new HS.out)
      have HWA := Lib.hid (HW.out.bools 1024 35)
      clear HS hk hkx hlt
      have hal := HAL.out
      go_wp2_with fail
      clear hal HAL
      generalize hg1 : wr.heap.size = g1 at *
      clear hg1 HW
      go_loopg [10] 100 (fun kx iv wx => ∃ (i : Nat) (F : Nat → Prop) (s : Bs) (N : List Bool), iv = .int .i64 (i : Int) ∧ i ≤ 100 ∧ 100 - i ≤ kx ∧ Hid (Sep w wx [obBools g1 N 35, obBonds b F s]) ∧ Hid (Need s k N))
      case atStart => exact ⟨0, F2, s, List.replicate 1024 false, rfl, by omega, by omega, HWA, HND⟩
      case round =>
        obtain ⟨i, F3, s3, N, rfl, hi, hix, H3, HN3⟩ := hrel
        clear HWA HND
        have q0 : (0 : Int) ≤ (i : Int) := by omega
        go_upto_region 12 with fail
        go_cut [51] (fun s51 wx => s51 = .bool (decide (i < l1.length ∧ i < l2.length ∧ i < 100)) ∧ wx = wr)
        case first =>
          as_aux_lemma =>
            by_cases e1 : i < l1.length
            · have p1 : (i : Int) < (l1.length : Int) := by omega
              by_cases e2 : i < l2.length
              · have p2 : (i : Int) < (l2.length : Int) := by omega
                by_cases e3 : i < 100
                · have p3 : (i : Int) < 100 := by omega
                  have HD := Lib.hid (decide_eq_true (And.intro e1 (And.intro e2 e3)))
                  clear e1 e2 e3
                  go_wp2_with fail
                  go_meet
                  case rel => exact ⟨by rw [HD.out]; try rfl, rfl⟩
                · have p3 : ¬ (i : Int) < 100 := by omega
                  have HD := Lib.hid (decide_eq_false (fun h : i < l1.length ∧ i < l2.length ∧ i < 100 => e3 h.2.2))
                  clear e1 e2 e3
                  go_wp2_with fail
                  go_meet
                  case rel => exact ⟨by rw [HD.out]; try rfl, rfl⟩
              · have p2 : ¬ (i : Int) < (l2.length : Int) := by omega
                have HD := Lib.hid (decide_eq_false (fun h : i < l1.length ∧ i < l2.length ∧ i < 100 => e2 h.2.1))
                clear e1 e2
                go_wp2_with fail
                go_meet
                case rel => exact ⟨by rw [HD.out]; try rfl, rfl⟩
            · have p1 : ¬ (i : Int) < (l1.length : Int) := by omega
              have HD := Lib.hid (decide_eq_false (fun h : i < l1.length ∧ i < l2.length ∧ i < 100 => e1 h.1))
              clear e1
              go_wp2_with fail
              go_meet
              case rel => exact ⟨by rw [HD.out]; try rfl, rfl⟩
        case rest =>
         as_aux_lemma =>
          obtain ⟨rfl, rfl⟩ := hcut
          by_cases hin : i < l1.length ∧ i < l2.length ∧ i < 100
          · rw [decide_eq_true hin]
            obtain ⟨e1, e2, e3⟩ := hin
            have p1 : (i : Int) < (l1.length : Int) := by omega
            have p2 : (i : Int) < (l2.length : Int) := by omega
            have hbl := H3.out.bel
            obtain ⟨ga, oa, rfl⟩ := J1.out i e1
            obtain ⟨gb, ob, rfl⟩ := J2.out i e2
            have d1 := (R1.out.later hbl).at_ e1
            have d2 := (R2.out.later hbl).at_ e2
            have m1 := i64_and255 (l1.getD i 0)
            have m2 := i64_and255 (l2.getD i 0)
            obtain ⟨p, hp, hp2⟩ : ∃ p : Nat, l1.getD i 0 % 256 = p ∧ p < 256 := ⟨(l1.getD i 0 % 256).toNat, by omega, by omega⟩
            obtain ⟨q, hq, hq2⟩ : ∃ q : Nat, l2.getD i 0 % 256 = q ∧ q < 256 := ⟨(l2.getD i 0 % 256).toNat, by omega, by omega⟩
            rw [hp] at m1
            rw [hq] at m2
            have hk0 : ((k : Int) == 0) = false := by simp; omega
            have hqp : (p : Int) % k = ((p % k : Nat) : Int) := by simp
            have hqq : (q : Int) % k = ((q % k : Nat) : Int) := by simp
            obtain ⟨xx, hx, x1, x2⟩ : ∃ a : Nat, wrap64 ((p : Int) % k + 1) = a ∧ 1 ≤ a ∧ a ≤ k := ⟨p % k + 1, by have := Nat.mod_lt p (show 0 < k by omega); rw [hqp]; unfold wrap64; omega, by omega, by have := Nat.mod_lt p (show 0 < k by omega); omega⟩
            obtain ⟨yy, hy, y1, y2⟩ : ∃ a : Nat, wrap64 ((q : Int) % k + 1) = a ∧ 1 ≤ a ∧ a ≤ k := ⟨q % k + 1, by have := Nat.mod_lt q (show 0 < k by omega); rw [hqq]; unfold wrap64; omega, by omega, by have := Nat.mod_lt q (show 0 < k by omega); omega⟩
            have HX := Lib.hid hx
            have HY := Lib.hid hy
            have HSD := Lib.hid (fun n => H3.out.still ((Mod.refl (fun _ => False) wc).drewN n))
            generalize l1.getD i 0 = f1 at *
            generalize l2.getD i 0 = f2 at *
            clear hp hq hqp hqq hx hy hbl H3
            go_upto_region 14 with fail
            go_quiet (fail)
            rw [HX.out, HY.out]
            have H4 := Lib.hid (HSD.out nq)
            generalize wc.drewN nq = wq at *
            clear HSD d1 d2 m1 m2 hk0 HX HY hp2 hq2
            by_cases hyx : yy < xx
            · have p3 : ¬ (xx : Int) < (yy : Int) := by omega
              have e4 : ((xx : Int) == (yy : Int)) = false := by simp; omega
              have HB := Lib.hid ((bs_bind H4.out.swap (id := (xx : Int)) (tz := (yy : Int)) (wf_int (by omega) (by omega)) (wf_int (by omega) (by omega))).mono (fun e w' (h : ∃ F' c t, _) => (by
                obtain ⟨F', c, t, he, hb, hS⟩ := h
                obtain ⟨rfl, hN⟩ := need_bind HN3.out n2 y1 hyx x2 hb
                exact ⟨F', t, he, hS.swap, hN⟩ : ∃ F' t, e = .returned (.int .i64 0) ∧ Sep w w' [obBools g1 N 35, obBonds b F' t] ∧ Need t k (N.set (xx * 32 + yy) true))))
              have HLN := Lib.hid HN3.out.len
              clear H4 HN3
              go_wp2_with fail
              refine HB.out.mono ?_
              rintro e w5 ⟨F5, s5, rfl, hW, hN⟩
              have H5 := Lib.hid hW
              have HN5 := Lib.hid hN
              have c5 := hW.bools_at (i := xx * 32 + yy) (by rw [HLN.out]; omega)
              have z5 := blk_free hW.head (xx * 32 + yy)
              have b1 : (xx : Int) < 32 := by omega
              have b2 : (yy : Int) < 32 := by omega
              have b3 : (0 : Int) ≤ (xx : Int) := by omega
              have b4 : (0 : Int) ≤ (yy : Int) := by omega
              clear hW hN HB
              have H6 := Lib.hid (H5.out.bools_set (xx * 32 + yy) true)
              go_wp2_with fail
              go_roundg (100 - (i + 1))
              case rel => exact ⟨i + 1, F5, s5, N.set (xx * 32 + yy) true, by go_num, by omega, by omega, H6, HN5⟩
              case measure => omega
            · by_cases hxy : xx < yy
              · have p3 : (xx : Int) < (yy : Int) := by omega
                have e4 : ((yy : Int) == (xx : Int)) = false := by simp; omega
                have HB := Lib.hid ((bs_bind H4.out.swap (id := (yy : Int)) (tz := (xx : Int)) (wf_int (by omega) (by omega)) (wf_int (by omega) (by omega))).mono (fun e w' (h : ∃ F' c t, _) => (by
                  obtain ⟨F', c, t, he, hb, hS⟩ := h
                  obtain ⟨rfl, hN⟩ := need_bind HN3.out n2 x1 hxy y2 hb
                  exact ⟨F', t, he, hS.swap, hN⟩ : ∃ F' t, e = .returned (.int .i64 0) ∧ Sep w w' [obBools g1 N 35, obBonds b F' t] ∧ Need t k (N.set (yy * 32 + xx) true))))
                have HLN := Lib.hid HN3.out.len
                clear H4 HN3
                go_wp2_with fail
                refine HB.out.mono ?_
                rintro e w5 ⟨F5, s5, rfl, hW, hN⟩
                have H5 := Lib.hid hW
                have HN5 := Lib.hid hN
                have c5 := hW.bools_at (i := yy * 32 + xx) (by rw [HLN.out]; omega)
                have z5 := blk_free hW.head (yy * 32 + xx)
                have b1 : (xx : Int) < 32 := by omega
                have b2 : (yy : Int) < 32 := by omega
                have b3 : (0 : Int) ≤ (xx : Int) := by omega
                have b4 : (0 : Int) ≤ (yy : Int) := by omega
                clear hW hN HB
                have H6 := Lib.hid (H5.out.bools_set (yy * 32 + xx) true)
                go_wp2_with fail
                go_roundg (100 - (i + 1))
                case rel => exact ⟨i + 1, F5, s5, N.set (yy * 32 + xx) true, by go_num, by omega, by omega, H6, HN5⟩
                case measure => omega
              · have p3 : ¬ (xx : Int) < (yy : Int) := by omega
                have e4 : ((xx : Int) == (yy : Int)) = true := by simp; omega
                clear hxy hyx
                go_wp2_with fail
                go_roundg (100 - (i + 1))
                case rel => exact ⟨i + 1, F3, s3, N, by go_num, by omega, by omega, H4, HN3⟩
                case measure => omega
          · rw [decide_eq_false hin]
            clear hin hi hix q0 J1 J2 R1 R2
            have HUP := Lib.hid HN3.out.up
            have HLN := Lib.hid HN3.out.len
            clear HN3
            go_wp2_with fail
            go_loopg [13] k (fun kx iv wx => ∃ (i : Nat) (F : Nat → Prop) (s : Bs), iv = .int .i64 (i : Int) ∧ 1 ≤ i ∧ i ≤ k + 1 ∧ k + 1 - i ≤ kx ∧ Hid (Sep w wx [obBools g1 N 35, obBonds b F s]) ∧ Hid (Up s k N i))
            case atStart => exact ⟨1, F3, s3, rfl, Nat.le_refl _, by omega, by omega, H3, HUP⟩
            case round =>
              obtain ⟨i, F4, s4, rfl, hi1, hi2, hix, H4, HU4⟩ := hrel
              clear H3 HUP
              by_cases hik : i ≤ k
              · have p3 : (i : Int) ≤ (k : Int) := by omega
                obtain ⟨M, hM⟩ : ∃ M : Nat, M = gk := ⟨_, rfl⟩
                rw [← hM] at hix
                have b3 : (i : Int) < 32 := by omega
                have b4 : (0 : Int) ≤ (i : Int) := by omega
                go_wp2_with fail
                go_loopg [14, 15] i (fun kx cv jv wx => ∃ (c j : Nat), cv = .int .i64 (c : Int) ∧ jv = .int .i64 (j : Int) ∧ 1 ≤ j ∧ j ≤ i ∧ c < j ∧ i - j ≤ kx ∧ wx = wr)
                case atStart => exact ⟨0, 1, rfl, rfl, Nat.le_refl _, hi1, by omega, by omega, rfl⟩
                case round =>
                  obtain ⟨c, j, rfl, rfl, hj1, hj2, hcj, hjx, rfl⟩ := hrel
                  by_cases hji : j < i
                  · have p4 : (j : Int) < (i : Int) := by omega
                    have cn := H4.out.bools_at (i := i * 32 + j) (by rw [HLN.out]; omega)
                    have b5 : (j : Int) < 32 := by omega
                    have b6 : (0 : Int) ≤ (j : Int) := by omega
                    generalize N.getD (i * 32 + j) false = bn at *
                    rcases Bool.eq_false_or_eq_true bn with rfl | rfl
                    · go_wp2_with fail
                      go_roundg (i - (j + 1))
                      case rel => exact ⟨c + 1, j + 1, by go_num, by go_num, by omega, by omega, by omega, by omega, rfl⟩
                      case measure => omega
                    · go_wp2_with fail
                      go_roundg (i - (j + 1))
                      case rel => exact ⟨c, j + 1, rfl, by go_num, by omega, by omega, by omega, by omega, rfl⟩
                      case measure => omega
                  · obtain rfl : j = i := by omega
                    have hfr := HU4.out.free hj1 hik
                    have HWT := Lib.hid (bs_waits_of H4.out.swap (id := (j : Int)) (v := 0) (wf_int (by omega) (by omega)) ((waits_nil hfr.1).2 hfr.2.2))
                    have HFR := Lib.hid hfr
                    have HU5 := Lib.hid HU4.out.next
                    have hcl : ¬ (j : Int) < (c : Int) := by omega
                    clear H4 HU4 hfr hji hjx hj2
                    go_wp2_with fail
                    refine HWT.out.mono ?_
                    rintro e w5 ⟨rfl, hW⟩
                    have HGD := Lib.hid (bs_good_yes hW (id := (j : Int)) (wf_int (by omega) (by omega)) HFR.out.1 HFR.out.2.1 HFR.out.2.2)
                    clear hW HWT HFR
                    go_wp2_with fail
                    refine HGD.out.mono ?_
                    rintro e w6 ⟨v, l, rfl, hr, hW⟩
                    have HR := Lib.hid hr
                    have H6 := Lib.hid (hW.row_nil .i64 3)
                    generalize s4.turn (j : Int) 3 = s5 at *
                    have HF0 := Lib.hid (show Frees s5 j (j + 1) [] from ⟨List.Pairwise.nil, fun x => ⟨fun h => by simp at h, fun h => by have := (HU5.out.frees hj1 hik x).1 h.1; omega⟩⟩)
                    clear hW hr HGD
                    go_wp2_with fail
                    go_loopg [18, 19] k (fun kx wv iv wx => ∃ (m : Nat) (W : List Int), iv = .int .i64 (m : Int) ∧ j + 1 ≤ m ∧ m ≤ k + 1 ∧ k + 1 - m ≤ kx ∧ Hid (Sep w wx [obRow .i64 3 wv W, obRead v l, obBonds b F4 s5, obBools g1 N 35]) ∧ Hid (Frees s5 j m W))
                    case atStart => exact ⟨j + 1, [], by simp, Nat.le_refl _, by omega, by omega, H6, HF0⟩
                    case round =>
                      obtain ⟨m, W, rfl, hm1, hm2, hmx, H7, HF7⟩ := hrel
                      clear H6 HF0
                      by_cases hmk : m ≤ k
                      · have p5 : (m : Int) ≤ (k : Int) := by omega
                        have b5 : (m : Int) < 32 := by omega
                        have b6 : (0 : Int) ≤ (m : Int) := by omega
                        obtain ⟨M2, hM2⟩ : ∃ M2 : Nat, M2 = gk := ⟨_, rfl⟩
                        rw [← hM2] at hmx
                        go_wp2_with fail
                        go_loopg [20, 21] m (fun kx cv jv wx => ∃ (c q : Nat), cv = .int .i64 (c : Int) ∧ jv = .int .i64 (q : Int) ∧ j + 1 ≤ q ∧ q ≤ m ∧ c ≤ q ∧ m - q ≤ kx ∧ Hid (c = 0 ↔ ∀ u : Nat, j < u → u < q → (u : Int) ∉ s5.on m) ∧ wx = wr)
                        case atStart => exact ⟨0, j + 1, rfl, by simp, Nat.le_refl _, by omega, by omega, by omega, Lib.hid ⟨fun _ u h1 h2 => by omega, fun _ => rfl⟩, rfl⟩
                        case round =>
                          obtain ⟨c2, q, rfl, rfl, hq1, hq2, hcq, hqx, HC, rfl⟩ := hrel
                          by_cases hqm : q < m
                          · have p6 : (q : Int) < (m : Int) := by omega
                            have cn := H7.out.bring4.bools_at (i := m * 32 + q) (by rw [HLN.out]; omega)
                            have htl := HU5.out.tells m q (by omega) hmk (by omega) (by omega)
                            have b7 : (q : Int) < 32 := by omega
                            have b8 : (0 : Int) ≤ (q : Int) := by omega
                            generalize N.getD (m * 32 + q) false = bn at *
                            rcases Bool.eq_false_or_eq_true bn with rfl | rfl
                            · have HC2 := Lib.hid (show c2 + 1 = 0 ↔ ∀ u : Nat, j < u → u < q + 1 → (u : Int) ∉ s5.on m from ⟨fun h => by omega, fun h => absurd (htl.1 rfl) (h q (by omega) (by omega))⟩)
                              clear htl HC
                              go_wp2_with fail
                              go_roundg (m - (q + 1))
                              case rel => exact ⟨c2 + 1, q + 1, by go_num, by go_num, by omega, by omega, by omega, by omega, HC2, rfl⟩
                              case measure => omega
                            · have HC2 := Lib.hid (show c2 = 0 ↔ ∀ u : Nat, j < u → u < q + 1 → (u : Int) ∉ s5.on m from ⟨fun h u h1 h2 hin => by
                                by_cases e : u = q
                                · subst e
                                  have := htl.2 hin
                                  simp at this
                                · exact HC.out.1 h u h1 (by omega) hin, fun h => HC.out.2 (fun u h1 h2 => h u h1 (by omega))⟩)
                              clear htl HC
                              go_wp2_with fail
                              go_roundg (m - (q + 1))
                              case rel => exact ⟨c2, q + 1, rfl, by go_num, by omega, by omega, by omega, by omega, HC2, rfl⟩
                              case measure => omega
                          · obtain rfl : q = m := by omega
                            have cn := H7.out.bring4.bools_at (i := q * 32 + j) (by rw [HLN.out]; omega)
                            have htl := HU5.out.tells q j (by omega) hmk hj1 (by omega)
                            have hfq := HU5.out.frees hj1 hik (q : Int)
                            have HFQ := Lib.hid (show s5.frees j q ↔ (N.getD (q * 32 + j) false = true ∧ c2 = 0) by
                              rw [hfq, htl, HC.out]
                              exact ⟨fun h => ⟨h.2.2.1, fun u h1 h2 => h.2.2.2 u h1 (by omega)⟩, fun h => ⟨by omega, by omega, h.1, fun u h1 h2 => h.2 u h1 (by omega)⟩⟩)
                            have hWl : W.length + 1 ≤ 1099511627776 := by
                              have := nodup_le (S := W) (L := upto k) (HF7.out.1.imp (fun h => by omega)) (fun y hy => by have := ((HU5.out.frees hj1 hik y).1 ((HF7.out.2 y).1 hy).1); exact mem_upto.2 (by omega))
                              rw [upto_len] at this
                              omega
                            clear htl hfq HC hqx hqm hq2
                            generalize N.getD (q * 32 + j) false = bn at *
                            rcases Bool.eq_false_or_eq_true bn with rfl | rfl
                            · by_cases hc0 : c2 = 0
                              · have hc1 : ((c2 : Int) == 0) = true := by simp; omega
                                have HF8 := Lib.hid (HF7.out.yes (HFQ.out.2 ⟨rfl, hc0⟩))
                                have HRO := Lib.hid (H7.out.head : Owned .i64 3 wr u18 W)
                                clear hc0 HFQ HF7
                                go_wp2_with (at_builtin; refine walk_append (zero := .int .i64 0) (base := 0) (n := W.length) (m := 1) (xs := W.map (Value.int .i64)) (ys := [.int .i64 (q : Int)]) rfl (.tmp 146) (.tmp 148) rfl Try.underlying25 info_int rfl Nat.zero_lt_one (Nat.le_of_ble_eq_true rfl) rfl (World.ownsRow.alloc HRO.out _) rfl (SrcAt.one (blk_at (by simp))) (ints_one .i64 [_]) hWl (Nat.zero_le _) ?_)
                                intro v' w8 hA
                                have H8 := Lib.hid (H7.out.append (ys := [(q : Int)]) ((Mod.refl _ _).alloc _) hA rfl rfl)
                                clear hA HRO H7
                                go_wp2_with fail
                                go_roundg (k + 1 - (q + 1))
                                case rel => exact ⟨q + 1, W ++ [(q : Int)], by go_num, by omega, by omega, by omega, H8, HF8⟩
                                case measure => omega
                              · have hc1 : ((c2 : Int) == 0) = false := by simp; omega
                                have HF8 := Lib.hid (HF7.out.no (fun h => hc0 (HFQ.out.1 h).2))
                                clear hc0 HFQ HF7
                                go_wp2_with fail
                                go_roundg (k + 1 - (q + 1))
                                case rel => exact ⟨q + 1, W, by go_num, by omega, by omega, by omega, H7, HF8⟩
                                case measure => omega
                            · have HF8 := Lib.hid (HF7.out.no (fun h => by have := (HFQ.out.1 h).1; simp at this))
                              clear HFQ HF7
                              go_wp2_with fail
                              go_roundg (k + 1 - (q + 1))
                              case rel => exact ⟨q + 1, W, by go_num, by omega, by omega, by omega, H7, HF8⟩
                              case measure => omega
                      · obtain rfl : m = k + 1 := by omega
                        have p5 : ¬ ((k + 1 : Nat) : Int) ≤ (k : Int) := by omega
                        have hlW : l = W := HR.out.eq HF7.out (fun x => ⟨fun h => ⟨h, by have := (HU5.out.frees hj1 hik x).1 h; omega⟩, fun h => h.1⟩)
                        subst hlW
                        clear hm1 hm2 hmx hmk HF7 HR
                        go_wp2_with fail
                        refine (same_ints H7.out.tail.read (Owned.row (H7.out.head : Owned .i64 3 wr u18 _))).mono ?_
                        rintro e w8 ⟨rfl, hb8⟩
                        have H8 := Lib.hid (H7.out.below hb8).tail.tail.swap
                        rw [decide_eq_true (rfl : l = l)]
                        clear hb8 H7
                        go_wp2_with fail
                        go_roundg (k + 1 - (j + 1))
                        case rel => exact ⟨j + 1, F4, s5, by go_num, by omega, by omega, by omega, H8, HU5⟩
                        case measure => omega
              · have p3 : ¬ (i : Int) ≤ (k : Int) := by omega
                have HB8 := Lib.hid H4.out.bel
                clear H4 HU4
                go_wp2_with fail
                refine (awake16_any _).mono ?_
                rintro e w8 ⟨rfl, hb8⟩
                have HB9 := Lib.hid hb8
                clear hb8
                go_wp2_with fail
                go_ret
                exact ⟨rfl, bl_next HB8.out HB9.out⟩
end Go.Proofs.Ytbihfjehlbaahaa
