/- BondLoops holds: nobody is bound in a loop, whoever would be the last to close it. No condition. -/
import Derived.Test.YtbihfjehlbaahaaJG
namespace Go.Proofs.Ytbihfjehlbaahaa
open Go.RowKit Go.ChangeShapes

/-- Each waits for the one ahead. -/
def chainOn (x : Int) : List Int := if x ≤ 1 then [] else [x - 1]
theorem chain_less {n : Nat} : ∀ x : Int, 1 ≤ x → x ≤ n → ∀ y ∈ chainOn x, 1 ≤ y ∧ y < x := fun x _ _ y hy => by
  unfold chainOn at hy
  by_cases e : x ≤ 1
  · simp [e] at hy
  · simp [e] at hy; omega
theorem chain_reach {s : Bs} {n : Nat} {st : Int → Int} (h : Sts s n st chainOn) {a : Int} (ha : a ≤ n) : ∀ k : Nat, 1 ≤ a - (k + 1) → Reach s a (a - (k + 1))
  | 0, h1 => .one (by rw [h.on a (by omega) ha]; unfold chainOn; rw [if_neg (by omega)]; simp)
  | k + 1, h1 => by
    have ih := chain_reach h ha k (by omega)
    refine .more ih ?_
    rw [h.on _ (by omega) (by omega)]
    unfold chainOn
    rw [if_neg (by omega)]
    simp; omega
theorem chain_first {s : Bs} {st : Int → Int} {on : Int → List Int} (h : Sts s 1 (fun x => if x = 0 + 1 then 1 else st x) (fun x => if x = 0 + 1 then [] else on x)) : Sts s 1 (fun _ => 1) chainOn :=
  h.congr (fun x h1 h2 => by have : x = 1 := by omega
                             subst this; simp) (fun x h1 h2 => by have : x = 1 := by omega
                                                                  subst this; simp [chainOn])
theorem chain_next {s s' : Bs} {k : Nat} {c : Int} (hk : k ≠ 0) (h : Sts s (k + 1) (fun x => if x = (k : Int) + 1 then 1 else 1) (fun x => if x = (k : Int) + 1 then [] else chainOn x)) (hb : BindTo s ((k : Int) + 1) k c s') : c = 0 ∧ Sts s' (k + 1) (fun _ => 1) chainOn := by
  have hm := h.mem (x := (k : Int) + 1) (by omega) (by omega)
  have hmk := h.mem (x := (k : Int)) (by omega) (by omega)
  have hr : ¬ Reach s k ((k : Int) + 1) := fun hr => by
    have := reach_less (h.less (fun x h1 h2 y hy => by
      by_cases e : x = (k : Int) + 1
      · simp [e] at hy
      · simp only [if_neg e] at hy
        exact chain_less (n := k) x h1 (by omega) y hy)) hmk hr
    omega
  obtain ⟨rfl, rfl⟩ := hb.put_of hm hmk (by omega) (by rw [h.st _ (by omega) (by omega)]; simp) (by rw [h.on _ (by omega) (by omega)]; simp) (by rw [h.st _ (by omega) (by omega)]; simp) hr
  refine ⟨rfl, (h.bound _ _).congr (fun x _ _ => by simp) (fun x h1 h2 => ?_)⟩
  by_cases e : x = (k : Int) + 1
  · subst e
    simp only [if_true]
    unfold chainOn
    rw [if_neg (by omega)]
    simp
  · simp only [if_neg e]
def loopsE (a c : Int) : Int := if a = c then 1 else if a < c then 17 else 0
def loopsK (a c : Int) : Nat := if c + 1 < a then 2 else if a = 1 then 0 else 1
theorem loops_cases (a c : Nat) (h1 : 1 ≤ a) (h2 : 1 ≤ c) : (((a : Int) == c) = true ∧ ¬ ((a : Int) < c) ∧ ((a : Int) == 1) = true ∧ ¬ ((c : Int) + 1 < a) ∧ loopsE a c = 1 ∧ loopsK a c = 0) ∨
    (((a : Int) == c) = true ∧ ¬ ((a : Int) < c) ∧ ((a : Int) == 1) = false ∧ ¬ ((c : Int) + 1 < a) ∧ loopsE a c = 1 ∧ loopsK a c = 1) ∨
    (((a : Int) == c) = false ∧ ((a : Int) < c) ∧ ((a : Int) == 1) = true ∧ ¬ ((c : Int) + 1 < a) ∧ loopsE a c = 17 ∧ loopsK a c = 0) ∨
    (((a : Int) == c) = false ∧ ((a : Int) < c) ∧ ((a : Int) == 1) = false ∧ ¬ ((c : Int) + 1 < a) ∧ loopsE a c = 17 ∧ loopsK a c = 1) ∨
    (((a : Int) == c) = false ∧ ¬ ((a : Int) < c) ∧ ((a : Int) == 1) = false ∧ ¬ ((c : Int) + 1 < a) ∧ loopsE a c = 0 ∧ loopsK a c = 1) ∨
    (((a : Int) == c) = false ∧ ¬ ((a : Int) < c) ∧ ((a : Int) == 1) = false ∧ ((c : Int) + 1 < a) ∧ loopsE a c = 0 ∧ loopsK a c = 2) := by
  rcases (show (a = c ∧ a = 1) ∨ (a = c ∧ a ≠ 1) ∨ (a < c ∧ a = 1) ∨ (a < c ∧ a ≠ 1) ∨ (a = c + 1) ∨ (c + 1 < a) by omega) with h | h | h | h | h | h
  · exact .inl ⟨by simp; try omega, by omega, by simp; try omega, by omega, by unfold loopsE; (repeat (first | (rw [if_pos (by omega)]) | (rw [if_neg (by omega)]))), by unfold loopsK; (repeat (first | (rw [if_pos (by omega)]) | (rw [if_neg (by omega)])))⟩
  · exact .inr (.inl ⟨by simp; try omega, by omega, by simp; try omega, by omega, by unfold loopsE; (repeat (first | (rw [if_pos (by omega)]) | (rw [if_neg (by omega)]))), by unfold loopsK; (repeat (first | (rw [if_pos (by omega)]) | (rw [if_neg (by omega)])))⟩)
  · exact .inr (.inr (.inl ⟨by simp; try omega, by omega, by simp; try omega, by omega, by unfold loopsE; (repeat (first | (rw [if_pos (by omega)]) | (rw [if_neg (by omega)]))), by unfold loopsK; (repeat (first | (rw [if_pos (by omega)]) | (rw [if_neg (by omega)])))⟩))
  · exact .inr (.inr (.inr (.inl ⟨by simp; try omega, by omega, by simp; try omega, by omega, by unfold loopsE; (repeat (first | (rw [if_pos (by omega)]) | (rw [if_neg (by omega)]))), by unfold loopsK; (repeat (first | (rw [if_pos (by omega)]) | (rw [if_neg (by omega)])))⟩)))
  · exact .inr (.inr (.inr (.inr (.inl ⟨by simp; try omega, by omega, by simp; try omega, by omega, by unfold loopsE; (repeat (first | (rw [if_pos (by omega)]) | (rw [if_neg (by omega)]))), by unfold loopsK; (repeat (first | (rw [if_pos (by omega)]) | (rw [if_neg (by omega)])))⟩))))
  · exact .inr (.inr (.inr (.inr (.inr (⟨by simp; try omega, by omega, by simp; try omega, by omega, by unfold loopsE; (repeat (first | (rw [if_pos (by omega)]) | (rw [if_neg (by omega)]))), by unfold loopsK; (repeat (first | (rw [if_pos (by omega)]) | (rw [if_neg (by omega)])))⟩)))))
theorem loops_plain {s s' : Bs} {n : Nat} {a c e : Int} (h : Sts s n (fun _ => 1) chainOn) (ha : 1 ≤ a ∧ a ≤ n) (hc : 1 ≤ c ∧ c ≤ n) (hb : BindTo s a c e s') : e = loopsE a c ∧ (s'.forOf a).length = loopsK a c := by
  have hma := h.mem ha.1 ha.2
  have hmc := h.mem hc.1 hc.2
  have hsa := h.st a ha.1 ha.2
  have hsc := h.st c hc.1 hc.2
  have hon := h.on a ha.1 ha.2
  have hw : (s.forOf a).length = (chainOn a).length := by
    rw [h.waits ha.1 ha.2 (fun y hy => by have := chain_less (n := n) a ha.1 ha.2 y hy; omega)]
    simp
  have hl : (chainOn a).length = if a = 1 then 0 else 1 := by
    unfold chainOn
    by_cases e : a = 1
    · simp [e]
    · rw [if_neg (by omega), if_neg e]; rfl
  by_cases h1 : a = c
  · obtain ⟨rfl, rfl⟩ := hb.same_of hma hmc h1
    refine ⟨by simp [loopsE, h1], ?_⟩
    rw [hw, hl]
    unfold loopsK
    rw [if_neg (show ¬ c + 1 < a by omega)]
  · by_cases h2 : a < c
    · have hr : Reach s c a := by
        have := chain_reach h hc.2 (c - a - 1).toNat (by omega)
        rwa [show c - (((c - a - 1).toNat : Int) + 1) = a by omega] at this
      obtain ⟨rfl, rfl⟩ := hb.loop_of hma hmc h1 hsa (by
        rw [hon]; intro hx; have := chain_less (n := n) a ha.1 ha.2 c hx; omega) hsc hr
      refine ⟨by simp [loopsE, h1, h2], ?_⟩
      rw [hw, hl]
      unfold loopsK
      rw [if_neg (show ¬ c + 1 < a by omega)]
    · by_cases h3 : a = c + 1
      · obtain ⟨rfl, rfl⟩ := hb.had_of hma hmc h1 (.inl hsa) (.inr (by rw [hon]; unfold chainOn; rw [if_neg (by omega)]; simp; omega))
        refine ⟨by simp [loopsE, h1, h2], ?_⟩
        rw [hw, hl]
        unfold loopsK
        rw [if_neg (show ¬ c + 1 < a by omega)]
      · have hn : c ∉ s.on a := by
          rw [hon]; unfold chainOn; rw [if_neg (by omega)]; simp; omega
        have hr : ¬ Reach s c a := fun hr => by have := reach_less (h.less chain_less) hmc hr; omega
        obtain ⟨rfl, rfl⟩ := hb.put_of hma hmc h1 hsa hn hsc hr
        refine ⟨by simp [loopsE, h1, h2], ?_⟩
        have hs2 := h.bound a c
        rw [hs2.waits ha.1 ha.2 (fun y hy => by
          simp only [if_true] at hy
          rcases List.mem_append.1 hy with hy | hy
          · have := chain_less (n := n) a ha.1 ha.2 y hy; omega
          · simp only [List.mem_singleton] at hy; omega)]
        simp only [if_true]
        unfold loopsK chainOn
        rw [if_neg (show ¬ a ≤ 1 by omega), if_pos (show c + 1 < a by omega)]
        simp

set_option maxRecDepth 100000 in
set_option maxHeartbeats 3200000 in
theorem bondLoops_walk {a0 a1 a2 : Int} {w : World} (_w0 : (Lit.int .i64 a0).wf = true) (_w1 : (Lit.int .i64 a1).wf = true) (_w2 : (Lit.int .i64 a2).wf = true) :
    Calls Try.prog 5 #[.int .i64 a0, .int .i64 a1, .int .i64 a2] w fun e w' => e = .returned (.bool true) ∧ Below w.heap.size w w' := by
  have m0 := i64_and255 a0
  have m1 := i64_and255 a1
  have m2 := i64_and255 a2
  obtain ⟨x, hx, hx2⟩ : ∃ x : Nat, a0 % 256 = x ∧ x < 256 := ⟨(a0 % 256).toNat, by omega, by omega⟩
  obtain ⟨y, hy, hy2⟩ : ∃ y : Nat, a1 % 256 = y ∧ y < 256 := ⟨(a1 % 256).toNat, by omega, by omega⟩
  obtain ⟨z, hz, hz2⟩ : ∃ z : Nat, a2 % 256 = z ∧ z < 256 := ⟨(a2 % 256).toNat, by omega, by omega⟩
  rw [hx] at m0
  rw [hy] at m1
  rw [hz] at m2
  clear hx hy hz _w0 _w1 _w2
  have HN := Lib.hid (fun n => bs_new (Sep.nil (w.drewN n)))
  go_enter Try.func5, Try.ntmps5
  go_wp2_with fail
  obtain ⟨n, hn, n1, n2⟩ : ∃ n : Nat, ((n : Int) = (x : Int) % 40 + 2) ∧ 2 ≤ n ∧ n ≤ 41 := ⟨x % 40 + 2, by omega, by omega, by omega⟩
  rw [← hn]
  clear hn m0
  have hn0 : ((n : Int) == 0) = false := by simp; omega
  go_quiet (fail)
  have HNQ := Lib.hid (HN.out nq)
  have hbw : Below w.heap.size w (w.drewN nq) := ((Mod.refl (fun _ => False) w).drewN nq).below (fun _ h => h.elim) (Nat.le_refl _)
  have HBW := Lib.hid hbw
  generalize w.drewN nq = wq at *
  have hqy : (y : Int) % n = ((y % n : Nat) : Int) := by simp
  have hqz : (z : Int) % n = ((z % n : Nat) : Int) := by simp
  obtain ⟨a, ha, a1, a2⟩ : ∃ a : Nat, wrap64 ((y : Int) % n + 1) = a ∧ 1 ≤ a ∧ a ≤ n := ⟨y % n + 1, by have := Nat.mod_lt y (show 0 < n by omega); rw [hqy]; unfold wrap64; omega, by omega, by have := Nat.mod_lt y (show 0 < n by omega); omega⟩
  obtain ⟨c, hc, c1, c2⟩ : ∃ c : Nat, wrap64 ((z : Int) % n + 1) = c ∧ 1 ≤ c ∧ c ≤ n := ⟨z % n + 1, by have := Nat.mod_lt z (show 0 < n by omega); rw [hqz]; unfold wrap64; omega, by omega, by have := Nat.mod_lt z (show 0 < n by omega); omega⟩
  rw [ha, hc]
  clear HN hbw hqy hqz ha hc m1 m2 hy2 hz2 hx2 hn0
  go_wp2_with fail
  refine HNQ.out.mono ?_
  rintro e w1 ⟨b, F, rfl, hW⟩
  have H1 := Lib.hid hW
  clear hW HNQ
  go_wp2_with fail
  go_loopg [8] n (fun kx iv wr => ∃ (k : Nat) (F : Nat → Prop) (s : Bs), iv = .int .i64 ((k : Int) + 1) ∧ k ≤ n ∧ n - k ≤ kx ∧ Hid (Sep wq wr [obBonds b F s]) ∧ Hid (Sts s k (fun _ => 1) chainOn))
  case atStart => exact ⟨0, F, Bs.new, rfl, Nat.zero_le _, by omega, H1, Lib.hid Sts.new⟩
  case round =>
    obtain ⟨k, F2, s, rfl, hk, hkx, HW, HS⟩ := hrel
    clear H1
    by_cases hlt : k < n
    · have p1 : (k : Int) + 1 ≤ (n : Int) := by omega
      have HO := Lib.hid (bs_next HW.out HS.out (by omega))
      clear HW HS
      by_cases hk0 : k = 0
      · have hd1 : decide ((1 : Int) < (k : Int) + 1) = false := by simp; omega
        have HK0 := Lib.hid hk0
        clear hk0
        go_wp2_with fail
        refine HO.out.mono ?_
        rintro e w2 ⟨F3, s3, rfl, hW, hS⟩
        have H3 := Lib.hid hW
        have HS3 := Lib.hid (show Sts s3 (k + 1) (fun _ => 1) chainOn by have h := HK0.out; subst h; exact chain_first hS)
        clear hW hS HO HK0
        go_wp2_with fail
        go_roundg (n - (k + 1))
        case rel => exact ⟨k + 1, F3, s3, by go_num, by omega, by omega, H3, HS3⟩
        case measure => omega
      · have hd1 : decide ((1 : Int) < (k : Int) + 1) = true := by simp; omega
        have hsub : wrap64 ((k : Int) + 1 - 1) = k := by unfold wrap64; omega
        go_wp2_with fail
        refine HO.out.mono ?_
        rintro e w2 ⟨F3, s3, rfl, hW, hS⟩
        have HB := Lib.hid (bs_bind hW (id := (k : Int) + 1) (tz := k) (wf_int (by omega) (by omega)) (wf_int (by omega) (by omega)))
        have HS3 := Lib.hid (fun s' c hb => chain_next (s' := s') (c := c) hk0 hS hb)
        clear hW hS HO hk0
        go_wp2_with fail
        refine HB.out.mono ?_
        rintro e w3 ⟨F4, c4, s4, rfl, hb, hW⟩
        obtain ⟨rfl, hS4⟩ := HS3.out s4 c4 hb
        have H4 := Lib.hid hW
        have HS4 := Lib.hid hS4
        clear hW hS4 hb HB HS3
        go_wp2_with fail
        go_roundg (n - (k + 1))
        case rel => exact ⟨k + 1, F4, s4, by go_num, by omega, by omega, H4, HS4⟩
        case measure => omega
    · obtain rfl : k = n := by omega
      have p1 : ¬ (k : Int) + 1 ≤ (k : Int) := by omega
      have hb0 := (bs_bind HW.out (id := (a : Int)) (tz := (c : Int)) (wf_int (by omega) (by omega)) (wf_int (by omega) (by omega))).mono (fun e w' (h : ∃ F' ce s', _) => (by
        obtain ⟨F', ce, s', he, hb, hW⟩ := h
        obtain ⟨h1, h2⟩ := loops_plain HS.out (a := a) (c := c) ⟨by omega, by omega⟩ ⟨by omega, by omega⟩ hb
        exact ⟨F', s', by rw [he, h1], h2, hW⟩ : ∃ F' s', e = .returned (.int .i64 (loopsE a c)) ∧ (s'.forOf a).length = loopsK a c ∧ Sep wq w' [obBonds b F' s']))
      have HB := Lib.hid hb0
      clear HW HS hb0
      generalize hE : loopsE (a : Int) (c : Int) = ce at *
      generalize hK : loopsK (a : Int) (c : Int) = ke at *
      go_wp2_with fail
      refine HB.out.mono ?_
      rintro e w2 ⟨F3, s3, rfl, hke, hW⟩
      have hwt := bs_waits hW (id := (a : Int)) (wf_int (by omega) (by omega))
      rw [hke] at hwt
      have HWT := Lib.hid hwt
      clear hke hW hwt HB
      rcases loops_cases a c a1 c1 with ⟨e1, e2, e3, e4, e5, e6⟩ | ⟨e1, e2, e3, e4, e5, e6⟩ | ⟨e1, e2, e3, e4, e5, e6⟩ | ⟨e1, e2, e3, e4, e5, e6⟩ | ⟨e1, e2, e3, e4, e5, e6⟩ | ⟨e1, e2, e3, e4, e5, e6⟩
      all_goals
        rw [e5] at hE
        rw [e6] at hK
        subst hE hK
        clear e5 e6
        go_wp2_with fail
        refine HWT.out.mono ?_
        rintro e w3 ⟨rfl, hW⟩
        have HB3 := Lib.hid hW.bel
        clear hW HWT
        go_wp2_with fail
        refine (awake16_any _).mono ?_
        rintro e w4 ⟨rfl, hb4⟩
        have HB4 := Lib.hid hb4
        clear hb4
        go_wp2_with fail
        go_ret
        exact ⟨rfl, bl_next (HBW.out.trans (HB3.out.mono HBW.out.size)) HB4.out⟩
end Go.Proofs.Ytbihfjehlbaahaa
