/- Bonds among other objects; vinculumref1.SameInts; vinculumlaw16.awake. -/
import Derived.Test.YtbihfjehlbaahaaJE
import Derived.Deep.LoopGhost
import Derived.BigQuiet
namespace Go.Proofs.Ytbihfjehlbaahaa
open Go.RowKit

theorem neq_at {l m : List Int} {k : Nat} (_hk : k < l.length) (h : l.getD k 0 ≠ m.getD k 0) : l ≠ m := fun e => h (by rw [e])
theorem eq_all {l m : List Int} (hl : l.length = m.length) (h : ∀ k, k < l.length → l.getD k 0 = m.getD k 0) : l = m := by
  refine List.ext_getElem hl fun k h1 h2 => ?_
  have := h k h1
  simpa [List.getD_eq_getElem?_getD, h1, h2] using this
theorem RowAt.form {k : IntKind} {w : World} {v : Value} {l : List Int} (h : RowAt k w v l) : ∃ a cap, v = .slice a l.length cap ∧ l.length ≤ maxLen ∧ ∀ i, i < l.length → ∃ g o, a = some ⟨g, o, none⟩ := by
  rcases h with ⟨rfl, a, cap, rfl, _⟩ | ⟨g, o, cap, rfl, _, hm, _⟩
  · exact ⟨a, cap, rfl, by simp, fun i hi => by simp at hi⟩
  · exact ⟨_, cap, rfl, hm, fun _ _ => ⟨g, o, rfl⟩⟩
theorem RowAt.at_ {k : IntKind} {w : World} {g o n cap : Nat} {l : List Int} (h : RowAt k w (.slice (some ⟨g, o, none⟩) n cap) l) {i : Nat} (hi : i < l.length) : w.cell? ⟨g, o + i, none⟩ = some (.int k (l.getD i 0)) := by
  rcases h with ⟨rfl, _⟩ | ⟨g', o', cap', hv, _, _, _, hc⟩
  · simp at hi
  · simp only [Value.slice.injEq, Option.some.injEq, Addr.mk.injEq, and_true] at hv
    obtain ⟨⟨rfl, rfl⟩, rfl, rfl⟩ := hv
    exact hc i hi

set_option maxRecDepth 100000 in
set_option maxHeartbeats 1600000 in
theorem same_ints {w : World} {va vb : Value} {l m : List Int} (ha : RowAt .i64 w va l) (hb : RowAt .i64 w vb m) :
    Calls Try.prog 21 #[va, vb] w fun e w' => e = .returned (.bool (decide (l = m))) ∧ Below w.heap.size w w' := by
  obtain ⟨a, ca, rfl, na, xa⟩ := ha.form
  obtain ⟨b, cb, rfl, nb, xb⟩ := hb.form
  unfold maxLen at na nb
  have HA := Lib.hid ha
  have HB := Lib.hid hb
  clear ha hb
  by_cases hlen : l.length = m.length
  · have HL := Lib.hid hlen
    have hnn : ((l.length : Int) != (m.length : Int)) = false := by simp [hlen]
    have XA := Lib.hid xa
    have XB := Lib.hid xb
    clear xa xb hlen
    obtain ⟨n, hn⟩ : ∃ n, n = m.length := ⟨_, rfl⟩
    go_enter Try.func21, Try.ntmps21
    go_wp2_with fail
    go_loopg [5] (l.length) (fun kx iv wr => ∃ (k : Nat), iv = .int .i64 (k : Int) ∧ k ≤ l.length ∧ l.length - k ≤ kx ∧ Hid (∀ j, j < k → l.getD j 0 = m.getD j 0) ∧ Hid (Below w.heap.size w wr))
    case atStart => exact ⟨0, rfl, Nat.zero_le _, by omega, Lib.hid (fun j hj => by omega), Lib.hid (Below.refl _ _)⟩
    case round =>
      obtain ⟨k, rfl, hk, hkx, HE, HBB⟩ := hrel
      have p0 : (0 : Int) ≤ (k : Int) := by omega
      by_cases hlt : k < l.length
      · have hlt2 : k < m.length := by rw [← HL.out]; exact hlt
        have p1 : (k : Int) < (l.length : Int) := by omega
        have p2 : (k : Int) < (m.length : Int) := by omega
        obtain ⟨ga, oa, rfl⟩ := XA.out k hlt
        obtain ⟨gb, ob, rfl⟩ := XB.out k hlt2
        have d1 := (HA.out.later HBB.out).at_ hlt
        have d2 := (HB.out.later HBB.out).at_ hlt2
        have hstep : l.getD k 0 = m.getD k 0 → ∀ j, j < k + 1 → l.getD j 0 = m.getD j 0 := fun e j hj => by
          by_cases h : j = k
          · rw [h]; exact e
          · exact HE.out j (by omega)
        have HST := Lib.hid hstep
        have HNE := Lib.hid (fun (e : l.getD k 0 ≠ m.getD k 0) => (neq_at hlt e))
        have HBN := Lib.hid (fun n => (HBB.out.trans (((Mod.refl (fun _ => False) wr).drewN n).below (fun _ h => h.elim) HBB.out.size)))
        clear hstep hlt2
        generalize l.getD k 0 = x at *
        generalize m.getD k 0 = y at *
        clear HE HBB
        by_cases hxy : x = y
        · have hne : (x != y) = false := by simp [hxy]
          have HS2 := Lib.hid (HST.out hxy)
          clear HST HNE hxy
          go_wp2_with fail
          go_quiet (fail)
          have HB2 := Lib.hid (HBN.out nq)
          generalize wr.drewN nq = wq at *
          go_wp2_with fail
          go_roundg (l.length - (k + 1))
          case rel => exact ⟨k + 1, by go_num, by omega, by omega, HS2, HB2⟩
          case measure => omega
        · have hne : (x != y) = true := by simpa using hxy
          have hlm := HNE.out hxy
          have hdec : decide (l = m) = false := by simpa using hlm
          have HD := Lib.hid hdec
          clear HST HNE hxy hdec hlm
          go_wp2_with fail
          go_quiet (fail)
          have HB2 := Lib.hid (HBN.out nq)
          generalize wr.drewN nq = wq at *
          go_wp2_with fail
          go_ret
          exact ⟨by rw [HD.out]; rfl, HB2.out⟩
      · obtain rfl : k = l.length := by omega
        have hlm := eq_all HL.out HE.out
        have hdec : decide (l = m) = true := by simpa using hlm
        have HD := Lib.hid hdec
        clear hlm hdec
        go_wp2_with fail
        go_ret
        exact ⟨by rw [HD.out]; rfl, HBB.out⟩
  · have hnn : ((l.length : Int) != (m.length : Int)) = true := by simp; omega
    have hdec : decide (l = m) = false := by simp; exact fun e => hlen (by rw [e])
    have HD := Lib.hid hdec
    clear hdec xa xb
    go_enter Try.func21, Try.ntmps21
    go_wp2_with fail
    go_ret
    exact ⟨by rw [HD.out]; rfl, Below.refl _ _⟩

section
variable {w0 w : World} {b : Nat} {F : Nat → Prop} {s : Bs} {L : List Ob}
theorem Sep.bonds (h : Sep w0 w (obBonds b F s :: L)) : BondsAt w b F s := h.head
theorem bs_new (h : Sep w0 w L) : Calls Try.prog 16 #[] w fun e w' => ∃ b F, e = .returned (.pointer (some ⟨b, 0, none⟩)) ∧ Sep w0 w' (obBonds b F Bs.new :: L) :=
  (bnew_any w).mono fun _ _ ⟨b, F, he, hB, hb, hF⟩ => ⟨b, F, he, h.new (A := obBonds b F Bs.new) hb hB hF⟩
theorem bs_open (h : Sep w0 w (obBonds b F s :: L)) {id : Int} (hw : (Lit.int .i64 id).wf = true) : Calls Try.prog 17 #[.pointer (some ⟨b, 0, none⟩), .int .i64 id] w fun e w' => ∃ F', e = .returned (.int .i64 (s.openE id)) ∧ Sep w0 w' (obBonds b F' (if s.openE id = 0 then s.open_ id else s) :: L) :=
  (bopen_new h.bonds hw).mono fun _ _ ⟨he, F', hB, hm, hg⟩ => ⟨F', he, h.step (A' := obBonds b F' _) hB hm hg⟩
theorem bs_bind (h : Sep w0 w (obBonds b F s :: L)) {id tz : Int} (hw1 : (Lit.int .i64 id).wf = true) (hw2 : (Lit.int .i64 tz).wf = true) : Calls Try.prog 18 #[.pointer (some ⟨b, 0, none⟩), .int .i64 id, .int .i64 tz] w fun e w' => ∃ F' c s', e = .returned (.int .i64 c) ∧ BindTo s id tz c s' ∧ Sep w0 w' (obBonds b F' s' :: L) :=
  (bind_any h.bonds hw1 hw2).mono fun _ _ ⟨c, s', he, ht, F', hB, hm, hg⟩ => ⟨F', c, s', he, ht, h.step (A' := obBonds b F' _) hB hm hg⟩
theorem Sep.told {w' : World} {c : Int} {l : List Int} {e : Ending} {s' : Bs} (h : Sep w0 w (obBonds b F s :: L)) (ht : Told w c l e w') (hk : KeptB w b F s' w') : ∃ v, e = .returned (.tuple #[v, .int .i64 c]) ∧ Sep w0 w' (obRead v l :: obBonds b F s' :: L) := by
  obtain ⟨v, he, hr, hn⟩ := ht
  have h1 : Sep w0 w' (obBonds b F s' :: L) := h.step (A' := obBonds b F s') hk.1 hk.2 (Grows.refl _ _)
  refine ⟨v, he, ⟨h1.bel, fun o ho => ?_, List.pairwise_cons.2 ⟨fun o ho k hk2 hok => ?_, h1.apart⟩⟩⟩
  · rcases List.mem_cons.1 ho with rfl | ho
    · exact ⟨hr, fun k hk2 => Nat.le_trans h.bel.size (hn k hk2.1)⟩
    · exact h1.each o ho
  · have h2 := hn k hk2.1
    rcases List.mem_cons.1 ho with rfl | ho
    · have := (h.each (obBonds b F s) (by simp)).1
      have := this.within k hok
      omega
    · have := o.within w (h.each o (by simp [ho])).1 k hok
      omega
theorem bs_good (h : Sep w0 w (obBonds b F s :: L)) {id : Int} (hw : (Lit.int .i64 id).wf = true) : Calls Try.prog 20 #[.pointer (some ⟨b, 0, none⟩), .int .i64 id] w fun e w' => ∃ c l s' v, e = .returned (.tuple #[v, .int .i64 c]) ∧ GoodTo s id c l s' ∧ Sep w0 w' (obRead v l :: obBonds b F s' :: L) :=
  (good_any h.bonds hw).mono fun _ _ ⟨c, l, s', hg, ht, hk⟩ => by obtain ⟨v, he, hs⟩ := h.told ht hk; exact ⟨c, l, s', v, he, hg, hs⟩
theorem bs_bad (h : Sep w0 w (obBonds b F s :: L)) {id : Int} (hw : (Lit.int .i64 id).wf = true) : Calls Try.prog 23 #[.pointer (some ⟨b, 0, none⟩), .int .i64 id] w fun e w' => ∃ c l s' v, e = .returned (.tuple #[v, .int .i64 c]) ∧ BadTo s id c l s' ∧ Sep w0 w' (obRead v l :: obBonds b F s' :: L) :=
  (bad_any h.bonds hw).mono fun _ _ ⟨c, l, s', hg, ht, hk⟩ => by obtain ⟨v, he, hs⟩ := h.told ht hk; exact ⟨c, l, s', v, he, hg, hs⟩
theorem bs_state (h : Sep w0 w (obBonds b F s :: L)) {id : Int} (hw : (Lit.int .i64 id).wf = true) : Calls Try.prog 24 #[.pointer (some ⟨b, 0, none⟩), .int .i64 id] w fun e w' => e = .returned (.int .i64 (s.stOf id)) ∧ w = w' := bstate_any h.bonds hw
theorem bs_waits (h : Sep w0 w (obBonds b F s :: L)) {id : Int} (hw : (Lit.int .i64 id).wf = true) : Calls Try.prog 19 #[.pointer (some ⟨b, 0, none⟩), .int .i64 id] w fun e w' => e = .returned (.int .i64 (s.forOf id).length) ∧ Sep w0 w' (obBonds b F s :: L) :=
  (bwaits_any h.bonds hw).mono fun _ _ ⟨he, hb⟩ => ⟨he, h.below hb⟩
theorem bs_for (h : Sep w0 w (obBonds b F s :: L)) {id : Int} (hw : (Lit.int .i64 id).wf = true) : Calls Try.prog 31 #[.pointer (some ⟨b, 0, none⟩), .int .i64 id] w fun e w' => ∃ v, e = .returned v ∧ Sep w0 w' (obRead v (s.forOf id) :: obBonds b F s :: L) :=
  (bfor_any h.bonds hw).mono fun _ _ ⟨v, he, hr, hn, hb⟩ => ⟨v, he, h.new (A := obRead v (s.forOf id)) hb hr (fun k hk => hn k hk.1)⟩
theorem Sep.read {v : Value} {l : List Int} (h : Sep w0 w (obRead v l :: L)) : RowAt .i64 w v l := h.head
end
end Go.Proofs.Ytbihfjehlbaahaa
