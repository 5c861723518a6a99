/- The program's bonds and the document's in one memory: what is called of each. -/
import Derived.Test.YtbihfjehlbaahaaJY
import Derived.Test.YtbihfjehlbaahaaF6
namespace Go.Proofs.Ytbihfjehlbaahaa
open Go.RowKit
def RefAt (w : World) (c : Nat) (F : Nat → Prop) (r : RS) : Prop := ∃ iv sv fv tv, (∀ g, F g ↔ RM.F c iv sv fv tv g) ∧ RM w c iv sv fv tv r
theorem RefAt.within {w : World} {c : Nat} {F : Nat → Prop} {r : RS} (h : RefAt w c F r) : Within w F := by
  obtain ⟨iv, sv, fv, tv, hF, h⟩ := h
  intro g hg
  rcases (hF g).1 hg with rfl | e | e | e | e
  · exact blk_lt h.top
  · exact h.oi.lt g e
  · exact h.os.lt g e
  · exact h.of.lt g e
  · exact h.ot.lt g e
theorem RefAt.mod {w w1 : World} {c : Nat} {F G : Nat → Prop} {r : RS} (h : RefAt w c F r) (hm : Mod G w w1) (ha : Apart F G) : RefAt w1 c F r := by
  obtain ⟨iv, sv, fv, tv, hF, h⟩ := h
  exact ⟨iv, sv, fv, tv, hF, h.mod hm (fun g hg => ha g ((hF g).2 hg))⟩
def obRef (c : Nat) (F : Nat → Prop) (r : RS) : Ob := ⟨F, fun w => RefAt w c F r, fun _ h => h.within, fun _ _ _ h hm ha => h.mod hm ha⟩
def obAt (g : Nat) (o : Obj) : Ob := ⟨fun k => k = g, fun w => w.heap[g]? = some o, fun _ h k hk => by subst hk; exact blk_lt h, fun _ _ _ h hm ha => hm.keep h (ha g rfl)⟩
/-- Both, and what else there is. -/
def Duo (w0 : World) (b c : Nat) (L : List Ob) (s : Bs) (r : RS) (w : World) : Prop := ∃ F G, Sep w0 w (obBonds b F s :: obRef c G r :: L)
def Duo1 (w0 : World) (b c : Nat) (L : List Ob) (s : Bs) (r : RS) (v : Value) (l : List Int) (w : World) : Prop := ∃ F G, Sep w0 w (obRead v l :: obBonds b F s :: obRef c G r :: L)
def Duo2 (w0 : World) (b c : Nat) (L : List Ob) (s : Bs) (r : RS) (v1 : Value) (l1 : List Int) (v2 : Value) (l2 : List Int) (w : World) : Prop := ∃ F G, Sep w0 w (obRow .i64 3 v2 l2 :: obRead v1 l1 :: obBonds b F s :: obRef c G r :: L)
section
variable {w0 w w' : World} {b c k : Nat} {L : List Ob} {s s' : Bs} {r r' : RS}
theorem Duo.ok (h : Duo w0 b c L s r w) : s.ok ∧ r.ok := by
  obtain ⟨F, G, h⟩ := h
  obtain ⟨mb, blk, row, role, D, hF, hB⟩ := h.bonds
  obtain ⟨iv, sv, fv, tv, hG, hR⟩ := (h.second : RefAt w c G r)
  exact ⟨hB.good, hR.ok⟩
theorem Duo.drew (h : Duo w0 b c L s r w) : Duo w0 b c L s r w.drew := by
  obtain ⟨F, G, h⟩ := h
  exact ⟨F, G, h.below (Below.refl _ _).drew⟩
theorem Duo.below (h : Duo w0 b c L s r w) (hb : Below w.heap.size w w') : Duo w0 b c L s r w' := by
  obtain ⟨F, G, h⟩ := h
  exact ⟨F, G, h.below hb⟩
theorem Sep.refto {M : List Ob} {G : Nat → Prop} {iv sv fv tv : Value} (h : Sep w0 w (obRef c G r :: M)) (hG : ∀ g, G g ↔ RM.F c iv sv fv tv g) (ht : RefTo w c iv sv fv tv r' w') : ∃ G', Sep w0 w' (obRef c G' r' :: M) := by
  obtain ⟨i, s, f, t, hm, ha, hb⟩ := ht
  exact ⟨RM.F c i s f t, h.step (A' := obRef c (RM.F c i s f t) r') ⟨i, s, f, t, fun _ => Iff.rfl, hm⟩ (ha.mono (fun g hg => .inl ((hG g).2 hg))) (fun g hg => (hb g hg).imp (fun k => (hG g).2 k) (fun k => k))⟩
/-- The program's. -/
theorem duo_pstate (h : Duo w0 b c L s r w) (ha : Alike s r) {x : Int} (hw : (Lit.int .i64 x).wf = true) : Calls Try.prog 24 #[.pointer (some ⟨b, 0, none⟩), .int .i64 x] w fun e w' => e = .returned (.int .i64 (r.stOf x)) ∧ Duo w0 b c L s r w' := by
  obtain ⟨F, G, h⟩ := h
  exact (bs_state h hw).mono fun _ _ ⟨he, hw⟩ => ⟨by rw [he, ha.stOf], F, G, hw ▸ h⟩
theorem duo_pwaits (h : Duo w0 b c L s r w) {x : Int} (hw : (Lit.int .i64 x).wf = true) : Calls Try.prog 19 #[.pointer (some ⟨b, 0, none⟩), .int .i64 x] w fun e w' => e = .returned (.int .i64 (s.forOf x).length) ∧ Duo w0 b c L s r w' := by
  obtain ⟨F, G, h⟩ := h
  exact (bs_waits h hw).mono fun _ _ ⟨he, hw⟩ => ⟨he, F, G, hw⟩
theorem duo_pfor (h : Duo w0 b c L s r w) {x : Int} (hw : (Lit.int .i64 x).wf = true) : Calls Try.prog 31 #[.pointer (some ⟨b, 0, none⟩), .int .i64 x] w fun e w' => ∃ v, e = .returned v ∧ Duo1 w0 b c L s r v (s.forOf x) w' := by
  obtain ⟨F, G, h⟩ := h
  exact (bs_for h hw).mono fun _ _ ⟨v, he, hw⟩ => ⟨v, he, F, G, hw⟩
theorem duo_popen (h : Duo w0 b c L s r w) {x : Int} (hw : (Lit.int .i64 x).wf = true) : Calls Try.prog 17 #[.pointer (some ⟨b, 0, none⟩), .int .i64 x] w fun e w' => e = .returned (.int .i64 (s.openE x)) ∧ Duo w0 b c L (if s.openE x = 0 then s.open_ x else s) r w' := by
  obtain ⟨F, G, h⟩ := h
  exact (bs_open h hw).mono fun _ _ ⟨F', he, hw⟩ => ⟨he, F', G, hw⟩
theorem duo_pbind (h : Duo w0 b c L s r w) {x y : Int} (hw : (Lit.int .i64 x).wf = true) (hw2 : (Lit.int .i64 y).wf = true) : Calls Try.prog 18 #[.pointer (some ⟨b, 0, none⟩), .int .i64 x, .int .i64 y] w fun e w' => ∃ n s', e = .returned (.int .i64 n) ∧ BindTo s x y n s' ∧ Duo w0 b c L s' r w' := by
  obtain ⟨F, G, h⟩ := h
  exact (bs_bind h hw hw2).mono fun _ _ ⟨F', n, s', he, hb, hw⟩ => ⟨n, s', he, hb, F', G, hw⟩
theorem duo_pgood (h : Duo w0 b c L s r w) {x : Int} (hw : (Lit.int .i64 x).wf = true) : Calls Try.prog 20 #[.pointer (some ⟨b, 0, none⟩), .int .i64 x] w fun e w' => ∃ v n l s', e = .returned (.tuple #[v, .int .i64 n]) ∧ GoodTo s x n l s' ∧ Duo1 w0 b c L s' r v l w' := by
  obtain ⟨F, G, h⟩ := h
  exact (bs_good h hw).mono fun _ _ ⟨n, l, s', v, he, hg, hw⟩ => ⟨v, n, l, s', he, hg, F, G, hw⟩
theorem duo_pbad (h : Duo w0 b c L s r w) {x : Int} (hw : (Lit.int .i64 x).wf = true) : Calls Try.prog 23 #[.pointer (some ⟨b, 0, none⟩), .int .i64 x] w fun e w' => ∃ v n l s', e = .returned (.tuple #[v, .int .i64 n]) ∧ BadTo s x n l s' ∧ Duo1 w0 b c L s' r v l w' := by
  obtain ⟨F, G, h⟩ := h
  exact (bs_bad h hw).mono fun _ _ ⟨n, l, s', v, he, hg, hw⟩ => ⟨v, n, l, s', he, hg, F, G, hw⟩
/-- The document's. -/
theorem duo_rstate (h : Duo w0 b c L s r w) (x : Int) : Calls Try.prog 29 #[.pointer (some ⟨c, 0, none⟩), .int .i64 x] w fun e w' => e = .returned (.int .i64 (r.stOf x)) ∧ Duo w0 b c L s r w' := by
  obtain ⟨F, G, h⟩ := h
  obtain ⟨iv, sv, fv, tv, hG, hR⟩ := (h.second : RefAt w c G r)
  exact (rb_state hR x).mono fun _ _ ⟨he, hw⟩ => ⟨he, F, G, hw ▸ h⟩
theorem duo_rlen (h : Duo w0 b c L s r w) (ha : Alike s r) (x : Int) : Calls Try.prog 30 #[.pointer (some ⟨c, 0, none⟩), .int .i64 x] w fun e w' => ∃ a n, e = .returned (.slice a (s.forOf x).length n) ∧ Duo w0 b c L s r w' := by
  have hok := h.ok
  obtain ⟨F, G, h⟩ := h
  obtain ⟨iv, sv, fv, tv, hG, hR⟩ := (h.second : RefAt w c G r)
  refine (rb_for hR x).mono fun _ _ ⟨v, l, he, hO, hri, hb, hn⟩ => ?_
  obtain ⟨a, n, hv, _⟩ := hO.form
  have e : s.forOf x = l := (ha.forOf hok.1 x).eq hri (fun _ => Iff.rfl)
  exact ⟨a, n, by rw [he, hv, e], F, G, h.below hb⟩
theorem duo1_rfor {v : Value} {l : List Int} (h : Duo1 w0 b c L s r v l w) (ha : Alike s r) (x : Int) (hl : l = s.forOf x) : Calls Try.prog 30 #[.pointer (some ⟨c, 0, none⟩), .int .i64 x] w fun e w' => ∃ v2, e = .returned v2 ∧ Duo2 w0 b c L s r v l v2 l w' := by
  obtain ⟨F, G, h⟩ := h
  have hok := Duo.ok ⟨F, G, h.tail⟩
  obtain ⟨iv, sv, fv, tv, hG, hR⟩ := (h.third : RefAt w c G r)
  refine (rb_for hR x).mono fun _ _ ⟨v2, m, he, hO, hri, hb, hn⟩ => ?_
  have e : l = m := hl.trans ((ha.forOf hok.1 x).eq hri (fun _ => Iff.rfl))
  exact ⟨v2, he, F, G, h.new (A := obRow .i64 3 v2 l) hb (e ▸ hO) hn⟩
theorem duo2_same {v1 v2 : Value} {l : List Int} (h : Duo2 w0 b c L s r v1 l v2 l w) : Calls Try.prog 21 #[v1, v2] w fun e w' => e = .returned (.bool true) ∧ Duo w0 b c L s r w' := by
  obtain ⟨F, G, h⟩ := h
  exact (same_ints h.second (Owned.row h.head)).mono fun _ _ ⟨he, hb⟩ => ⟨by rw [he, decide_eq_true rfl], F, G, (h.below hb).tail.tail⟩
/-- Both, alike. -/
def Pair (w0 : World) (b c : Nat) (L : List Ob) (k : Nat) (w : World) : Prop := ∃ s r, Alike s r ∧ r.fr.length ≤ k ∧ Duo w0 b c L s r w
theorem duo_ropen {s2 : Bs} {x : Int} (h : Duo w0 b c L s2 r w) (ha : Alike s r) (hs : s.ok) (h2 : s2 = if s.openE x = 0 then s.open_ x else s) (hk : r.fr.length ≤ k) : Calls Try.prog 25 #[.pointer (some ⟨c, 0, none⟩), .int .i64 x] w fun e w' => e = .returned (.int .i64 (s.openE x)) ∧ Pair w0 b c L (k + 1) w' := by
  have hok := h.ok
  obtain ⟨F, G, h⟩ := h
  obtain ⟨iv, sv, fv, tv, hG, hR⟩ := (h.second : RefAt w c G r)
  refine (rb_open hR x).mono fun _ _ ⟨n, r', he, ho, ht⟩ => ?_
  obtain ⟨hn, hA⟩ := ha.opens hs hok.2 ho
  obtain ⟨G', h'⟩ := h.swap.refto hG ht
  refine ⟨by rw [he, hn], s2, r', by rw [h2]; exact hA, ?_, F, G', h'.swap⟩
  rcases ho with ⟨_, _, rfl⟩ | ⟨_, _, _, rfl⟩ | ⟨_, _, _, _, rfl⟩ | ⟨_, _, _, _, rfl⟩
  · omega
  · omega
  · omega
  · show r.fr.length ≤ k + 1
    omega
theorem bind_len {x y n : Int} (h : RBind r x y n r') : r'.fr.length ≤ r.fr.length + 1 := by
  cases h with
  | none => omega
  | same => omega
  | over => omega
  | had => omega
  | late _ _ _ _ _ _ hd => obtain ⟨l, _, hD⟩ := hd; rw [hD.fr]; omega
  | loop => omega
  | @put q _ _ _ _ _ _ _ hd hn =>
    by_cases e : r.stOf y = 2
    · obtain ⟨l, _, hD⟩ := hd e
      simp [RS.bind, hD.fr]
    · rw [hn e]; simp [RS.bind]
theorem duo_rbind {s2 : Bs} {x y n : Int} (h : Duo w0 b c L s2 r w) (ha : Alike s r) (hs : s.ok) (hb : BindTo s x y n s2) (hk : r.fr.length ≤ k) (hk2 : k < 100000) : Calls Try.prog 26 #[.pointer (some ⟨c, 0, none⟩), .int .i64 x, .int .i64 y] w fun e w' => e = .returned (.int .i64 n) ∧ Pair w0 b c L (k + 1) w' := by
  have hok := h.ok
  obtain ⟨F, G, h⟩ := h
  obtain ⟨iv, sv, fv, tv, hG, hR⟩ := (h.second : RefAt w c G r)
  refine (rb_bind hR (by omega) x y).mono fun _ _ ⟨m, r', he, ho, ht⟩ => ?_
  obtain ⟨hn, hA⟩ := ha.binds hs hok.2 hb ho
  obtain ⟨G', h'⟩ := h.swap.refto hG ht
  have := bind_len ho
  exact ⟨by rw [he, hn], s2, r', hA, by omega, F, G', h'.swap⟩
theorem good_len {x n : Int} {l : List Int} (h : RGood r x n l r') : r'.fr.length = r.fr.length := by
  cases h with
  | none => rfl
  | over => rfl
  | wait => rfl
  | good _ _ _ _ hs => rw [hs.fr]
theorem bad_len {x n : Int} {l : List Int} (h : RBad r x n l r') : r'.fr.length = r.fr.length := by
  cases h with
  | none => rfl
  | over => rfl
  | bad _ _ _ hd hs => rw [hs.fr, hd.fr]
/-- Both, alike, and the two rows that they told. -/
def Pair2 (w0 : World) (b c : Nat) (L : List Ob) (k : Nat) (v1 v2 : Value) (w : World) : Prop := ∃ s r l, Alike s r ∧ r.fr.length ≤ k ∧ Duo2 w0 b c L s r v1 l v2 l w
theorem pair2_same {v1 v2 : Value} (h : Pair2 w0 b c L k v1 v2 w) : Calls Try.prog 21 #[v1, v2] w fun e w' => e = .returned (.bool true) ∧ Pair w0 b c L k w' := by
  obtain ⟨s, r, l, ha, hk, h⟩ := h
  exact (duo2_same h).mono fun _ _ ⟨he, hd⟩ => ⟨he, s, r, ha, hk, hd⟩
theorem Sep.rowdone {G : Nat → Prop} {iv sv fv tv : Value} {M : List Ob} {Q : Int → List Int → RS → Prop} {e : Ending} (h : Sep w0 w (obRef c G r :: M)) (hG : ∀ g, G g ↔ RM.F c iv sv fv tv g) (hd : RowDone w c iv sv fv tv Q e w') : ∃ v l n r', e = .returned (.tuple #[v, .int .i64 n]) ∧ Q n l r' ∧ Sep w0 w' (obRow .i64 3 v l :: obRef c G r' :: M) := by
  obtain ⟨v, l, n, r', he, hO, hn, hq, hm, hmod⟩ := hd
  have h1 : Sep w0 w' (obRef c G r' :: M) := h.step (A' := obRef c G r') ⟨iv, sv, fv, tv, hG, hm⟩ (hmod.mono (fun g hg => .inl ((hG g).2 (.inr (.inr (.inl hg)))))) (Grows.refl _ _)
  refine ⟨v, l, n, r', he, hq, ⟨h1.bel, fun o ho => ?_, List.pairwise_cons.2 ⟨fun o ho g hg hog => ?_, h1.apart⟩⟩⟩
  · rcases List.mem_cons.1 ho with rfl | ho
    · exact ⟨hO, fun g hg => Nat.le_trans h.bel.size (hn g hg)⟩
    · exact h1.each o ho
  · have hlt : g < w.heap.size := by
      rcases List.mem_cons.1 ho with rfl | ho
      · exact (h.head : RefAt w c G r).within g hog
      · exact o.within w (h.each o (by simp [ho])).1 g hog
    have := hn g hg
    omega
theorem duo1_rgood {s2 : Bs} {x n : Int} {v : Value} {l : List Int} (h : Duo1 w0 b c L s2 r v l w) (ha : Alike s r) (hs : s.ok) (hb : GoodTo s x n l s2) (hk : r.fr.length ≤ k) : Calls Try.prog 27 #[.pointer (some ⟨c, 0, none⟩), .int .i64 x] w fun e w' => ∃ v2, e = .returned (.tuple #[v2, .int .i64 n]) ∧ Pair2 w0 b c L k v v2 w' := by
  obtain ⟨F, G, h⟩ := h
  obtain ⟨iv, sv, fv, tv, hG, hR⟩ := (h.third : RefAt w c G r)
  refine (rb_good hR x).mono fun _ _ hd => ?_
  obtain ⟨v2, m, q, r', he, hq, hS⟩ := h.bring3.rowdone hG hd
  obtain ⟨hn, hlm, hA⟩ := ha.goods hs hb hq
  subst hn hlm
  exact ⟨v2, he, s2, r', l, hA, by rw [good_len hq]; exact hk, F, G, hS.perm (((List.Perm.swap _ _ _).trans ((List.Perm.swap _ _ _).cons _)).cons _)⟩
theorem duo1_rbad {s2 : Bs} {x n : Int} {v : Value} {l : List Int} (h : Duo1 w0 b c L s2 r v l w) (ha : Alike s r) (hs : s.ok) (hb : BadTo s x n l s2) (hk : r.fr.length ≤ k) : Calls Try.prog 28 #[.pointer (some ⟨c, 0, none⟩), .int .i64 x] w fun e w' => ∃ v2, e = .returned (.tuple #[v2, .int .i64 n]) ∧ Pair2 w0 b c L k v v2 w' := by
  obtain ⟨F, G, h⟩ := h
  obtain ⟨iv, sv, fv, tv, hG, hR⟩ := (h.third : RefAt w c G r)
  refine (rb_bad hR x).mono fun _ _ hd => ?_
  obtain ⟨v2, m, q, r', he, hq, hS⟩ := h.bring3.rowdone hG hd
  obtain ⟨hn, hlm, hA⟩ := ha.bads hs hb hq
  subst hn hlm
  exact ⟨v2, he, s2, r', l, hA, by rw [bad_len hq]; exact hk, F, G, hS.perm (((List.Perm.swap _ _ _).trans ((List.Perm.swap _ _ _).cons _)).cons _)⟩
end
end Go.Proofs.Ytbihfjehlbaahaa
