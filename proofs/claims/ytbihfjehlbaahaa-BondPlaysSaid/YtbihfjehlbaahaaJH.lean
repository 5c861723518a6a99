/- Bonds in the laws: calls whose answers are known. -/
import Derived.Test.YtbihfjehlbaahaaJG
namespace Go.Proofs.Ytbihfjehlbaahaa
open Go.RowKit
section
variable {w0 w : World} {b : Nat} {F : Nat → Prop} {s : Bs} {L : List Ob}
/-- Bind answers c, and the bonds become s'. -/
def BindsTo (w0 : World) (b : Nat) (L : List Ob) (c : Int) (s' : Bs) (e : Ending) (w' : World) : Prop := ∃ F', e = .returned (.int .i64 c) ∧ Sep w0 w' (obBonds b F' s' :: L)
theorem bs_bind_of (h : Sep w0 w (obBonds b F s :: L)) {id tz c : Int} {s' : Bs} (hw1 : (Lit.int .i64 id).wf = true) (hw2 : (Lit.int .i64 tz).wf = true) (hc : ∀ c' t, BindTo s id tz c' t → c' = c ∧ t = s') :
    Calls Try.prog 18 #[.pointer (some ⟨b, 0, none⟩), .int .i64 id, .int .i64 tz] w (BindsTo w0 b L c s') :=
  (bs_bind h hw1 hw2).mono fun _ _ ⟨F', c', t, he, hb, hW⟩ => by
    obtain ⟨rfl, rfl⟩ := hc c' t hb
    exact ⟨F', he, hW⟩
/-- Good, or Bad, answers c and no row; the bonds stay. -/
def SaysNo (w0 : World) (b : Nat) (F : Nat → Prop) (L : List Ob) (s : Bs) (c : Int) (e : Ending) (w' : World) : Prop := ∃ v, e = .returned (.tuple #[v, .int .i64 c]) ∧ Sep w0 w' (obBonds b F s :: L)
theorem bs_good_no (h : Sep w0 w (obBonds b F s :: L)) {id c : Int} (hw : (Lit.int .i64 id).wf = true) (hc : ∀ c' l t, GoodTo s id c' l t → c' = c ∧ t = s) :
    Calls Try.prog 20 #[.pointer (some ⟨b, 0, none⟩), .int .i64 id] w (SaysNo w0 b F L s c) :=
  (bs_good h hw).mono fun _ _ ⟨c', l, t, v, he, hg, hW⟩ => by
    obtain ⟨rfl, rfl⟩ := hc c' l t hg
    exact ⟨v, he, hW.tail⟩
theorem bs_bad_no (h : Sep w0 w (obBonds b F s :: L)) {id c : Int} (hw : (Lit.int .i64 id).wf = true) (hc : ∀ c' l t, BadTo s id c' l t → c' = c ∧ t = s) :
    Calls Try.prog 23 #[.pointer (some ⟨b, 0, none⟩), .int .i64 id] w (SaysNo w0 b F L s c) :=
  (bs_bad h hw).mono fun _ _ ⟨c', l, t, v, he, hg, hW⟩ => by
    obtain ⟨rfl, rfl⟩ := hc c' l t hg
    exact ⟨v, he, hW.tail⟩
/-- Open answers an error; the bonds stay. -/
theorem bs_open_no (h : Sep w0 w (obBonds b F s :: L)) {id c : Int} (hw : (Lit.int .i64 id).wf = true) (hc : s.openE id = c) (h0 : c ≠ 0) :
    Calls Try.prog 17 #[.pointer (some ⟨b, 0, none⟩), .int .i64 id] w (BindsTo w0 b L c s) :=
  (bs_open h hw).mono fun _ _ ⟨F', he, hW⟩ => by
    rw [hc] at he hW
    rw [if_neg h0] at hW
    exact ⟨F', he, hW⟩
/-- Good, that is done. -/
def GoodDone (w0 : World) (b : Nat) (F : Nat → Prop) (L : List Ob) (s : Bs) (id : Int) (e : Ending) (w' : World) : Prop := ∃ v l, e = .returned (.tuple #[v, .int .i64 0]) ∧ Rise l ((s.turn id 3).frees id) ∧ Sep w0 w' (obRead v l :: obBonds b F (s.turn id 3) :: L)
theorem bs_good_yes (h : Sep w0 w (obBonds b F s :: L)) {id : Int} (hw : (Lit.int .i64 id).wf = true) (h1 : id ∈ s.ids) (h2 : s.st id = 1) (h3 : ∀ z ∈ s.on id, s.st z = 3) :
    Calls Try.prog 20 #[.pointer (some ⟨b, 0, none⟩), .int .i64 id] w (GoodDone w0 b F L s id) :=
  (bs_good h hw).mono fun _ _ ⟨c', l, t, v, he, hg, hW⟩ => by
    obtain ⟨rfl, rfl, hr⟩ := hg.good_of h1 h2 h3
    exact ⟨v, l, he, hr, hW⟩
def BadDone (w0 : World) (b : Nat) (F : Nat → Prop) (L : List Ob) (s : Bs) (id : Int) (e : Ending) (w' : World) : Prop := ∃ v l P, e = .returned (.tuple #[v, .int .i64 0]) ∧ (∀ y, y ∈ P ↔ Doom s id y) ∧ Rise l (fun x => Doom s id x ∧ s.st x = 1 ∧ x ≠ id) ∧ Sep w0 w' (obRead v l :: obBonds b F ((s.doomed P).turn id 4) :: L)
theorem bs_bad_yes (h : Sep w0 w (obBonds b F s :: L)) {id : Int} (hw : (Lit.int .i64 id).wf = true) (h1 : id ∈ s.ids) (h2 : s.st id = 1 ∨ s.st id = 2) :
    Calls Try.prog 23 #[.pointer (some ⟨b, 0, none⟩), .int .i64 id] w (BadDone w0 b F L s id) :=
  (bs_bad h hw).mono fun _ _ ⟨c', l, t, v, he, hg, hW⟩ => by
    obtain ⟨rfl, P, hP, hr, rfl⟩ := hg.bad_of h1 h2
    exact ⟨v, l, P, he, hP, hr, hW⟩
theorem bs_state_of (h : Sep w0 w (obBonds b F s :: L)) {id v : Int} (hw : (Lit.int .i64 id).wf = true) (hv : s.stOf id = v) : Calls Try.prog 24 #[.pointer (some ⟨b, 0, none⟩), .int .i64 id] w fun e w' => e = .returned (.int .i64 v) ∧ w = w' := hv ▸ bs_state h hw
theorem bs_waits_of (h : Sep w0 w (obBonds b F s :: L)) {id : Int} {v : Nat} (hw : (Lit.int .i64 id).wf = true) (hv : (s.forOf id).length = v) : Calls Try.prog 19 #[.pointer (some ⟨b, 0, none⟩), .int .i64 id] w fun e w' => e = .returned (.int .i64 v) ∧ Sep w0 w' (obBonds b F s :: L) := hv ▸ bs_waits h hw
end
/-- Nobody waits: nobody is doomed but the one. -/
theorem doom_alone {s : Bs} {a : Int} (h : ∀ y ∈ s.ids, a ∉ s.on y) (x : Int) : Doom s a x ↔ x = a := by
  constructor
  · intro hx
    induction hx with
    | self => rfl
    | step _ hi _ ho ih => subst ih; exact absurd ho (h _ hi)
  · rintro rfl
    exact .self
/-- Bonds led to lesser ones lead to lesser ones on every road: whoever is doomed is not below. -/
theorem doom_above {s : Bs} {a x : Int} (h : ∀ y ∈ s.ids, ∀ z ∈ s.on y, z < y) (hx : Doom s a x) : a ≤ x := by
  induction hx with
  | self => omega
  | step _ hi _ ho ih => have := h _ hi _ ho; omega
end Go.Proofs.Ytbihfjehlbaahaa
