/- Bonds: one is bound to another one, in plain words and in memory. -/
import Derived.Test.YtbihfjehlbaahaaJA
namespace Go.Proofs.Ytbihfjehlbaahaa
open Go.RowKit

def Bs.bound (s : Bs) (id tz : Int) : Bs := ⟨s.ids, s.st, fun x => if x = id then s.on x ++ [tz] else s.on x⟩
theorem bound_good {s : Bs} (h : s.ok) {id tz : Int} (hid : id ∈ s.ids) (hto : tz ∈ s.ids) (hn : tz ∉ s.on id) : (s.bound id tz).ok := by
  have hond : ∀ x ∈ s.ids, ((s.bound id tz).on x).Nodup := fun x hx => by
    simp only [Bs.bound]
    by_cases e : x = id
    · subst e
      rw [if_pos rfl]
      exact List.nodup_append.2 ⟨h.ond x hx, by simp, fun p hp q hq => by simp only [List.mem_singleton] at hq; subst hq; exact fun e => hn (e ▸ hp)⟩
    · rw [if_neg e]
      exact h.ond x hx
  have hon : ∀ x ∈ s.ids, ∀ y ∈ (s.bound id tz).on x, y ∈ s.ids := fun x hx y hy => by
    simp only [Bs.bound] at hy
    by_cases e : x = id
    · rw [if_pos e] at hy
      rcases List.mem_append.1 hy with hy | hy
      · exact h.on x hx y hy
      · simp only [List.mem_singleton] at hy
        subst hy
        exact hto
    · rw [if_neg e] at hy
      exact h.on x hx y hy
  exact ⟨h.nodup, h.pos, h.state, hon, fun x hx => nodup_le (hond x hx) (hon x hx), h.few, hond⟩
theorem doomed_congr {s : Bs} {P P' : List Int} (h : ∀ y, y ∈ P ↔ y ∈ P') : s.doomed P = s.doomed P' := by
  simp only [Bs.doomed, Bs.mk.injEq, true_and, and_true]
  funext y
  simp only [h y]
/-- What Bind answers, and what becomes of the bonds. -/
inductive BindTo (s : Bs) (id tz : Int) : Int → Bs → Prop where
  | none : (id ∉ s.ids ∨ tz ∉ s.ids) → BindTo s id tz 11 s
  | same : id ∈ s.ids → tz ∈ s.ids → id = tz → BindTo s id tz 1 s
  | over : id ∈ s.ids → tz ∈ s.ids → id ≠ tz → ¬ (s.st id = 1 ∨ s.st id = 2) → BindTo s id tz 7 s
  | had : id ∈ s.ids → tz ∈ s.ids → id ≠ tz → (s.st id = 1 ∨ s.st id = 2) → (s.st tz = 3 ∨ tz ∈ s.on id) → BindTo s id tz 0 s
  | bad {P : List Int} : id ∈ s.ids → tz ∈ s.ids → id ≠ tz → (s.st id = 1 ∨ s.st id = 2) → tz ∉ s.on id → s.st tz = 4 → (∀ y, y ∈ P ↔ Doom s id y) → BindTo s id tz 0 (s.doomed P)
  | loop : id ∈ s.ids → tz ∈ s.ids → id ≠ tz → (s.st id = 1 ∨ s.st id = 2) → tz ∉ s.on id → (s.st tz = 1 ∨ s.st tz = 2) → Reach s tz id → BindTo s id tz 17 s
  | put : id ∈ s.ids → tz ∈ s.ids → id ≠ tz → (s.st id = 1 ∨ s.st id = 2) → tz ∉ s.on id → s.st tz = 1 → ¬ Reach s tz id → BindTo s id tz 0 (s.bound id tz)
  | doom {P : List Int} : id ∈ s.ids → tz ∈ s.ids → id ≠ tz → (s.st id = 1 ∨ s.st id = 2) → tz ∉ s.on id → s.st tz = 2 → ¬ Reach s tz id → (∀ y, y ∈ P ↔ Doom (s.bound id tz) id y) → BindTo s id tz 0 ((s.bound id tz).doomed P)

section
variable {w w' X : World} {b mb : Nat} {blk : Int → Nat} {row : Int → Value} {role : Nat → Role} {D : DataW Unit} {s : Bs}
theorem BA.bound (h : BA w b mb blk row role D s) {id tz : Int} (hid : id ∈ s.ids) (hto : tz ∈ s.ids) (hn : tz ∉ s.on id) (hX : Mod (fun _ => False) w X) {v' : Value}
    (hA : Appended X w' 0 3 1 (row id) v' ((s.on id).length + 1) ((s.on id).map (Value.int .i64) ++ [.int .i64 tz])) :
    BA (w'.setCell ⟨blk id, 1, none⟩ v') b mb blk (fun x => if x = id then v' else row x) (fun g => if v'.ownBlock = some g then .row id else role g) D (s.bound id tz) := by
  have hXs := hX.size
  have hm1 : Mod (fun g => (row id).ownBlock = some g) w w' := (hX.mono (fun _ h => h.elim)).trans (hA.mod (fun _ h => h))
  have hsame : ∀ g, role g ≠ .none → (if v'.ownBlock = some g then Role.row id else role g) = role g := fun g hg => by
    by_cases e : v'.ownBlock = some g
    · rw [if_pos e]
      rcases hA.lies with e2 | e2
      · rw [e2] at e
        exact (h.rr id hid g e).symm
      · rw [e2] at e
        have := Option.some.inj e
        have := h.lt g hg
        omega
    · rw [if_neg e]
  have hnode : ∀ g, (row id).ownBlock = some g → role g = .row id := h.rr id hid
  have hbl : v'.ownBlock ≠ some (blk id) := fun e => by
    rcases hA.lies with e2 | e2
    · rw [e2] at e
      have := hnode _ e
      rw [h.rn id hid] at this
      cases this
    · rw [e2] at e
      have := Option.some.inj e
      have := h.lt (blk id) (by rw [h.rn id hid]; simp)
      omega
  have hm2 : Mod (fun g => g = blk id) w' (w'.setCell ⟨blk id, 1, none⟩ v') := Mod.setCell (F := fun g => g = blk id) (Mod.refl _ w') (p := ⟨blk id, 1, none⟩) (.inl rfl) _
  have hrn := h.rn id hid
  refine ⟨?_, ?_, h.is, h.size, fun x hx => ?_, fun x hx => ?_, ?_, ?_, fun x hx => ?_, fun x hx g hg => ?_, fun g hg => ?_, bound_good h.good hid hto hn⟩
  · exact hm2.keep (hm1.keep h.top (fun e => by have := hnode _ e; rw [h.rb] at this; cases this)) (fun e => by rw [← e, h.rb] at hrn; cases hrn)
  · exact ownsMap_mod (ownsMap_mod h.map hm1 (fun e => by have := hnode _ e; rw [h.rm] at this; cases this)) hm2 (fun e => by rw [← e, h.rm] at hrn; cases hrn)
  · have hk := hm1.keep (h.node x hx) (fun e => by have := hnode _ e; rw [h.rn x hx] at this; cases this)
    by_cases e : x = id
    · subst e
      rw [blk_set (i := 1) hk]
      simp [Bs.bound]
    · have hne : blk x ≠ blk id := fun e2 => by
        have := h.rn x hx
        rw [e2, hrn] at this
        exact e (by injection this with h1; exact h1.symm)
      simp only [Bs.bound, if_neg e]
      exact blk_other (p := ⟨blk id, 1, none⟩) hk hne
  · by_cases e : x = id
    · subst e
      simp only [Bs.bound, if_true]
      exact (Owned.app (ys := [tz]) hA).mod hm2 (fun g hg e => hbl (e ▸ hg))
    · simp only [Bs.bound, if_neg e]
      refine ((h.rows x hx).mod hm1 (fun g hg e2 => ?_)).mod hm2 (fun g hg e2 => ?_)
      · have h1 := h.rr x hx g hg
        rw [hnode g e2] at h1
        injection h1 with h1
        exact e h1.symm
      · subst e2
        have h1 := h.rr x hx _ hg
        rw [hrn] at h1
        cases h1
  · rw [hsame b (by rw [h.rb]; simp)]
    exact h.rb
  · rw [hsame mb (by rw [h.rm]; simp)]
    exact h.rm
  · rw [hsame _ (by rw [h.rn x hx]; simp)]
    exact h.rn x hx
  · by_cases e : x = id
    · subst e
      simp only [if_true] at hg
      rw [if_pos hg]
    · simp only [if_neg e] at hg
      have h1 := h.rr x hx g hg
      rw [hsame g (by rw [h1]; simp)]
      exact h1
  · have hs := hm1.size
    have hs2 := hm2.size
    by_cases e : v'.ownBlock = some g
    · have := (Owned.app (ys := [tz]) hA : Owned .i64 3 w' v' _).lt g e
      omega
    · rw [if_neg e] at hg
      have := h.lt g hg
      omega
theorem BA.bound_left (h : BA w b mb blk row role D s) {id tz : Int} (hid : id ∈ s.ids) (hX : Mod (fun _ => False) w X) {v' : Value}
    (hA : Appended X w' 0 3 1 (row id) v' ((s.on id).length + 1) ((s.on id).map (Value.int .i64) ++ [.int .i64 tz])) :
    Mod (fun g => role g ≠ .none) w (w'.setCell ⟨blk id, 1, none⟩ v') ∧ Grows w (fun g => role g ≠ .none) (fun g => (if v'.ownBlock = some g then Role.row id else role g) ≠ .none) := by
  have hXs := hX.size
  have hm1 : Mod (fun g => (row id).ownBlock = some g) w w' := (hX.mono (fun _ h => h.elim)).trans (hA.mod (fun _ h => h))
  refine ⟨(hm1.mono (fun g hg => .inl (by rw [h.rr id hid g hg]; simp))).setCell (.inl (by rw [h.rn id hid]; simp)) _, fun g hg => ?_⟩
  by_cases e : v'.ownBlock = some g
  · rcases hA.lies with e2 | e2
    · rw [e2] at e
      exact .inl (show role g ≠ .none by rw [h.rr id hid g e]; simp)
    · rw [e2] at e
      have := Option.some.inj e
      exact .inr (by omega)
  · have hg2 : (if v'.ownBlock = some g then Role.row id else role g) ≠ .none := hg
    rw [if_neg e] at hg2
    exact .inl hg2
theorem LeftB.of {F : Nat → Prop} {w1 : World} {row' : Int → Value} {role' : Nat → Role} {s' : Bs} (hF : ∀ g, F g ↔ role g ≠ Role.none) (hB : BA w1 b mb blk row' role' D s') (hm : Mod (fun g => role g ≠ .none) w w1) (hg : Grows w (fun g => role g ≠ .none) (fun g => role' g ≠ .none)) : LeftB w b F s' w1 :=
  ⟨_, ⟨mb, blk, row', role', D, fun _ => Iff.rfl, hB⟩, hm.mono (fun g h => .inl ((hF g).2 h)), fun g h => (hg g h).imp (hF g).2 id⟩
/-- What a call leaves that makes no block of the bonds' own. -/
def KeptB (w : World) (b : Nat) (F : Nat → Prop) (s' : Bs) (w' : World) : Prop := BondsAt w' b F s' ∧ Mod F w w'
theorem KeptB.of {F : Nat → Prop} {w1 : World} {s' : Bs} (hF : ∀ g, F g ↔ role g ≠ Role.none) (hB : BA w1 b mb blk row role D s') (hm : Mod (fun g => role g ≠ .none) w w1) : KeptB w b F s' w1 :=
  ⟨⟨mb, blk, row, role, D, hF, hB⟩, hm.mono (fun g h => .inl ((hF g).2 h))⟩
theorem KeptB.still {F : Nat → Prop} {w1 : World} (h : BondsAt w b F s) (hm : Mod (fun _ => False) w w1) : KeptB w b F s w1 := ⟨h.mod hm (fun _ _ h => h), hm.mono (fun _ h => h.elim)⟩
theorem LeftB.still {F : Nat → Prop} {w1 : World} (h : BondsAt w b F s) (hm : Mod (fun _ => False) w w1) : LeftB w b F s w1 := ⟨F, h.mod hm (fun _ _ h => h), hm.mono (fun _ h => h.elim), Grows.refl _ _⟩
end
end Go.Proofs.Ytbihfjehlbaahaa
