/- reach: whether one waits for another one, itself or by others. -/
import Derived.Test.YtbihfjehlbaahaaJ3
namespace Go.Proofs.Ytbihfjehlbaahaa
open Go.RowKit

/-- One waits for another one, itself or by others. -/
inductive Reach (s : Bs) (a : Int) : Int → Prop where
  | one {x : Int} : x ∈ s.on a → Reach s a x
  | more {y x : Int} : Reach s a y → x ∈ s.on y → Reach s a x

theorem nodup_le : ∀ {S L : List Int}, S.Nodup → (∀ x ∈ S, x ∈ L) → S.length ≤ L.length
  | [], _, _, _ => by simp
  | x :: S, L, h, hs => by
    have hx : x ∈ L := hs x (by simp)
    have h1 := List.nodup_cons.1 h
    have := nodup_le (S := S) (L := L.erase x) h1.2 (fun y hy => (List.mem_erase_of_ne (by rintro rfl; exact h1.1 hy)).2 (hs y (by simp [hy])))
    have hl := List.length_erase_of_mem hx
    have hp : 0 < L.length := List.length_pos_of_mem hx
    simp only [List.length_cons]
    omega

/-- What is seen (S), what is still to do (T); of z the first k are done. -/
structure RI (s : Bs) (a to : Int) (S T : List Int) (z : Int) (k : Nat) : Prop where
  sub : ∀ x ∈ S, x ∈ s.ids
  nd : S.Nodup
  zin : z ∈ S
  tin : ∀ x ∈ T, x ∈ S
  rea : ∀ x ∈ S, x = a ∨ Reach s a x
  has : a ∈ S
  clo : ∀ x ∈ S, x ∈ T ∨ ∀ j, j < (s.on x).length → (x = z → j < k) → (s.on x).getD j 0 ≠ to ∧ (s.on x).getD j 0 ∈ S
theorem RI.start {s : Bs} {a to : Int} (h : a ∈ s.ids) : RI s a to [a] [a] a (s.on a).length where
  sub x hx := by simp at hx; subst hx; exact h
  nd := by simp
  zin := by simp
  tin x hx := hx
  rea x hx := by simp at hx; exact .inl hx
  has := by simp
  clo x hx := .inl hx
theorem RI.pop {s : Bs} {a to : Int} {S T : List Int} {z y : Int} (h : RI s a to S (T ++ [y]) z (s.on z).length) : RI s a to S T y 0 where
  sub := h.sub
  nd := h.nd
  zin := h.tin y (by simp)
  tin x hx := h.tin x (by simp [hx])
  rea := h.rea
  has := h.has
  clo x hx := by
    rcases h.clo x hx with h1 | h1
    · rcases List.mem_append.1 h1 with h2 | h2
      · exact .inl h2
      · simp at h2
        exact .inr fun j _ hz => absurd (hz h2) (by omega)
    · exact .inr fun j hj _ => h1 j hj (fun e => by rw [← e]; exact hj)
theorem RI.old {s : Bs} {a to : Int} {S T : List Int} {z : Int} {k : Nat} (h : RI s a to S T z k) (hx : (s.on z).getD k 0 ∈ S) (hn : (s.on z).getD k 0 ≠ to) : RI s a to S T z (k + 1) where
  sub := h.sub
  nd := h.nd
  zin := h.zin
  tin := h.tin
  rea := h.rea
  has := h.has
  clo x hxS := by
    rcases h.clo x hxS with h1 | h1
    · exact .inl h1
    · refine .inr fun j hj hz => ?_
      by_cases e : x = z ∧ j = k
      · obtain ⟨rfl, rfl⟩ := e
        exact ⟨hn, hx⟩
      · exact h1 j hj (fun ez => by have := hz ez; have : j ≠ k := fun ej => e ⟨ez, ej⟩; omega)
theorem RI.put {s : Bs} (hs : s.ok) {a to : Int} {S T : List Int} {z : Int} {k : Nat} (h : RI s a to S T z k) (hk : k < (s.on z).length) (hx : (s.on z).getD k 0 ∉ S) (hn : (s.on z).getD k 0 ≠ to) :
    RI s a to (S ++ [(s.on z).getD k 0]) (T ++ [(s.on z).getD k 0]) z (k + 1) where
  sub x hxS := by
    rcases List.mem_append.1 hxS with h1 | h1
    · exact h.sub x h1
    · simp only [List.mem_singleton] at h1
      subst h1
      exact hs.on z (h.sub z h.zin) _ (get_mem hk)
  nd := List.nodup_append.2 ⟨h.nd, by simp, fun p hp q hq => by simp only [List.mem_singleton] at hq; subst hq; exact fun e => hx (e ▸ hp)⟩
  zin := by simp [h.zin]
  tin x hxT := by
    rcases List.mem_append.1 hxT with h1 | h1
    · exact List.mem_append_left _ (h.tin x h1)
    · exact List.mem_append_right _ h1
  rea x hxS := by
    rcases List.mem_append.1 hxS with h1 | h1
    · exact h.rea x h1
    · simp only [List.mem_singleton] at h1
      subst h1
      rcases h.rea z h.zin with e | e
      · subst e; exact .inr (.one (get_mem hk))
      · exact .inr (.more e (get_mem hk))
  has := by simp [h.has]
  clo x hxS := by
    rcases List.mem_append.1 hxS with h0 | h0
    · rcases h.clo x h0 with h1 | h1
      · exact .inl (List.mem_append_left _ h1)
      · refine .inr fun j hj hz => ?_
        by_cases e : x = z ∧ j = k
        · obtain ⟨rfl, rfl⟩ := e
          exact ⟨hn, by simp⟩
        · have := h1 j hj (fun ez => by have := hz ez; have : j ≠ k := fun ej => e ⟨ez, ej⟩; omega)
          exact ⟨this.1, List.mem_append_left _ this.2⟩
    · exact .inl (List.mem_append_right _ h0)
theorem RI.found {s : Bs} {a to : Int} {S T : List Int} {z : Int} {k : Nat} (h : RI s a to S T z k) (hk : k < (s.on z).length) (hn : (s.on z).getD k 0 = to) : Reach s a to := by
  have hm : to ∈ s.on z := hn ▸ get_mem hk
  rcases h.rea z h.zin with e | e
  · subst e; exact .one hm
  · exact .more e hm
theorem mem_get {L : List Int} {x : Int} (h : x ∈ L) : ∃ j, j < L.length ∧ L.getD j 0 = x := by
  obtain ⟨j, hj, e⟩ := List.getElem_of_mem h
  exact ⟨j, hj, by simp [List.getD_eq_getElem?_getD, hj, e]⟩
theorem RI.none {s : Bs} {a to : Int} {S : List Int} {z : Int} (h : RI s a to S [] z (s.on z).length) : ¬ Reach s a to := by
  have hc : ∀ x ∈ S, ∀ y ∈ s.on x, y ≠ to ∧ y ∈ S := fun x hx y hy => by
    obtain ⟨j, hj, e⟩ := mem_get hy
    rcases h.clo x hx with h1 | h1
    · simp at h1
    · have := h1 j hj (fun ez => by rw [← ez]; exact hj)
      rw [e] at this
      exact this
  have hr : ∀ x, Reach s a x → x ∈ S ∧ x ≠ to := fun x hx => by
    induction hx with
    | one hx => exact ⟨(hc a h.has _ hx).2, (hc a h.has _ hx).1⟩
    | more _ hx ih => exact ⟨(hc _ ih.1 _ hx).2, (hc _ ih.1 _ hx).1⟩
  exact fun hx => (hr to hx).2 rfl
theorem RI.len {s : Bs} {a to : Int} {S T : List Int} {z : Int} {k : Nat} (h : RI s a to S T z k) : S.length ≤ s.ids.length := nodup_le h.nd h.sub

theorem zero_int (w : World) : (zeroValue 3).run Try.prog w = .ok (.int .i64 0) w := by kernel_rfl
/-- A map of the call's own: who has been seen. -/
def SeenAt (w : World) (g : Nat) (S : List Int) : Prop := ∃ D : DataW Unit, w.ownsMap Try.prog 3 (plainElem Try.prog 3) g S.length D ∧ ∀ x : Int, D.atKey (.int .i64 x) (.lit (.int .i64 0)) = .lit (.int .i64 (if x ∈ S then 1 else 0))
theorem SeenAt.look {w : World} {g : Nat} {S : List Int} (h : SeenAt w g S) {x : Int} (hx : (Lit.int .i64 x).wf = true) :
    (Instr.lookup 148 (.map (some g)) (.int .i64 x) false).run Try.prog w = .ok (.int .i64 (if x ∈ S then 1 else 0)) w := by
  obtain ⟨D, hm, hD⟩ := h
  obtain ⟨c, hr, hc, _⟩ := hm.lookup_int bond_key Try.underlying148 Try.underlying3 (zero_int w) (key_int hx)
  rw [hD x] at hc
  have : (if x ∈ S then 1 else 0) = c := by simpa using hc
  rw [this]
  exact hr
theorem seen_put {w : World} {g n : Nat} {D : DataW Unit} {S : List Int} (hm : w.ownsMap Try.prog 3 (plainElem Try.prog 3) g n D) (hn : n = S.length) (hD : ∀ x : Int, D.atKey (.int .i64 x) (.lit (.int .i64 0)) = .lit (.int .i64 (if x ∈ S then 1 else 0))) {x : Int} (hx : (Lit.int .i64 x).wf = true) (hl : S.length ≤ 2000) :
    ∃ w', (Instr.mapUpdate 148 (.map (some g)) (.int .i64 x) (.int .i64 1)).run Try.prog w = .ok () w' ∧ SeenAt w' g (S ++ [x]) ∧ w.grownBy w' (some g) := by
  subst hn
  obtain ⟨w', hr, h1, h2⟩ := hm.update bond_key Try.underlying148 (by unfold maxLen; omega) (key_int hx) (plainElem_int (H := Unit) Try.underlying3 (a := 1) (by decide))
  refine ⟨w', hr, ⟨_, by simpa using h1, fun y => ?_⟩, h2⟩
  by_cases hy : y = x
  · subst hy
    rw [Go.Maps.atKey_put_same hm.isMap (key_lit y)]
    simp
  · rw [Go.Maps.atKey_put_other (key_ne hy), hD y]
    simp [hy]
theorem SeenAt.put {w : World} {g : Nat} {S : List Int} (h : SeenAt w g S) {x : Int} (hx : (Lit.int .i64 x).wf = true) (hl : S.length ≤ 2000) :
    ∃ w', (Instr.mapUpdate 148 (.map (some g)) (.int .i64 x) (.int .i64 1)).run Try.prog w = .ok () w' ∧ SeenAt w' g (S ++ [x]) ∧ w.grownBy w' (some g) := by
  obtain ⟨D, hm, hD⟩ := h
  exact seen_put hm rfl hD hx hl
theorem seen_first (w : World) {x : Int} (hx : (Lit.int .i64 x).wf = true) :
    ∃ w', (Instr.mapUpdate 148 (.map (some w.heap.size)) (.int .i64 x) (.int .i64 1)).run Try.prog (w.alloc (.map #[] 0)) = .ok () w' ∧ SeenAt w' w.heap.size [x] ∧ (w.alloc (.map #[] 0)).grownBy w' (some w.heap.size) :=
  seen_put (S := []) (World.ownsMap_made w _ _ _) rfl (fun x => rfl) hx (by simp)
def obSeen (g : Nat) (S : List Int) : Ob := ⟨fun k => k = g, fun w => SeenAt w g S, fun w h k hk => by
  subst hk
  obtain ⟨D, hm, _⟩ := h
  exact hm.lt, fun w w' G h hm ha => by
  obtain ⟨D, h1, h2⟩ := h
  exact ⟨D, ownsMap_mod h1 hm (ha g rfl), h2⟩⟩
end Go.Proofs.Ytbihfjehlbaahaa
