/- Marks over time: Enter. -/
import Derived.Test.YtfjoghbkfkbbdaaK4
namespace Go.Proofs.Ytfjoghbkfkbbdaa
open Go.RowKit

def obM (b : Nat) (v : Value) : Ob := ⟨fun k => k = b, fun w => w.heap[b]? = some (marksObj v), fun w h k hk => by rw [hk]; exact blk_lt h, fun w w' G h hm ha => hm.keep h (ha b rfl)⟩
theorem PtrRow.mod {w w1 : World} {F : Nat → Prop} {v : Value} {ps : List Value} (h : PtrRow w v ps) (hm : Mod F w w1) (hF : ∀ k, v.ownBlock = some k → ¬ F k) : PtrRow w1 v ps := ⟨ownsRow_mod h.1 hm hF, h.2⟩
def obPtr (v : Value) (ps : List Value) : Ob := ⟨fun g => v.ownBlock = some g, fun w => PtrRow w v ps, fun _ h g hg => (World.ownsRow.lt h.1 g hg).2, fun _ _ _ h hm ha => h.mod hm (fun g hg => ha g hg)⟩
theorem ent_lt {w : World} {es : List Ent} (h : EntsAt w es) {e : Ent} (he : e ∈ es) : e.blk < w.heap.size := blk_lt (h e he)
def obEnts (es : List Ent) : Ob := ⟨fun k => ∃ e ∈ es, e.blk = k, fun w => EntsAt w es, fun _ h _ ⟨_, he, hk⟩ => hk ▸ ent_lt h he, fun _ _ _ h hm ha e he => hm.keep (h e he) (ha e.blk ⟨e, he, rfl⟩)⟩
/-- All begins, each as often as it lives. -/
def flat (es : List Ent) : List Int := es.flatMap fun e => List.replicate e.n.toNat e.at_
theorem flat_cons (e : Ent) (es : List Ent) : flat (e :: es) = List.replicate e.n.toNat e.at_ ++ flat es := rfl
theorem flat_app (es fs : List Ent) : flat (es ++ fs) = flat es ++ flat fs := by simp [flat]
theorem flat_mem {es : List Ent} {x : Int} (h : x ∈ flat es) : ∃ e ∈ es, e.at_ = x := by
  obtain ⟨e, he, hx⟩ := List.mem_flatMap.1 h
  exact ⟨e, he, (List.eq_of_mem_replicate hx).symm⟩
structure Good (es : List Ent) : Prop where
  rise : Rising es
  nd : (es.map Ent.blk).Nodup
  pos : ∀ e ∈ es, 1 ≤ e.n
theorem flat_len {es : List Ent} (h : ∀ e ∈ es, 1 ≤ e.n) : es.length ≤ (flat es).length ∧ ∀ e ∈ es, e.n.toNat ≤ (flat es).length := by
  induction es with
  | nil => exact ⟨Nat.le_refl _, fun e h => by simp at h⟩
  | cons a es ih =>
    obtain ⟨h1, h2⟩ := ih (fun e he => h e (by simp [he]))
    have ha := h a (by simp)
    rw [flat_cons, List.length_append, List.length_replicate]
    refine ⟨by simp; omega, fun e he => ?_⟩
    rcases List.mem_cons.1 he with rfl | he
    · omega
    · have := h2 e he; omega
def MF (w0 : World) (b : Nat) (l : List Int) (M : List Ob) (W : World) : Prop :=
  ∃ (es : List Ent) (v : Value), Sep w0 W (obM b v :: obPtr v (es.map Ent.ptr) :: obEnts es :: M) ∧ Good es ∧ flat es = l
/-- One more begin, where it belongs. -/
def insS (l : List Int) (x : Int) : List Int := l.filter (fun y => decide (y < x)) ++ x :: l.filter (fun y => !decide (y < x))
theorem ptr_one (es : List Ent) : ∀ p ∈ es.map Ent.ptr, p.oneCell' = true := by
  intro p hp
  obtain ⟨e, _, rfl⟩ := List.mem_map.1 hp
  rfl
section
variable {es : List Ent} {x : Int} {i : Nat}
theorem Place.take_lt (h : Place es x i) : ∀ y ∈ flat (es.take i), y < x := by
  intro y hy
  obtain ⟨e, he, rfl⟩ := flat_mem hy
  obtain ⟨j, hj, rfl⟩ := List.getElem_of_mem he
  have hj2 : j < i ∧ j < es.length := by rw [List.length_take] at hj; omega
  have := h.below j hj2.1
  simpa [List.getD_eq_getElem?_getD, hj2.2] using this
theorem Place.drop_ge (h : Place es x i) : ∀ y ∈ flat (es.drop i), x ≤ y := by
  intro y hy
  obtain ⟨e, he, rfl⟩ := flat_mem hy
  obtain ⟨j, hj, rfl⟩ := List.getElem_of_mem he
  have hj2 : i + j < es.length := by rw [List.length_drop] at hj; omega
  have := h.above (i + j) (by omega) hj2
  simpa [List.getD_eq_getElem?_getD, hj2] using this
theorem flat_split (es : List Ent) (i : Nat) : flat es = flat (es.take i) ++ flat (es.drop i) := by rw [← flat_app, List.take_append_drop]
theorem Place.ins (h : Place es x i) : insS (flat es) x = flat (es.take i) ++ x :: flat (es.drop i) := by
  unfold insS
  rw [flat_split es i, List.filter_append, List.filter_append]
  rw [List.filter_eq_self.2 (fun y hy => decide_eq_true (h.take_lt y hy)), List.filter_eq_nil_iff.2 (fun y hy => by have := h.drop_ge y hy; simp; omega)]
  rw [List.filter_eq_nil_iff.2 (fun y hy => by have := h.take_lt y hy; simp; omega), List.filter_eq_self.2 (fun y hy => by have := h.drop_ge y hy; simp; omega)]
  simp
theorem drop_cons (hi : i < es.length) : es.drop i = es.getD i ent0 :: es.drop (i + 1) := by
  rw [List.drop_eq_getElem_cons hi]
  simp [List.getD_eq_getElem?_getD, hi]
theorem eget_mem (hi : i < es.length) : es.getD i ent0 ∈ es := by simp [List.getD_eq_getElem?_getD, hi]
/-- An entry with another count. -/
def Ent.with (e : Ent) (n : Int) : Ent := ⟨e.blk, e.at_, n⟩
def bump (es : List Ent) (i : Nat) (n : Int) : List Ent := es.take i ++ (es.getD i ent0).with n :: es.drop (i + 1)
theorem bump_len (hi : i < es.length) (n : Int) : (bump es i n).length = es.length := by simp [bump]; omega
theorem bump_get (hi : i < es.length) (n : Int) (j : Nat) : (bump es i n).getD j ent0 = if j = i then (es.getD i ent0).with n else es.getD j ent0 := by
  have hl : (es.take i).length = i := by rw [List.length_take]; omega
  unfold bump
  rw [List.getD_eq_getElem?_getD]
  by_cases h1 : j < i
  · rw [List.getElem?_append_left (by omega), List.getElem?_take_of_lt h1, if_neg (by omega), ← List.getD_eq_getElem?_getD]
  · rw [List.getElem?_append_right (by omega), hl]
    by_cases h2 : j = i
    · subst h2
      simp
    · rw [if_neg h2, show j - i = (j - i - 1) + 1 by omega, List.getElem?_cons_succ, List.getElem?_drop, show i + 1 + (j - i - 1) = j by omega, ← List.getD_eq_getElem?_getD]
theorem bump_map {α : Type} (f : Ent → α) (hi : i < es.length) (n : Int) (hf : f ((es.getD i ent0).with n) = f (es.getD i ent0)) : (bump es i n).map f = es.map f := by
  unfold bump
  rw [List.map_append, List.map_cons, hf, ← List.map_cons, ← drop_cons hi, ← List.map_append, List.take_append_drop]
theorem bump_mem (_hi : i < es.length) {n : Int} {e : Ent} (he : e ∈ bump es i n) : e = (es.getD i ent0).with n ∨ e ∈ es := by
  unfold bump at he
  rcases List.mem_append.1 he with h | h
  · exact .inr (List.mem_of_mem_take h)
  · rcases List.mem_cons.1 h with h | h
    · exact .inl h
    · exact .inr (List.mem_of_mem_drop h)
theorem Good.bump (h : Good es) (hi : i < es.length) {n : Int} (hn : 1 ≤ n) : Good (bump es i n) where
  rise := fun a c hac hc => by
    rw [bump_len hi] at hc
    have := h.rise a c hac hc
    rw [bump_get hi, bump_get hi]
    split <;> split <;> simp_all [Ent.with]
  nd := by rw [bump_map Ent.blk hi n rfl]; exact h.nd
  pos := fun e he => by
    rcases bump_mem hi he with rfl | he
    · exact hn
    · exact h.pos e he
theorem EntsAt.bump {w : World} (h : EntsAt w es) (hnd : (es.map Ent.blk).Nodup) (hi : i < es.length) (n : Int) : EntsAt (w.setCell ⟨(es.getD i ent0).blk, 1, none⟩ (.int .i64 n)) (Go.Proofs.Ytfjoghbkfkbbdaa.bump es i n) := by
  intro e he
  have hne : ∀ f ∈ es.take i ++ es.drop (i + 1), f.blk ≠ (es.getD i ent0).blk := by
    have h1 : es = es.take i ++ es.getD i ent0 :: es.drop (i + 1) := by rw [← drop_cons hi, List.take_append_drop]
    rw [h1, List.map_append, List.map_cons, List.nodup_append, List.nodup_cons] at hnd
    intro f hf e2
    rcases List.mem_append.1 hf with hf | hf
    · exact hnd.2.2 _ (List.mem_map_of_mem hf) _ (by simp) e2
    · exact hnd.2.1.1 (e2 ▸ List.mem_map_of_mem hf)
  unfold Go.Proofs.Ytfjoghbkfkbbdaa.bump at he
  rcases List.mem_append.1 he with he | he
  · rw [blk_other (h e (List.mem_of_mem_take he)) (hne e (List.mem_append_left _ he))]
  · rcases List.mem_cons.1 he with rfl | he
    · have := blk_set (i := 1) (u := .int .i64 n) (h.at_ hi)
      exact this
    · rw [blk_other (h e (List.mem_of_mem_drop he)) (hne e (List.mem_append_right _ he))]
theorem flat_bump (_hi : i < es.length) (n : Int) : flat (bump es i n) = flat (es.take i) ++ (List.replicate n.toNat (es.getD i ent0).at_ ++ flat (es.drop (i + 1))) := by
  unfold bump
  rw [flat_app, flat_cons]
  rfl
theorem flat_at (hi : i < es.length) : flat es = flat (es.take i) ++ (List.replicate (es.getD i ent0).n.toNat (es.getD i ent0).at_ ++ flat (es.drop (i + 1))) := by
  rw [flat_split es i, drop_cons hi, flat_cons]
end
end Go.Proofs.Ytfjoghbkfkbbdaa
