/- vinculumref16: For and reach. -/
import Derived.Test.YtbihfjehlbaahaaJN
namespace Go.Proofs.Ytbihfjehlbaahaa
open Go.RowKit

/-- One step: a bond to one that is not well. -/
def RS.step (r : RS) (x y : Int) : Prop := r.bond x y ∧ r.stOf y ≠ 3
/-- What For hands back. -/
def ForDone (w : World) (p : Int → Prop) (e : Ending) (w' : World) : Prop := ∃ v l, e = .returned v ∧ Owned .i64 3 w' v l ∧ Rise l p ∧ Below w.heap.size w w' ∧ ∀ g, v.ownBlock = some g → w.heap.size ≤ g
section
variable {w w1 : World} {c : Nat} {iv sv fv tv : Value} {r : RS}

set_option maxRecDepth 100000 in
set_option maxHeartbeats 6400000 in
theorem rb_for (h : RM w c iv sv fv tv r) (x : Int) :
    Calls Try.prog 30 #[.pointer (some ⟨c, 0, none⟩), .int .i64 x] w (ForDone w (r.step x)) := by
  obtain ⟨fa, fc, hfv, f1, -, -⟩ := h.of.form
  obtain ⟨ta, tc, htv, t1, -, -⟩ := h.ot.form
  subst hfv htv
  have HF := Lib.hid (own_some h.of)
  have HT := Lib.hid (own_some h.ot)
  have HR := Lib.hid (fun W (hb : Below w.heap.size w W) => h.below hb)
  have HTL := Lib.hid h.ok.tlen
  have hsm := h.ok.small
  clear h
  go_enter Try.func30, Try.ntmps30
  go_wp2_with fail
  go_loopg [5, 6] r.fr.length (fun kx ov jv wr => ∃ (i : Nat) (O : List Int), jv = .int .i64 (i : Int) ∧ i ≤ r.fr.length ∧ r.fr.length - i ≤ kx ∧ O.length ≤ i ∧ Hid (Owned .i64 3 wr ov O ∧ (∀ g, ov.ownBlock = some g → w.heap.size ≤ g) ∧ Below w.heap.size w wr) ∧ Hid (Rise O (fun y => ∃ j, j < i ∧ r.fr.getD j 0 = x ∧ r.tt.getD j 0 = y ∧ r.stOf y ≠ 3)))
  case atStart => exact ⟨0, [], rfl, Nat.zero_le _, by omega, Nat.le_refl _, Lib.hid ⟨Owned.nil _ _ _, fun g hg => by simp [Value.ownBlock] at hg, Below.refl _ _⟩, Lib.hid ⟨List.Pairwise.nil, fun y => ⟨fun h => by simp at h, fun ⟨j, hj, _⟩ => by omega⟩⟩⟩
  case round =>
    obtain ⟨i, O, rfl, hi, hix, hOl, HM, HO⟩ := hrel
    have hR := HR.out wr HM.out.2.2
    obtain ⟨-, -, c2, c3⟩ := hR.cells
    have q0 : (0 : Int) ≤ (i : Int) := by omega
    by_cases hlt : i < r.fr.length
    · have q1 : (i : Int) < (r.fr.length : Int) := by omega
      have hlt2 : i < r.tt.length := by rw [HTL.out]; exact hlt
      have q2 : (i : Int) < (r.tt.length : Int) := by omega
      obtain ⟨g, rfl⟩ := HF.out i hlt
      obtain ⟨k, rfl⟩ := HT.out i hlt2
      have d1 := hR.of.at_ hlt
      have d2 := hR.ot.at_ hlt2
      have hstate := rb_state hR (r.tt.getD i 0)
      have HNO := Lib.hid (fun (e : ¬ (r.fr.getD i 0 = x ∧ r.stOf (r.tt.getD i 0) ≠ 3)) => (⟨HO.out.1, fun y => by
        rw [HO.out.2 y]
        refine ⟨fun ⟨j, hj, g⟩ => ⟨j, by omega, g⟩, fun ⟨j, hj, g1, g2, g3⟩ => ⟨j, ?_, g1, g2, g3⟩⟩
        by_cases h : j = i
        · subst h
          exact absurd ⟨g1, by rw [g2]; exact g3⟩ e
        · omega⟩ : Rise O (fun y => ∃ j, j < i + 1 ∧ r.fr.getD j 0 = x ∧ r.tt.getD j 0 = y ∧ r.stOf y ≠ 3)))
      have HYES := Lib.hid (fun (e1 : r.fr.getD i 0 = x) (e2 : r.stOf (r.tt.getD i 0) ≠ 3) O' (hp : Puts O (r.tt.getD i 0) O') => (⟨hp.up, fun y => by
        rw [hp.mem y, HO.out.2 y]
        constructor
        · rintro (⟨j, hj, g⟩ | rfl)
          · exact ⟨j, by omega, g⟩
          · exact ⟨i, by omega, e1, rfl, e2⟩
        · rintro ⟨j, hj, g1, g2, g3⟩
          by_cases h : j = i
          · subst h; exact .inr g2.symm
          · exact .inl ⟨j, by omega, g1, g2, g3⟩⟩ : Rise O' (fun y => ∃ j, j < i + 1 ∧ r.fr.getD j 0 = x ∧ r.tt.getD j 0 = y ∧ r.stOf y ≠ 3)))
      have hput := put_any HM.out.1 HO.out.1 (by omega) (r.tt.getD i 0)
      have HPU := Lib.hid hput
      clear hR HO hput hlt2
      generalize r.fr.getD i 0 = p at *
      generalize r.tt.getD i 0 = q at *
      by_cases e1 : p = x
      · have b1 : (p == x) = true := by simp [e1]
        by_cases e3 : r.stOf q = 3
        · rw [e3] at hstate
          have HST := Lib.hid hstate
          have HO2 := Lib.hid (HNO.out (fun h => h.2 e3))
          clear hstate HNO HYES e1 e3 HPU
          go_wp2_with fail
          refine HST.out.mono ?_
          rintro e w' ⟨rfl, rfl⟩
          go_wp2_with fail
          go_roundg (r.fr.length - (i + 1))
          case rel => exact ⟨i + 1, O, by go_num, by omega, by omega, by omega, HM, HO2⟩
          case measure => omega
        · have b3 : (r.stOf q != 3) = true := by simpa using e3
          have HST := Lib.hid hstate
          have HY := Lib.hid (HYES.out e1 e3)
          clear hstate HNO HYES e1 e3
          go_wp2_with fail
          refine HST.out.mono ?_
          rintro e w' ⟨rfl, rfl⟩
          go_wp2_with fail
          refine HPU.out.mono ?_
          rintro e w2 ⟨v', O', rfl, hO', hp, hb, hn⟩
          have HO2 := Lib.hid (HY.out O' hp)
          have hlen := hp.len
          have HM2 := Lib.hid (show Owned .i64 3 w2 v' O' ∧ (∀ g, v'.ownBlock = some g → w.heap.size ≤ g) ∧ Below w.heap.size w w2 from ⟨hO', fun g hg => by
            rcases hn g hg with h | h
            · exact HM.out.2.1 g h
            · have := HM.out.2.2.size; omega, bl_next HM.out.2.2 hb⟩)
          clear hO' hp hb hn HPU HY HST
          go_wp2_with fail
          go_roundg (r.fr.length - (i + 1))
          case rel => exact ⟨i + 1, O', by go_num, by omega, by omega, by omega, HM2, HO2⟩
          case measure => omega
      · have b1 : (p == x) = false := by simpa using e1
        have HO2 := Lib.hid (HNO.out (fun h => e1 h.1))
        clear HNO HYES e1 HPU hstate
        go_wp2_with fail
        go_roundg (r.fr.length - (i + 1))
        case rel => exact ⟨i + 1, O, by go_num, by omega, by omega, by omega, HM, HO2⟩
        case measure => omega
    · obtain rfl : i = r.fr.length := by omega
      have HO2 := Lib.hid (show Rise O (r.step x) from ⟨HO.out.1, fun y => by
        rw [HO.out.2 y]
        exact ⟨fun ⟨j, hj, g1, g2, g3⟩ => ⟨⟨j, hj, g1, g2⟩, g3⟩, fun ⟨⟨j, hj, g1, g2⟩, g3⟩ => ⟨j, hj, g1, g2, g3⟩⟩⟩)
      clear hR HO
      go_wp2_with fail
      go_ret
      exact ⟨_, O, rfl, HM.out.1, HO2.out, HM.out.2.2, HM.out.2.1⟩

/-- On the way by steps. -/
inductive RS.Way (r : RS) (a : Int) : Int → Prop where
  | one {x : Int} : r.step a x → RS.Way r a x
  | more {y x : Int} : RS.Way r a y → r.step y x → RS.Way r a x
/-- The row of those met: of the i-th the first k are looked at. -/
structure RW (r : RS) (a : Int) (O : List Int) (i : Nat) (done : Int → Prop) : Prop where
  nd : O.Nodup
  first : O.getD 0 0 = a
  pos : 0 < O.length
  sub : ∀ x ∈ O, x = a ∨ r.Way a x
  inn : ∀ x ∈ O, x = a ∨ x ∈ r.ids
  clo : ∀ j, j < i → ∀ y, r.step (O.getD j 0) y → y ∈ O
  here : ∀ y, done y → y ∈ O
theorem step_in (h : r.ok) {x y : Int} (hs : r.step x y) : y ∈ r.ids := by
  obtain ⟨⟨j, hj, _, rfl⟩, _⟩ := hs
  exact h.tin _ (get_mem (by rw [h.tlen]; exact hj))
theorem RW.start (r : RS) (a : Int) : RW r a [a] 0 (fun _ => False) := ⟨by simp, rfl, by simp, fun x hx => .inl (by simpa using hx), fun x hx => .inl (by simpa using hx), fun j hj => by omega, fun _ h => h.elim⟩
theorem RW.len {a : Int} {O : List Int} {i : Nat} {d : Int → Prop} (h : RW r a O i d) : O.length ≤ r.ids.length + 1 := by
  have := nodup_le (S := O) (L := a :: r.ids) h.nd (fun x hx => by rcases h.inn x hx with e | e; simp [e]; simp [e])
  simpa using this
theorem RW.more {a y : Int} {O : List Int} {i : Nat} {d : Int → Prop} (hr : r.ok) (h : RW r a O i d) (hi : i < O.length) (hs : r.step (O.getD i 0) y) (hn : y ∉ O) : RW r a (O ++ [y]) i (fun u => d u ∨ u = y) where
  nd := List.nodup_append.2 ⟨h.nd, by simp, fun p hp q hq => by simp only [List.mem_singleton] at hq; subst hq; exact fun e => hn (e ▸ hp)⟩
  first := by
    have := h.pos
    rw [← h.first, List.getD_eq_getElem?_getD, List.getElem?_append_left this, ← List.getD_eq_getElem?_getD]
  pos := by simp
  sub x hx := by
    rcases List.mem_append.1 hx with hx | hx
    · exact h.sub x hx
    · simp only [List.mem_singleton] at hx
      subst hx
      rcases h.sub _ (get_mem hi) with e | e
      · rw [e] at hs; exact .inr (.one hs)
      · exact .inr (.more e hs)
  inn x hx := by
    rcases List.mem_append.1 hx with hx | hx
    · exact h.inn x hx
    · simp only [List.mem_singleton] at hx
      subst hx
      exact .inr (step_in hr hs)
  clo j hj y hy := by
    have e2 : ∀ z, (O ++ [z]).getD j 0 = O.getD j 0 := fun z => by rw [List.getD_eq_getElem?_getD, List.getElem?_append_left (show j < O.length by omega), ← List.getD_eq_getElem?_getD]
    rw [e2] at hy
    exact List.mem_append_left _ (h.clo j hj y hy)
  here u hu := by
    rcases hu with hu | rfl
    · exact List.mem_append_left _ (h.here u hu)
    · simp
theorem RW.had {a y : Int} {O : List Int} {i : Nat} {d : Int → Prop} (h : RW r a O i d) (hy : y ∈ O) : RW r a O i (fun u => d u ∨ u = y) :=
  { h with here := fun u hu => by rcases hu with hu | rfl; exact h.here u hu; exact hy }
theorem RW.congr {a : Int} {O : List Int} {i : Nat} {d d' : Int → Prop} (h : RW r a O i d) (hd : ∀ u, d' u → d u) : RW r a O i d' := { h with here := fun u hu => h.here u (hd u hu) }
theorem RW.next {a : Int} {O : List Int} {i : Nat} {d : Int → Prop} (h : RW r a O i d) (hd : ∀ y, r.step (O.getD i 0) y → d y) : RW r a O (i + 1) (fun _ => False) :=
  { h with
    clo := fun j hj y hy => by
      by_cases e : j = i
      · subst e; exact h.here y (hd y hy)
      · exact h.clo j (by omega) y hy
    here := fun _ h => h.elim }
theorem RW.all {a : Int} {O : List Int} {d : Int → Prop} (h : RW r a O O.length d) (x : Int) : x ∈ O ↔ x = a ∨ r.Way a x := by
  refine ⟨h.sub x, fun hx => ?_⟩
  have h0 : a ∈ O := by have := get_mem h.pos; rwa [h.first] at this
  have hc : ∀ u ∈ O, ∀ y, r.step u y → y ∈ O := fun u hu y hy => by
    obtain ⟨j, hj, rfl⟩ := mem_get hu
    exact h.clo j hj y hy
  rcases hx with rfl | hx
  · exact h0
  · induction hx with
    | one hs => exact hc a h0 _ hs
    | more _ hs ih => exact hc _ ih _ hs
end
end Go.Proofs.Ytbihfjehlbaahaa
