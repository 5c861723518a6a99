/- vinculumref16: reach, walked. -/
import Derived.Test.YtbihfjehlbaahaaJO
namespace Go.Proofs.Ytbihfjehlbaahaa
open Go.RowKit

def ReachDone (w : World) (r : RS) (a : Int) (e : Ending) (w' : World) : Prop := ∃ v l, e = .returned v ∧ RowAt .i64 w' v l ∧ (∀ y, y ∈ l ↔ r.Way a y ∧ y ≠ a) ∧ l.length ≤ r.ids.length ∧ Below w.heap.size w w'
theorem getD_app {O : List Int} {i : Nat} (h : i < O.length) (y : Int) : (O ++ [y]).getD i 0 = O.getD i 0 := by
  rw [List.getD_eq_getElem?_getD, List.getElem?_append_left h, ← List.getD_eq_getElem?_getD]
section
variable {w w1 : World} {c : Nat} {iv sv fv tv : Value} {r : RS}

set_option maxRecDepth 100000 in
set_option maxHeartbeats 12800000 in
theorem rb_reach (h : RM w c iv sv fv tv r) (a : Int) :
    Calls Try.prog 58 #[.pointer (some ⟨c, 0, none⟩), .int .i64 a] w (ReachDone w r a) := by
  have HR := Lib.hid (fun W (hb : Below w.heap.size w W) => h.below hb)
  have HK := Lib.hid h.ok
  have hfew := h.ok.few
  have S1 : Sep w (w.alloc (.cells #[.int .i64 a] 3)) [obRow .i64 3 (.slice (some ⟨w.heap.size, 0, none⟩) 1 1) [a]] :=
    (Sep.nil w).new (A := obRow .i64 3 (.slice (some ⟨w.heap.size, 0, none⟩) 1 1) [a]) ((Below.refl _ _).alloc (Nat.le_refl _) _) ⟨rfl, .inr ⟨w.heap.size, 1, _, rfl, Nat.zero_le _, blk_at rfl, Nat.le_refl _, by unfold maxLen; omega, rfl, rfl⟩⟩ (fun k hk => Nat.le_of_eq (show w.heap.size = k by simpa [obRow, Value.ownBlock] using hk))
  have HS1 := Lib.hid S1
  clear h S1
  go_enter Try.func58, Try.ntmps58
  go_wp2_with fail
  go_loopg [5, 6] (r.ids.length + 2) (fun kx ov jv wr => ∃ (i : Nat) (O : List Int), jv = .int .i64 (i : Int) ∧ i ≤ O.length ∧ r.ids.length + 2 - i ≤ kx ∧ Hid (Sep w wr [obRow .i64 3 ov O]) ∧ Hid (RW r a O i (fun _ => False)))
  case atStart => exact ⟨0, [a], rfl, Nat.zero_le _, by omega, HS1, Lib.hid (RW.start r a)⟩
  case round =>
    obtain ⟨i, O, rfl, hi, hix, HS, HW⟩ := hrel
    clear HS1
    have hOl := HW.out.len
    have q0 : (0 : Int) ≤ (i : Int) := by omega
    obtain ⟨oa, oc, hov, o1, o2, o3⟩ := Owned.form (HS.out.head : Owned .i64 3 wr u5 O)
    subst hov
    by_cases hlt : i < O.length
    · have q1 : (i : Int) < (O.length : Int) := by omega
      obtain ⟨g, rfl⟩ := own_some (HS.out.head : Owned .i64 3 wr _ O) i hlt
      have d1 := (HS.out.head : Owned .i64 3 wr (.slice (some ⟨g, 0, none⟩) O.length oc) O).at_ hlt
      have hfor := rb_for (HR.out wr HS.out.bel) (O.getD i 0)
      have HFO := Lib.hid hfor
      obtain ⟨z, hz⟩ : ∃ z, z = O.getD i 0 := ⟨_, rfl⟩
      rw [← hz] at d1 HFO
      have HZ := Lib.hid (show O.getD i 0 = z ∧ i < O.length from ⟨hz.symm, hlt⟩)
      obtain ⟨M, hM⟩ : ∃ M : Nat, M = gk := ⟨_, rfl⟩
      rw [← hM] at hix
      clear hfor hz o2 o3
      go_wp2_with fail
      refine HFO.out.mono ?_
      rintro e w3 ⟨v, l, rfl, hl, hr, hb, hn⟩
      have H3 := Lib.hid ((HS.out.new (A := obRow .i64 3 v l) hb hl hn).swap)
      have HL := Lib.hid hr
      obtain ⟨va, vc, hvv, v1, -, -⟩ := hl.form
      have hll : l.length ≤ 2000 := by
        have := nodup_le (S := l) (L := r.ids) (hr.1.imp (fun h => by omega)) (fun y hy => step_in HK.out ((hr.2 y).1 hy))
        omega
      subst hvv
      clear hl hr hb hn HFO HS
      go_wp2_with fail
      go_loopg [5, 8] l.length (fun kx ov kv wr => ∃ (k : Nat) (O : List Int), kv = .int .i64 (k : Int) ∧ k ≤ l.length ∧ l.length - k ≤ kx ∧ Hid (Sep w wr [obRow .i64 3 ov O, obRow .i64 3 (.slice va l.length vc) l]) ∧ Hid (RW r a O i (fun u => ∃ j, j < k ∧ l.getD j 0 = u)) ∧ Hid (O.getD i 0 = z ∧ i < O.length))
      case atStart => exact ⟨0, O, rfl, Nat.zero_le _, by omega, H3, Lib.hid (HW.out.congr (fun u ⟨j, hj, _⟩ => by omega)), HZ⟩
      case round =>
        obtain ⟨k, O, rfl, hk, hkx, HS, HW, HZ⟩ := hrel
        clear H3
        have hOl := HW.out.len
        have q2 : (0 : Int) ≤ (k : Int) := by omega
        obtain ⟨oa, oc, hov, o1, -, -⟩ := Owned.form (HS.out.head : Owned .i64 3 wr u5 O)
        subst hov
        by_cases hkl : k < l.length
        · have q3 : (k : Int) < (l.length : Int) := by omega
          obtain ⟨gv, rfl⟩ := own_some (HS.out.second : Owned .i64 3 wr _ l) k hkl
          have hst : r.step (O.getD i 0) (l.getD k 0) := by rw [HZ.out.1]; exact (HL.out.2 _).1 (get_mem hkl)
          have HHAD := Lib.hid (fun (hy : l.getD k 0 ∈ O) => (HW.out.had hy).congr (d' := fun u => ∃ j, j < k + 1 ∧ l.getD j 0 = u) (fun u ⟨j, hj, e⟩ => by
            by_cases hjk : j = k
            · subst hjk; exact .inr e.symm
            · exact .inl ⟨j, by omega, e⟩))
          have HMORE := Lib.hid (fun (hy : l.getD k 0 ∉ O) => (HW.out.more HK.out HZ.out.2 hst hy).congr (d' := fun u => ∃ j, j < k + 1 ∧ l.getD j 0 = u) (fun u ⟨j, hj, e⟩ => by
            by_cases hjk : j = k
            · subst hjk; exact .inr e.symm
            · exact .inl ⟨j, by omega, e⟩))
          obtain ⟨y, hy⟩ : ∃ y, y = l.getD k 0 := ⟨_, rfl⟩
          have HDV := Lib.hid (fun (W : World) (h : Sep w W [obRow .i64 3 (.slice oa O.length oc) O, obRow .i64 3 (.slice (some ⟨gv, 0, none⟩) l.length vc) l]) => (show W.cell? ⟨gv, k, none⟩ = some (.int .i64 y) by rw [hy]; exact Owned.at_ (h.second : Owned .i64 3 W (.slice (some ⟨gv, 0, none⟩) l.length vc) l) hkl))
          rw [← hy] at HHAD HMORE
          obtain ⟨M2, hM2⟩ : ∃ M2 : Nat, M2 = gk := ⟨_, rfl⟩
          rw [← hM2] at hkx
          clear hst hy HW
          go_wp2_with fail
          go_loopg [9, 10] O.length (fun kx hv jv wr => ∃ (j : Nat) (b : Bool), hv = .bool b ∧ jv = .int .i64 (j : Int) ∧ j ≤ O.length ∧ O.length - j ≤ kx ∧ Hid (Sep w wr [obRow .i64 3 (.slice oa O.length oc) O, obRow .i64 3 (.slice (some ⟨gv, 0, none⟩) l.length vc) l]) ∧ Hid (b = true ↔ ∃ m, m < j ∧ O.getD m 0 = y))
          case atStart => exact ⟨0, false, rfl, rfl, Nat.zero_le _, by omega, HS, Lib.hid ⟨fun h => by simp at h, fun ⟨m, hm, _⟩ => by omega⟩⟩
          case round =>
            obtain ⟨j, b, rfl, rfl, hj, hjx, HS, HB⟩ := hrel
            have q4 : (0 : Int) ≤ (j : Int) := by omega
            by_cases hjl : j < O.length
            · have q5 : (j : Int) < (O.length : Int) := by omega
              obtain ⟨go2, rfl⟩ := own_some (HS.out.head : Owned .i64 3 wr _ O) j hjl
              have d2 := (HS.out.head : Owned .i64 3 wr (.slice (some ⟨go2, 0, none⟩) O.length oc) O).at_ hjl
              have d3 := HDV.out wr HS.out
              have HSD := Lib.hid (fun n => HS.out.still ((Mod.refl (fun _ => False) wr).drewN n))
              have HB2 := Lib.hid (show ((b || (O.getD j 0 == y)) = true ↔ ∃ m, m < j + 1 ∧ O.getD m 0 = y) by
                rw [Bool.or_eq_true, HB.out, beq_iff_eq]
                constructor
                · rintro (⟨m, hm, e⟩ | e)
                  · exact ⟨m, by omega, e⟩
                  · exact ⟨j, by omega, e⟩
                · rintro ⟨m, hm, e⟩
                  by_cases h : m = j
                  · subst h; exact .inr e
                  · exact .inl ⟨m, by omega, e⟩)
              generalize O.getD j 0 = p at *
              clear HB HS
              rcases Bool.eq_false_or_eq_true b with rfl | rfl
              · go_wp2_with fail
                go_quiet (fail)
                have HS2 := Lib.hid (HSD.out nq)
                generalize wr.drewN nq = wq at *
                clear HSD d2 d3
                go_wp2_with fail
                go_roundg (O.length - (j + 1))
                case rel => exact ⟨j + 1, true, rfl, by go_num, by omega, by omega, HS2, HB2⟩
                case measure => omega
              · by_cases hpy : p = y
                · have e1 : (p == y) = true := by simp [hpy]
                  rw [e1] at HB2
                  clear hpy
                  go_wp2_with fail
                  go_quiet (fail)
                  have HS2 := Lib.hid (HSD.out nq)
                  generalize wr.drewN nq = wq at *
                  clear HSD d2 d3
                  go_wp2_with fail
                  go_roundg (O.length - (j + 1))
                  case rel => exact ⟨j + 1, true, rfl, by go_num, by omega, by omega, HS2, HB2⟩
                  case measure => omega
                · have e1 : (p == y) = false := by simpa using hpy
                  rw [e1] at HB2
                  clear hpy
                  go_wp2_with fail
                  go_quiet (fail)
                  have HS2 := Lib.hid (HSD.out nq)
                  generalize wr.drewN nq = wq at *
                  clear HSD d2 d3
                  go_wp2_with fail
                  go_roundg (O.length - (j + 1))
                  case rel => exact ⟨j + 1, false, rfl, by go_num, by omega, by omega, HS2, HB2⟩
                  case measure => omega
            · obtain rfl : j = O.length := by omega
              have hmem : b = true ↔ y ∈ O := by
                rw [HB.out]
                exact ⟨fun ⟨m, hm, e⟩ => e ▸ get_mem hm, fun h => mem_get h⟩
              have d3 := HDV.out wr HS.out
              clear HB hjx hjl hj
              rcases Bool.eq_false_or_eq_true b with rfl | rfl
              · have HW2 := Lib.hid (HHAD.out (hmem.1 rfl))
                clear hmem HHAD HMORE
                go_wp2_with fail
                go_roundg (l.length - (k + 1))
                case rel => exact ⟨k + 1, O, by go_num, by omega, by omega, HS, HW2, HZ⟩
                case measure => omega
              · have HW2 := Lib.hid (HMORE.out (fun h => by have := hmem.2 h; simp at this))
                have HRO := Lib.hid (HS.out.head : Owned .i64 3 wr (.slice oa O.length oc) O)
                have hrl : O.length + 1 ≤ 1099511627776 := by omega
                clear hmem HHAD HMORE
                go_wp2_with (at_builtin; refine walk_append (zero := .int .i64 0) (base := 0) (n := O.length) (m := 1) (xs := O.map (Value.int .i64)) (ys := [.int .i64 y]) rfl (.tmp 51) (.tmp 56) rfl Try.underlying25 info_int rfl Nat.zero_lt_one (Nat.le_of_ble_eq_true rfl) rfl (World.ownsRow.alloc HRO.out _) rfl (SrcAt.one (blk_at (by simp))) (ints_one .i64 [_]) hrl (Nat.zero_le _) ?_)
                intro v' w8 hA
                have H8 := Lib.hid (HS.out.append (ys := [y]) ((Mod.refl _ _).alloc _) hA rfl rfl)
                have HZ2 := Lib.hid (show (O ++ [y]).getD i 0 = z ∧ i < (O ++ [y]).length from ⟨by rw [getD_app HZ.out.2]; exact HZ.out.1, by have := HZ.out.2; simp; omega⟩)
                clear hA HRO HS d3
                go_wp2_with fail
                go_roundg (l.length - (k + 1))
                case rel => exact ⟨k + 1, O ++ [y], by go_num, by omega, by omega, H8, HW2, HZ2⟩
                case measure => omega
        · obtain rfl : k = l.length := by omega
          have HW2 := Lib.hid (HW.out.next (fun y hy => by
            rw [HZ.out.1] at hy
            obtain ⟨j, hj, e⟩ := mem_get ((HL.out.2 y).2 hy)
            exact ⟨j, hj, e⟩))
          have HS2 := Lib.hid HS.out.swap.tail
          have hi2 := HZ.out.2
          clear HW HS HZ
          go_wp2_with fail
          go_roundg (r.ids.length + 2 - (i + 1))
          case rel => exact ⟨i + 1, O, by go_num, by omega, by omega, HS2, HW2⟩
          case measure => omega
    · obtain rfl : i = O.length := by omega
      have hp := HW.out.pos
      obtain ⟨g, rfl⟩ := own_some (HS.out.head : Owned .i64 3 wr _ O) 0 hp
      have hoc := (o3 _ rfl).2
      unfold maxLen at hoc
      have hall := HW.out.all
      have hnd := HW.out.nd
      have hf := HW.out.first
      have HB := Lib.hid HS.out.bel
      have hO := (HS.out.head : Owned .i64 3 wr (.slice (some ⟨g, 0, none⟩) O.length oc) O)
      obtain ⟨T, rfl⟩ : ∃ T, O = a :: T := by
        cases O with
        | nil => simp at hp
        | cons x T => exact ⟨T, by simp at hf; rw [hf]⟩
      have hT := List.nodup_cons.1 hnd
      have HM := Lib.hid (show ∀ y, y ∈ T ↔ r.Way a y ∧ y ≠ a from fun y => by
        have := hall y
        rw [List.mem_cons] at this
        constructor
        · intro hy
          have hne : y ≠ a := fun e => hT.1 (e ▸ hy)
          exact ⟨(this.1 (.inr hy)).resolve_left hne, hne⟩
        · rintro ⟨h1, h2⟩
          exact (this.2 (.inr h1)).resolve_left h2)
      have hTl : T.length ≤ r.ids.length := by simpa using hOl
      have HO := Lib.hid hO
      have hlen : ((a :: T).length : Int) = (T.length : Int) + 1 := by simp
      have o1' : T.length + 1 ≤ oc := by simpa using o1
      by_cases hq : oc = 1
      · subst hq
        have hT0 : T = [] := List.length_eq_zero_iff.1 (by omega)
        subst hT0
        clear HS HW hall hnd hf hO hT hlt hix hi q0 o2 o3 o1 hlen o1'
        go_wp2_with fail
        go_ret
        exact ⟨_, [], rfl, .inl ⟨rfl, _, _, rfl, fun h => by cases h⟩, HM.out, by simp, HB.out⟩
      · have q6 : (1 : Int) ≤ (T.length : Int) + 1 := by omega
        have q7 : (T.length : Int) + 1 ≤ (oc : Int) := by omega
        have HRT := Lib.hid (show RowAt .i64 wr (.slice (some ⟨g, 1, none⟩) T.length (oc - 1)) T from .inr ⟨g, 1, oc - 1, rfl, by omega, by unfold maxLen; omega, by
          have := hO.lt g rfl
          exact this, fun j hj => by
          have := hO.at_ (i := j + 1) (by simp; omega)
          rw [show 1 + j = j + 1 by omega, this]
          simp⟩)
        clear HS HW hall hnd hf hO hT hlt hix hi q0 o2 o3 o1 hlen
        simp only [List.length_cons]
        go_wp2_with fail
        go_ret
        exact ⟨_, T, rfl, HRT.out, HM.out, hTl, HB.out⟩
end
end Go.Proofs.Ytbihfjehlbaahaa
