/- For and Waits: for whom one waits. -/
import Derived.Test.YtbihfjehlbaahaaJ1
import Derived.Deep.LoopGhost
namespace Go.Proofs.Ytbihfjehlbaahaa
open Go.RowKit

theorem take_filter {L : List Int} {i : Nat} (hi : i < L.length) (p : Int → Bool) : (L.take (i + 1)).filter p = (L.take i).filter p ++ (if p (L.getD i 0) then [L.getD i 0] else []) := by
  have hg : L.getD i 0 = L[i] := by simp [List.getD_eq_getElem?_getD, hi]
  rw [hg, List.take_succ_eq_append_getElem hi, List.filter_append]
  by_cases h : p L[i] = true
  · simp [h]
  · simp [h]
theorem get_mem {L : List Int} {i : Nat} (hi : i < L.length) : L.getD i 0 ∈ L := by
  have hg : L.getD i 0 = L[i] := by simp [List.getD_eq_getElem?_getD, hi]
  rw [hg]
  exact List.getElem_mem hi
theorem Owned.clip {k : IntKind} {E : TypeId} {w : World} {a : Option Addr} {n cap : Nat} {l : List Int} (h : Owned k E w (.slice a n cap) l) (hn : n = l.length) : RowAt k w (.slice a n n) l := by
  subst hn
  rcases h.2 with ⟨hv, h0⟩ | ⟨g, cap', cur, hv, hg, hh, h1, h2, h3, h4⟩
  · have hl0 : l = [] := List.length_eq_zero_iff.1 h0
    subst hl0
    exact .inl ⟨rfl, a, 0, rfl, fun _ => rfl⟩
  · simp only [Value.slice.injEq] at hv
    obtain ⟨rfl, _, rfl⟩ := hv
    refine .inr ⟨g, 0, l.length, rfl, Nat.le_refl _, by omega, (Array.getElem?_eq_some_iff.1 hh).1, fun i hi => ?_⟩
    rw [Nat.zero_add]
    exact h.at_ hi
theorem RowAt.mod {k : IntKind} {w w1 : World} {v : Value} {l : List Int} {F : Nat → Prop} (h : RowAt k w v l) (hm : Mod F w w1) (hF : ∀ g, v.ownBlock = some g → ¬ F g) : RowAt k w1 v l := by
  rcases h with h | ⟨b, off, cap, rfl, hlc, hml, hl, hc⟩
  · exact .inl h
  · have hb : w1.heap[b]? = w.heap[b]? := hm.block b hl (hF b rfl)
    exact .inr ⟨b, off, cap, rfl, hlc, hml, Nat.lt_of_lt_of_le hl hm.size, fun i hi => (World.cell?_of_block (w := w) (a := ⟨b, off + i, none⟩) hb).trans (hc i hi)⟩
/-- A row that is only read from here on. -/
def obRead (v : Value) (l : List Int) : Ob := ⟨fun g => v.ownBlock = some g ∧ l ≠ [], fun w => RowAt .i64 w v l, fun w h g hg => by
  rcases h with ⟨h, _⟩ | ⟨b, off, cap, rfl, _, _, hl, _⟩
  · exact absurd h hg.2
  · have : b = g := by simpa [Value.ownBlock] using hg.1
    omega, fun w w' G h hm ha => by
  rcases h with h | ⟨b, off, cap, rfl, hlc, hml, hl, hc⟩
  · exact .inl h
  · by_cases hl0 : l = []
    · subst hl0; exact .inr ⟨b, off, cap, rfl, hlc, hml, Nat.lt_of_lt_of_le hl hm.size, fun i hi => by simp at hi⟩
    · have hb : w'.heap[b]? = w.heap[b]? := hm.block b hl (ha b ⟨rfl, hl0⟩)
      exact .inr ⟨b, off, cap, rfl, hlc, hml, Nat.lt_of_lt_of_le hl hm.size, fun i hi => (World.cell?_of_block (w := w) (a := ⟨b, off + i, none⟩) hb).trans (hc i hi)⟩⟩

/-- For whom one waits, in rising order. -/
def Bs.waits (s : Bs) (id : Int) : List Int := (s.on id).filter fun x => decide (s.st x ≠ 3)
def Bs.forOf (s : Bs) (id : Int) : List Int := if id ∈ s.ids then sortI (s.waits id) else []
def GaveRow (w : World) (l : List Int) (e : Ending) (w' : World) : Prop := ∃ v, e = .returned v ∧ RowAt .i64 w' v l ∧ (∀ g, v.ownBlock = some g → w.heap.size ≤ g) ∧ Below w.heap.size w w'

set_option maxRecDepth 100000 in
set_option maxHeartbeats 1600000 in
theorem bfor_any {w : World} {b : Nat} {F : Nat → Prop} {s : Bs} (h : BondsAt w b F s) {id : Int} (hw : (Lit.int .i64 id).wf = true) :
    Calls Try.prog 31 #[.pointer (some ⟨b, 0, none⟩), .int .i64 id] w fun e w' => GaveRow w (s.forOf id) e w' := by
  obtain ⟨mb, blk, row, role, D, hF, h⟩ := h
  have c0 := h.top0
  unfold Bs.forOf
  by_cases hi : id ∈ s.ids
  · have hl := h.look_in hi
    have c1 := h.node1 hi
    have hrow := h.rows id hi
    have hfew := h.good.few
    have hshort := h.good.short id hi
    have honin := h.good.on id hi
    have HB := Lib.hid (fun (W : World) (hb : Below w.heap.size w W) => h.below hb)
    have HON := Lib.hid honin
    obtain ⟨ra, rc, hrv, hr1, hr2, hr3⟩ := hrow.form
    have HRW := Lib.hid hrow
    rw [if_pos hi]
    unfold Bs.waits
    rw [hrv] at c1 HRW
    have HR2 := Lib.hid hr2
    have HR3 := Lib.hid hr3
    generalize hL : s.on id = L at *
    clear h hF hi hrow honin hr2 hr3 hrv hL
    have H1 := Lib.hid ((Sep.nil w).row_nil .i64 3)
    go_enter Try.func31, Try.ntmps31
    go_wp2_with fail
    go_loopw [6, 22] (fun ov iv wr => ∃ (i : Nat), i ≤ L.length ∧ iv = .int .i64 i ∧ Sep w wr [obRow .i64 3 ov ((L.take i).filter fun x => decide (s.st x ≠ 3))]) (fun _ iv _ => L.length - (intOf iv).toNat)
    case atStart => exact ⟨0, Nat.zero_le _, rfl, by simpa using H1.out⟩
    case round =>
      obtain ⟨i, hil, rfl, hW⟩ := hrel
      have HW := Lib.hid hW
      clear hW H1
      by_cases hlt : i < L.length
      · cases ra with
        | none => have := (HR2.out rfl).1; omega
        | some ga =>
          obtain ⟨hga, -⟩ := HR3.out ga rfl
          obtain ⟨gb, go_, gs⟩ := ga
          simp only [Addr.mk.injEq, true_and] at hga
          obtain ⟨rfl, rfl⟩ := hga
          have hcx := (Owned.mod HRW.out (Mod.of_below (F := fun _ => False) HW.out.bel) (fun _ _ h => h)).at_ hlt
          have hB := HB.out wr HW.out.bel
          have hx := HON.out _ (get_mem hlt)
          have c0' := hB.top0
          have hlx := hB.look_in hx
          have cx := hB.node0 hx
          have tf := take_filter hlt (fun x => decide (s.st x ≠ 3))
          have p0 : (0 : Int) ≤ (i : Int) := by omega
          have p1 : (i : Int) < (L.length : Int) := by omega
          clear hB hx c0 hl c1
          generalize L.getD i 0 = x at *
          have hlen : ((L.take i).filter fun x => decide (s.st x ≠ 3)).length ≤ i := Nat.le_trans (List.length_filter_le _ _) (List.length_take_le _ _)
          by_cases h3 : s.st x = 3
          · rw [if_neg (by simp [h3]), List.append_nil] at tf
            have HTF := Lib.hid tf
            rw [h3] at cx
            clear tf h3
            generalize ((L.take i).filter fun x => decide (s.st x ≠ 3)) = Lf at *
            go_wp2_with fail
            go_roundw
            case rel => exact ⟨i + 1, by omega, by go_num, by rw [HTF.out]; exact HW.out⟩
            case measure => simp [intOf]; omega
          · rw [if_pos (by simp [h3])] at tf
            have HTF := Lib.hid tf
            have hb3 : (s.st x == 3) = false := by simpa using h3
            clear tf h3
            generalize ((L.take i).filter fun x => decide (s.st x ≠ 3)) = Lf at *
            have HR := Lib.hid (HW.out.head : Owned .i64 3 wr u6 Lf)
            have hrl : Lf.length + 1 ≤ 1099511627776 := by omega
            go_wp2_with (at_builtin; refine walk_append (zero := .int .i64 0) (base := 0) (n := Lf.length) (m := 1) (xs := Lf.map (Value.int .i64)) (ys := [.int .i64 x]) rfl (.tmp 36) (.tmp 38) rfl Try.underlying25 info_int rfl Nat.zero_lt_one (Nat.le_of_ble_eq_true rfl) rfl (World.ownsRow.alloc HR.out _) rfl (SrcAt.one (blk_at (by simp))) (ints_one .i64 [_]) hrl (Nat.zero_le _) ?_)
            intro v' w5 hA
            have hS5 := HW.out.append (ys := [x]) ((Mod.refl _ _).alloc _) hA rfl rfl
            rw [← HTF.out] at hS5
            have HS5 := Lib.hid hS5
            clear hA hS5 HR
            go_wp2_with fail
            go_roundw
            case rel => exact ⟨i + 1, by omega, by go_num, HS5.out⟩
            case measure => simp [intOf]; omega
      · obtain rfl : i = L.length := by omega
        rw [List.take_length] at HW
        have hlen : (L.filter fun x => decide (s.st x ≠ 3)).length ≤ L.length := List.length_filter_le _ _
        generalize hLf : (L.filter fun x => decide (s.st x ≠ 3)) = Lf at HW hlen
        have HLF := Lib.hid hLf
        clear hLf
        obtain ⟨oa, oc, hov, ho1, ho2, ho3⟩ := Owned.form (HW.out.head : Owned .i64 3 wr u6 Lf)
        subst hov
        have HSO := Lib.hid (sort_own (HW.out.head : Owned .i64 3 wr _ Lf) (by omega))
        have HO2 := Lib.hid ho2
        have HO3 := Lib.hid ho3
        clear ho2 ho3
        go_wp2_with fail
        refine HSO.out.mono ?_
        rintro e w2 ⟨rfl, hO2, hg2⟩
        have HQ := Lib.hid hO2
        have HS2 := Lib.hid (HW.out.step (A' := obRow .i64 3 (.slice oa Lf.length oc) (sortI Lf)) hO2 (Mod.of_grown hg2 (fun k hk => .inl hk)) (Grows.refl _ _))
        clear hO2 hg2 HSO
        go_wp2_with fail
        refine (clip_int oa Lf.length oc w2 ho1 HO2.out HO3.out).mono ?_
        rintro e w3 ⟨rfl, rfl⟩
        go_wp2_with fail
        go_ret
        refine ⟨.slice oa Lf.length Lf.length, rfl, ?_, fun g hg => ?_, HS2.out.bel⟩
        · rw [HLF.out]
          exact Owned.clip HQ.out (sortI_len Lf).symm
        · cases oa with
          | none => simp [Value.ownBlock] at hg
          | some ag => exact (HS2.out.each (obRow .i64 3 (.slice (some ag) Lf.length oc) (sortI Lf)) (by simp)).2 g hg
  · have hl := h.look_out hi hw
    rw [if_neg hi]
    clear h hF hi
    go_enter Try.func31, Try.ntmps31
    go_wp2
    go_ret
    exact ⟨_, rfl, RowAt.nil _ _, fun g hg => by simp [Value.ownBlock] at hg, Below.refl _ _⟩

set_option maxHeartbeats 400000 in
theorem bwaits_any {w : World} {b : Nat} {F : Nat → Prop} {s : Bs} (h : BondsAt w b F s) {id : Int} (hw : (Lit.int .i64 id).wf = true) :
    Calls Try.prog 19 #[.pointer (some ⟨b, 0, none⟩), .int .i64 id] w fun e w' => e = .returned (.int .i64 (s.forOf id).length) ∧ Below w.heap.size w w' := by
  have HF := Lib.hid (bfor_any h hw)
  clear h
  go_enter Try.func19, Try.ntmps19
  go_wp2_with fail
  refine HF.out.mono ?_
  rintro e w1 ⟨v, rfl, hr, _, hb⟩
  have hl : ∃ a cap, v = .slice a (s.forOf id).length cap ∧ (s.forOf id).length ≤ maxLen := by
    rcases hr with ⟨h0, a, cap, rfl, _⟩ | ⟨b, off, cap, rfl, _, hm, _⟩
    · rw [h0]; exact ⟨a, cap, rfl, by simp⟩
    · exact ⟨_, _, rfl, hm⟩
  obtain ⟨a, cap, rfl, hm⟩ := hl
  unfold maxLen at hm
  clear hr
  go_wp2_with fail
  go_ret
  exact ⟨rfl, hb⟩
end Go.Proofs.Ytbihfjehlbaahaa
