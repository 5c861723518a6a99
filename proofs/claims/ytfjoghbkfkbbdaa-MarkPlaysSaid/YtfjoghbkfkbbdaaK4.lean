/- Marks in memory; place: where a begin stands, or would stand. -/
import Derived.Test.YtfjoghbkfkbbdaaK3
import Derived.Deep.LoopGhost
namespace Go.Proofs.Ytfjoghbkfkbbdaa
open Go.RowKit

/-- An entry: its block, its begin, how many live with it. -/
structure Ent where
  blk : Nat
  at_ : Int
  n : Int
def ent0 : Ent := ⟨0, 0, 0⟩
def Ent.ptr (e : Ent) : Value := .pointer (some ⟨e.blk, 0, none⟩)
def Ent.obj (e : Ent) : Obj := .cells #[.int .u64 e.at_, .int .i64 e.n] 128 (0, 0)
def EntsAt (w : World) (es : List Ent) : Prop := ∀ e ∈ es, w.heap[e.blk]? = some e.obj
theorem EntsAt.at_ {w : World} {es : List Ent} (h : EntsAt w es) {i : Nat} (hi : i < es.length) : w.heap[(es.getD i ent0).blk]? = some (es.getD i ent0).obj := h _ (by simp [List.getD_eq_getElem?_getD, hi])
theorem ptrs_get {es : List Ent} {i : Nat} (hi : i < es.length) : (es.map Ent.ptr)[i]? = some (es.getD i ent0).ptr := by simp [List.getD_eq_getElem?_getD, hi]
theorem PtrRow.cell {w : World} {g n cap : Nat} {es : List Ent} (h : PtrRow w (.slice (some ⟨g, 0, none⟩) n cap) (es.map Ent.ptr)) {i : Nat} (hi : i < es.length) : w.cell? ⟨g, i, none⟩ = some (es.getD i ent0).ptr := by
  rcases h.form with ⟨hv, _⟩ | ⟨g', cap', cur, hv, hb, _, _, _, hj⟩
  · cases hv
  · simp only [Value.slice.injEq, Option.some.injEq, Addr.mk.injEq] at hv
    obtain ⟨⟨rfl, _⟩, _, _⟩ := hv
    rw [blk_cell hb, hj i (by simpa using hi), ptrs_get hi]
theorem PtrRow.val {w : World} {v : Value} {ps : List Value} (h : PtrRow w v ps) : ∃ a cap, v = .slice a ps.length cap ∧ ps.length ≤ cap ∧ cap ≤ 9223372036854775807 ∧ (0 < ps.length → ∃ g, a = some ⟨g, 0, none⟩) := by
  rcases h.form with ⟨rfl, rfl⟩ | ⟨g, cap, cur, rfl, _, h2, h3, _⟩
  · exact ⟨none, 0, rfl, Nat.le_refl _, by omega, fun h => by simp at h⟩
  · exact ⟨_, cap, rfl, h2, by unfold maxLen at h3; omega, fun _ => ⟨g, rfl⟩⟩
/-- Rising begins. -/
def Rising (es : List Ent) : Prop := ∀ i j, i < j → j < es.length → (es.getD i ent0).at_ < (es.getD j ent0).at_
/-- i is where a begin stands, or would stand. -/
structure Place (es : List Ent) (t : Int) (i : Nat) : Prop where
  le : i ≤ es.length
  below : ∀ j, j < i → (es.getD j ent0).at_ < t
  above : ∀ j, i ≤ j → j < es.length → t ≤ (es.getD j ent0).at_
def found (es : List Ent) (t : Int) (i : Nat) : Bool := decide (i < es.length ∧ (es.getD i ent0).at_ = t)
def cmpI (a t : Int) : Int := if a < t then -1 else if t < a then 1 else 0

set_option maxHeartbeats 800000 in
theorem cmp_any (e : Ent) (t : Int) (w : World) (h : w.heap[e.blk]? = some e.obj) :
    Calls Try.prog 90 #[e.ptr, .int .u64 t] w fun r w' => r = .returned (.int .i64 (cmpI e.at_ t)) ∧ w = w' := by
  have c0 := (blk_cell h 0).trans rfl
  obtain ⟨b, a, n⟩ := e
  simp only [Ent.ptr] at *
  clear h
  have hc : (a < t ∧ cmpI a t = -1) ∨ (t < a ∧ cmpI a t = 1) ∨ (a = t ∧ cmpI a t = 0) := by
    unfold cmpI
    rcases Int.lt_trichotomy a t with h | h | h
    · exact .inl ⟨h, by rw [if_pos h]⟩
    · exact .inr (.inr ⟨h, by rw [if_neg (by omega), if_neg (by omega)]⟩)
    · exact .inr (.inl ⟨h, by rw [if_neg (by omega), if_pos h]⟩)
  rcases hc with ⟨h, e⟩ | ⟨h, e⟩ | ⟨rfl, e⟩
  all_goals
    rw [e]
    clear e
    go_enter Try.func90, Try.ntmps90
    go_wp2_with fail
    go_ret
    exact ⟨rfl, rfl⟩

theorem cmp_neg {a t : Int} : (cmpI a t < 0) ↔ a < t := by
  unfold cmpI
  split
  · simp [*]
  · split <;> simp <;> omega
theorem cmp_zero {a t : Int} : (cmpI a t = 0) ↔ a = t := by
  unfold cmpI
  split
  · simp; omega
  · split <;> simp <;> omega

set_option maxRecDepth 100000 in
set_option maxHeartbeats 1600000 in
theorem search_any (v : Value) (es : List Ent) (t : Int) (w : World) (hr : PtrRow w v (es.map Ent.ptr)) (he : EntsAt w es) (hs : Rising es) (hl : es.length ≤ 100000) :
    Calls Try.prog 89 #[v, .int .u64 t, .func (.func 90) #[] #[]] w fun r w' => ∃ i, Place es t i ∧ r = .returned (.tuple #[.int .i64 i, .bool (found es t i)]) ∧ w = w' := by
  obtain ⟨a, cap, rfl, h1, h2, h3⟩ := hr.val
  rw [List.length_map] at *
  have HR := Lib.hid hr
  have HE := Lib.hid he
  have HS := Lib.hid hs
  have HA := Lib.hid h3
  have hcf : ∀ args w, (callFunc 90 args).run Try.prog w = .ok (.enter 90 args) w := fun _ _ => by kernel_rfl
  clear hr he hs h3
  go_enter Try.func89, Try.ntmps89
  go_wp2_with fail
  go_loopg [9, 10] es.length (fun kx s9 s10 wr => ∃ lo hi : Nat, s9 = .int .i64 lo ∧ s10 = .int .i64 hi ∧ lo ≤ hi ∧ hi ≤ es.length ∧ hi - lo ≤ kx ∧ wr = w ∧ Hid ((∀ j, j < lo → (es.getD j ent0).at_ < t) ∧ (∀ j, hi ≤ j → j < es.length → t ≤ (es.getD j ent0).at_)))
  case atStart => exact ⟨0, es.length, rfl, rfl, Nat.zero_le _, Nat.le_refl _, by omega, rfl, Lib.hid ⟨fun j hj => by omega, fun j h1 h2 => by omega⟩⟩
  case round =>
    obtain ⟨lo, hi, rfl, rfl, hlh, hhn, hkx, rfl, HI⟩ := hrel
    by_cases hlt : lo < hi
    · obtain ⟨g, rfl⟩ := HA.out (by omega)
      obtain ⟨m, hm, hm1, hm2⟩ : ∃ m : Nat, m = (lo + hi) / 2 ∧ lo ≤ m ∧ m < hi := ⟨_, rfl, by omega, by omega⟩
      have hmn : m < es.length := by omega
      have hc := HR.out.cell hmn
      have HC := Lib.hid (cmp_any (es.getD m ent0) t wr (HE.out.at_ hmn))
      have x1 : IntKind.i64.wrap ((lo : Int) + hi) = (lo : Int) + hi := IntWalk.i64_in _ (by omega)
      have x2 : IntKind.u64.wrap ((lo : Int) + hi) = (lo : Int) + hi := by rw [IntKind.wrap_u64]; omega
      have x3 : ((lo : Int) + hi) / 2 = m := by omega
      have x4 : IntKind.i64.wrap (m : Int) = m := IntWalk.i64_in _ (by omega)
      have x5 : IntKind.i64.wrap ((m : Int) + 1) = (m : Int) + 1 := IntWalk.i64_in _ (by omega)
      have p0 : (0 : Int) ≤ m := by omega
      have p1 : (m : Int) < es.length := by omega
      have hup : ∀ j, j < m → (es.getD j ent0).at_ < (es.getD m ent0).at_ := fun j hj => HS.out j m hj hmn
      have hdn : ∀ j, m ≤ j → j < es.length → (es.getD m ent0).at_ ≤ (es.getD j ent0).at_ := fun j h1 h2 => by
        rcases Nat.eq_or_lt_of_le h1 with rfl | h3
        · exact Int.le_refl _
        · exact Int.le_of_lt (HS.out m j h3 h2)
      have HUP := Lib.hid hup
      have HDN := Lib.hid hdn
      clear hup hdn
      by_cases hneg : (es.getD m ent0).at_ < t
      · have hcn : cmpI (es.getD m ent0).at_ t < 0 := cmp_neg.2 hneg
        have HN := Lib.hid (show ∀ j, j < m + 1 → (es.getD j ent0).at_ < t from fun j hj => by
          by_cases e : j = m
          · rw [e]; exact hneg
          · have := HUP.out j (by omega)
            omega)
        clear hneg HUP HDN
        obtain ⟨c, hcc⟩ : ∃ c, cmpI (es.getD m ent0).at_ t = c := ⟨_, rfl⟩
        rw [hcc] at HC hcn
        clear hcc hm
        generalize (es.getD m ent0).ptr = P at *
        go_wp2_with fail
        refine HC.out.mono ?_
        rintro e w2 ⟨rfl, rfl⟩
        go_wp2_with fail
        go_roundg (hi - (m + 1))
        case rel => exact ⟨m + 1, hi, by go_num, rfl, by omega, hhn, by omega, by trivial, Lib.hid ⟨HN.out, HI.out.2⟩⟩
        case measure => omega
      · have hcn : ¬ cmpI (es.getD m ent0).at_ t < 0 := fun h => hneg (cmp_neg.1 h)
        have HN := Lib.hid (show ∀ j, m ≤ j → j < es.length → t ≤ (es.getD j ent0).at_ from fun j h1 h2 => by
          have := HDN.out j h1 h2
          omega)
        clear hneg HUP HDN
        obtain ⟨c, hcc⟩ : ∃ c, cmpI (es.getD m ent0).at_ t = c := ⟨_, rfl⟩
        rw [hcc] at HC hcn
        clear hcc hm
        generalize (es.getD m ent0).ptr = P at *
        go_wp2_with fail
        refine HC.out.mono ?_
        rintro e w2 ⟨rfl, rfl⟩
        go_wp2_with fail
        go_roundg (m - lo)
        case rel => exact ⟨lo, m, rfl, rfl, by omega, by omega, by omega, by trivial, Lib.hid ⟨HI.out.1, HN.out⟩⟩
        case measure => omega
    · obtain rfl : lo = hi := by omega
      have HP := Lib.hid (⟨hhn, HI.out.1, HI.out.2⟩ : Place es t lo)
      by_cases hin : lo < es.length
      · obtain ⟨g, rfl⟩ := HA.out (by omega)
        have hc := HR.out.cell hin
        have HC := Lib.hid (cmp_any (es.getD lo ent0) t wr (HE.out.at_ hin))
        have p1 : (lo : Int) < es.length := by omega
        have HF := Lib.hid (show found es t lo = (cmpI (es.getD lo ent0).at_ t == 0) from by
          unfold found
          by_cases e : (es.getD lo ent0).at_ = t
          · rw [decide_eq_true ⟨hin, e⟩, cmp_zero.2 e]; rfl
          · rw [decide_eq_false (fun h => e h.2)]
            exact (beq_eq_false_iff_ne.2 (fun h => e (cmp_zero.1 h))).symm)
        obtain ⟨c, hcc⟩ : ∃ c, cmpI (es.getD lo ent0).at_ t = c := ⟨_, rfl⟩
        rw [hcc] at HC HF
        clear hcc
        generalize (es.getD lo ent0).ptr = P at *
        go_wp2_with fail
        refine HC.out.mono ?_
        rintro e w2 ⟨rfl, rfl⟩
        go_wp2_with fail
        go_ret2
        exact ⟨lo, HP.out, by rw [HF.out]; rfl, rfl⟩
      · have HF := Lib.hid (show found es t lo = false from decide_eq_false (fun h => hin h.1))
        go_wp2_with fail
        go_ret2
        exact ⟨lo, HP.out, by rw [HF.out]; rfl, rfl⟩

def marksObj (v : Value) : Obj := .cells #[v] 122 (0, 0)
set_option maxRecDepth 100000 in
set_option maxHeartbeats 800000 in
theorem place_any (b : Nat) (v : Value) (es : List Ent) (t : Int) (w : World) (hb : w.heap[b]? = some (marksObj v)) (hr : PtrRow w v (es.map Ent.ptr)) (he : EntsAt w es) (hs : Rising es) (hl : es.length ≤ 100000) :
    Calls Try.prog 75 #[.pointer (some ⟨b, 0, none⟩), .int .u64 t] w fun r w' => ∃ i, Place es t i ∧ r = .returned (.tuple #[.int .i64 i, .bool (found es t i)]) ∧ w = w' := by
  have HC := Lib.hid (search_any v es t w hr he hs hl)
  have c0 := (blk_cell hb 0).trans rfl
  clear hb hr he hs
  go_enter Try.func75, Try.ntmps75
  go_wp2_with fail
  refine HC.out.mono ?_
  rintro e w2 ⟨i, hp, rfl, rfl⟩
  go_wp2_with fail
  go_ret2
  exact ⟨i, hp, rfl, rfl⟩
end Go.Proofs.Ytfjoghbkfkbbdaa
