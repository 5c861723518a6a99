/- Pairs: those of a state; whether two rows are one. -/
import Derived.Test.YtpohehialkgigaaAI
import Derived.Test.YtpohehialkgigaaAE
namespace Go.Proofs.Ytpohehialkgigaa
open Go.RowKit

theorem SMap.keys_wf {w : World} {b : Nat} {s : St} (h : SMap w b s) : ∀ p ∈ s, (Lit.int .i64 p.1).wf = true := by
  intro p hp
  obtain ⟨es, clock, hb, F, hs, hD⟩ := h.own
  unfold stD at hD
  simp only [DataW.map.injEq] at hD
  have h1 : ((.int .i64 p.1, .lit (.int .i64 p.2)) : Lit × DataW Unit) ∈ s.map fun p => (.int .i64 p.1, .lit (.int .i64 p.2)) := List.mem_map.2 ⟨p, hp, rfl⟩
  rw [hD] at h1
  obtain ⟨v, hv⟩ := Go.Maps.fit_keys F _ (mem_sorted.1 h1)
  obtain ⟨x, _, hx, hw⟩ := Go.Maps.keyOf_i64 Try.underlying3 hv
  simp only [Lit.int.injEq, true_and] at hx
  rw [hx]
  exact hw

def pairCells (l : St) : List Value := l.flatMap fun p => [.int .i64 p.1, .int .i64 p.2]
theorem pairCells_len (l : St) : (pairCells l).length = l.length * 2 := by
  induction l with
  | nil => rfl
  | cons x r ih => simp only [pairCells, List.flatMap_cons, List.length_append, List.length_cons, List.length_nil] at ih ⊢; omega
theorem pairCells_fst (l : St) : ∀ i, i < l.length → (pairCells l)[i * 2]? = some (.int .i64 (l.getD i (0, 0)).1) := by
  induction l with
  | nil => intro i hi; simp at hi
  | cons x r ih =>
    intro i hi
    cases i with
    | zero => rfl
    | succ i =>
      have := ih i (by simpa using hi)
      simp only [pairCells, List.flatMap_cons] at this ⊢
      rw [show (i + 1) * 2 = i * 2 + 2 by omega]
      simpa using this
theorem pairCells_snd (l : St) : ∀ i, i < l.length → (pairCells l)[i * 2 + 1]? = some (.int .i64 (l.getD i (0, 0)).2) := by
  induction l with
  | nil => intro i hi; simp at hi
  | cons x r ih =>
    intro i hi
    cases i with
    | zero => rfl
    | succ i =>
      have := ih i (by simpa using hi)
      simp only [pairCells, List.flatMap_cons] at this ⊢
      rw [show (i + 1) * 2 + 1 = i * 2 + 1 + 2 by omega]
      simpa using this
/-- A row of pairs of the call's own. -/
def NewPairs (B : Nat) (w : World) (v : Value) (l : St) : Prop := w.ownsRow B 42 2 v l.length (pairCells l)
theorem NewPairs.nil (B : Nat) (w : World) : NewPairs B w (.slice none 0 0) [] := World.ownsRow_nil _ _ _ _
theorem info_pair : (Try.prog.info? 42).map (fun i => (i.zero, i.size, i.bytes)) = some (some (.agg #[.int .i64 0, .int .i64 0]), 2, 16) := by kernel_rfl
theorem pair_one (x y : Int) : ∀ v ∈ [Value.int .i64 x, Value.int .i64 y], v.oneCell' = true := by
  intro v hv
  simp at hv
  rcases hv with rfl | rfl <;> rfl
theorem SrcAt.pair {w : World} {g : Nat} {x y : Value} {E : TypeId} (h : w.heap[g]? = some (.cells #[x, y] E (0, 0))) : SrcAt w (.slice (some ⟨g, 0, none⟩) 1 1) 1 2 [x, y] := by
  refine .inr ⟨g, 0, 1, rfl, rfl, fun j z hj => ?_⟩
  match j, hj with
  | 0, hj => simp at hj; subst hj; rw [blk_cell h]; simp
  | 1, hj => simp at hj; subst hj; rw [blk_cell h]; simp
theorem NewPairs.app {B : Nat} {W w' : World} {v v' : Value} {l : St} {x y : Int} {m : Nat} {zs : List Value} (hA : Appended W w' B 42 2 v v' m zs) (hm : m = l.length + 1) (hz : zs = pairCells l ++ [.int .i64 x, .int .i64 y]) : NewPairs B w' v' (l ++ [(x, y)]) := by
  have := hA.own
  unfold NewPairs
  rw [List.length_append, show pairCells (l ++ [(x, y)]) = pairCells l ++ [.int .i64 x, .int .i64 y] by simp [pairCells]]
  subst hm hz
  exact this
theorem NewPairs.below {B : Nat} {W w' : World} {v v' : Value} {l : St} {m : Nat} {zs : List Value} {w1 : World} (h : NewPairs B W v l) (hA : Appended W w' B 42 2 v v' m zs) (hb : Below B w1 W) (hBW : B ≤ W.heap.size) : Below B w1 w' :=
  hb.trans ((hA.mod (F := fun i => B ≤ i) (fun k hk => (World.ownsRow.lt h k hk).1)).below (fun _ hk => hk) hBW)
theorem NewPairs.later {B : Nat} {w w1 : World} {v : Value} {l : St} (h : NewPairs B w v l) (hb : Below w.heap.size w w1) : NewPairs B w1 v l := ownsRow_mod h (Mod.of_below (F := fun _ => False) hb) (fun _ _ h => h)
theorem NewPairs.form {B : Nat} {w : World} {v : Value} {l : St} (h : NewPairs B w v l) : ∃ a cap, v = .slice a l.length cap ∧ l.length ≤ cap ∧ (a = none → l.length = 0 ∧ cap = 0) ∧ (∀ g, a = some g → g = ⟨g.block, 0, none⟩ ∧ cap ≤ maxLen) := by
  rcases h.2 with ⟨hv, hn⟩ | ⟨g, cap, cur, hv, hg, hh, hnc, hcm, r⟩
  · exact ⟨none, 0, by rw [hv, hn], by omega, fun _ => ⟨hn, rfl⟩, fun g h => by cases h⟩
  · exact ⟨_, cap, hv, hnc, fun h => (by cases h), fun g' h => by cases h; exact ⟨rfl, hcm⟩⟩
theorem NewPairs.at_ {B : Nat} {w : World} {a : Option Addr} {n cap : Nat} {l : St} (h : NewPairs B w (.slice a n cap) l) : PairsAt w (.slice a n l.length) l := by
  have h0 := h
  rcases h.2 with ⟨hv, hn⟩ | ⟨g, cap2, cur, hv, hg, hh, hnc, hcm, hcs, htk⟩
  · simp only [Value.slice.injEq] at hv
    obtain ⟨rfl, rfl, rfl⟩ := hv
    have : l = [] := List.length_eq_zero_iff.1 hn
    subst this
    exact .inl ⟨rfl, _, _, rfl, fun _ => rfl⟩
  · simp only [Value.slice.injEq] at hv
    obtain ⟨rfl, rfl, rfl⟩ := hv
    refine .inr ⟨g, 0, l.length, rfl, Nat.le_refl _, (World.ownsRow.lt h0 g rfl).2, fun i hi => ⟨?_, ?_⟩⟩
    · rw [Nat.zero_add, blk_cell hh]
      have h1 : (cur.toList.take (l.length * 2))[i * 2]? = (pairCells l)[i * 2]? := by rw [htk]
      rw [List.getElem?_take_of_lt (by omega), pairCells_fst l i hi] at h1
      simpa using h1
    · rw [Nat.zero_add, blk_cell hh]
      have h1 : (cur.toList.take (l.length * 2))[i * 2 + 1]? = (pairCells l)[i * 2 + 1]? := by rw [htk]
      rw [List.getElem?_take_of_lt (by omega), pairCells_snd l i hi] at h1
      simpa using h1

set_option maxHeartbeats 400000 in
theorem clip_pairs (a : Option Addr) (n cap : Nat) (w : World) (h : n ≤ cap) (hz : a = none → n = 0 ∧ cap = 0) (ho : ∀ g, a = some g → g = ⟨g.block, 0, none⟩ ∧ cap ≤ maxLen) :
    Calls Try.prog 38 #[.slice a n cap] w fun e w' => e = .returned (.slice a n n) ∧ w = w' := by
  cases a with
  | none =>
    obtain ⟨rfl, rfl⟩ := hz rfl
    clear hz ho
    go_enter Try.func38, Try.ntmps38
    go_wp2_with fail
    go_ret
    exact ⟨rfl, rfl⟩
  | some g =>
    obtain ⟨hg, hm⟩ := ho g rfl
    obtain ⟨b, o, s⟩ := g
    simp only [Addr.mk.injEq, true_and] at hg
    obtain ⟨rfl, rfl⟩ := hg
    clear hz ho
    unfold maxLen at hm
    go_enter Try.func38, Try.ntmps38
    go_wp2_with fail
    go_ret
    exact ⟨rfl, rfl⟩
/-- What is read of a new row that is cut to its length. -/
theorem NewPairs.clip {B : Nat} {w : World} {v : Value} {l : St} (h : NewPairs B w v l) : Calls Try.prog 38 #[v] w fun e w' => ∃ u, e = .returned u ∧ PairsAt w' u l ∧ w = w' := by
  obtain ⟨a, cap, rfl, hc, h1, h2⟩ := h.form
  refine (clip_pairs a l.length cap w hc h1 h2).mono ?_
  rintro e w' ⟨rfl, rfl⟩
  exact ⟨_, rfl, h.at_, rfl⟩

theorem pair_eq {x y : Int × Int} (h : x = y) : ((x.1 == y.1) && (x.2 == y.2)) = true := by subst h; simp
set_option maxRecDepth 100000 in
set_option maxHeartbeats 1600000 in
theorem equal_any {w : World} {va vb : Value} {l m : St} (ha : PairsAt w va l) (hb : PairsAt w vb m) (hl : l.length ≤ 1000000) (hm : m.length ≤ 1000000) :
    Calls Try.prog 45 #[va, vb] w fun e w' => e = .returned (.bool (decide (l = m))) ∧ ∃ q, w' = w.drewN q := by
  obtain ⟨a, ca, rfl, hca⟩ := ha.form
  obtain ⟨b, cb, rfl, hcb⟩ := hb.form
  by_cases hlen : l.length = m.length
  · have n0 : ((l.length : Int) != (m.length : Int)) = false := by rw [hlen]; simp
    have n1 : (l.length != m.length) = false := by rw [hlen]; simp
    have HA := Lib.hid ha
    have HB := Lib.hid hb
    have HL := Lib.hid hlen
    clear ha hb hlen
    go_enter Try.func45, Try.ntmps45
    go_wp2_with fail
    go_loopg [13] l.length (fun kx kv wr => ∃ k q : Nat, kv = .int .i64 k ∧ k ≤ l.length ∧ l.length - k ≤ kx ∧ Hid (∀ j, j < k → l.getD j (0, 0) = m.getD j (0, 0)) ∧ wr = w.drewN q)
    case atStart => exact ⟨0, 0, rfl, Nat.zero_le _, by omega, Lib.hid (fun j hj => absurd hj (Nat.not_lt_zero j)), rfl⟩
    case round =>
      obtain ⟨k, q, rfl, hk, hkx, HE, rfl⟩ := hrel
      have q0 : (0 : Int) ≤ (k : Int) := by omega
      by_cases hlt : k < l.length
      · have q1 : (k : Int) < (l.length : Int) := by omega
        have q2 : (k : Int) < (m.length : Int) := by have := HL.out; omega
        rcases HA.out with ⟨rfl, _⟩ | ⟨ga, oa, ca', hv, -, -, hga⟩
        · simp at hlt
        rcases HB.out with ⟨rfl, _⟩ | ⟨gb, ob, cb', hv2, -, -, hgb⟩
        · simp at q2
          omega
        simp only [Value.slice.injEq, true_and] at hv hv2
        obtain ⟨rfl, rfl⟩ := hv
        obtain ⟨rfl, rfl⟩ := hv2
        obtain ⟨x0, x1⟩ := hga k hlt
        obtain ⟨y0, y1⟩ := hgb k (by have := HL.out; omega)
        clear hga hgb
        obtain ⟨x, hx⟩ : ∃ x, l.getD k (0, 0) = x := ⟨_, rfl⟩
        obtain ⟨y, hy⟩ : ∃ y, m.getD k (0, 0) = y := ⟨_, rfl⟩
        rw [hx] at x0 x1
        rw [hy] at y0 y1
        by_cases hxy : x = y
        · have HN := Lib.hid (show l.getD k (0, 0) = m.getD k (0, 0) by rw [hx, hy, hxy])
          subst hxy
          clear hx hy
          obtain ⟨xa, xb⟩ := x
          dsimp only at x0 x1 y0 y1
          go_wp2_with fail
          go_quiet (fail)
          go_wp2_with fail
          go_roundg (l.length - (k + 1))
          case rel => exact ⟨k + 1, _, by go_num, by omega, by omega, Lib.hid (fun j hj => if e : j = k then e ▸ HN.out else HE.out j (by omega)), rfl⟩
          case measure => omega
        · have HN := Lib.hid (show l ≠ m from fun e => hxy (by rw [← hx, ← hy, e]))
          clear hx hy
          obtain ⟨xa, xb⟩ := x
          obtain ⟨ya, yb⟩ := y
          dsimp only at x0 x1 y0 y1
          by_cases h0 : xa = ya
          · have h1 : ¬ xb = yb := fun e => hxy (by rw [h0, e])
            have e0 := bq_t h0
            have e1 := bq_f h1
            clear h0 h1 hxy
            go_wp2_with fail
            go_quiet (fail)
            go_wp2_with fail
            go_ret
            exact ⟨by rw [dec_f HN.out]; rfl, _, World.drewN_drewN _ _ _⟩
          · have e0 := bq_f h0
            clear h0 hxy
            go_wp2_with fail
            go_quiet (fail)
            go_wp2_with fail
            go_ret
            exact ⟨by rw [dec_f HN.out]; rfl, _, World.drewN_drewN _ _ _⟩
      · obtain rfl : k = l.length := by omega
        have hd : decide (l.length < l.length) = false := by simp
        have HN := Lib.hid (show l = m from by
          apply List.ext_getElem HL.out
          intro j h1 h2
          have := HE.out j h1
          simpa [List.getD_eq_getElem?_getD, h1, h2] using this)
        clear hlt
        go_wp2_with fail
        go_ret
        exact ⟨by rw [dec_t HN.out]; rfl, q, rfl⟩
  · have n0 : ((l.length : Int) != (m.length : Int)) = true := by simp; omega
    have n1 : (l.length != m.length) = true := by simpa using hlen
    have HN := Lib.hid (show l ≠ m from fun e => hlen (by rw [e]))
    clear ha hb hlen
    go_enter Try.func45, Try.ntmps45
    go_wp2_with fail
    go_ret
    exact ⟨by rw [dec_f HN.out]; rfl, 0, rfl⟩
theorem wpList_buildPair {ops : Array Oper} {rest : List Oper} {o : Oper} {a : Act} {w : World} {Q : Exit → Act → World → Prop} (hg : o.guard = none) (x : Operand) (ho : o.op = .buildSlice 31 1 #[(0, x)]) (p q : Int) (hx : a.eval x = .agg #[.int .i64 p, .int .i64 q])
    (h : wpList Try.prog ops Q rest (a.put o.dst (.slice (some ⟨w.heap.size, 0, none⟩) 1 1)) (w.alloc (.cells #[.int .i64 p, .int .i64 q] 42 (0, 0)))) : wpList Try.prog ops Q (o :: rest) a w := by
  have hi := info_pair
  cases hie : Try.prog.info? 42 with
  | none => rw [hie] at hi; cases hi
  | some ie =>
    rw [hie] at hi
    simp only [Option.map_some, Option.some.injEq, Prod.mk.injEq] at hi
    obtain ⟨hz, hs, _⟩ := hi
    refine wpList_buildSlice hg 31 42 1 _ ho _ ie _ Try.underlying31 hie hz (by rw [hs]; decide) (by rw [hs]; decide) ?_ h
    rw [hs]
    simp only [List.map_toArray, List.map_cons, List.map_nil, hx]
    kernel_rfl
theorem span_take {s : St} {lo hi : Int} {k : Nat} (hk : k < s.length) : St.span (s.take (k + 1)) lo hi = St.span (s.take k) lo hi ++ (if decide (lo ≤ (s.getD k (0, 0)).1) && decide ((s.getD k (0, 0)).1 ≤ hi) then [s.getD k (0, 0)] else []) := by
  unfold St.span
  rw [List.take_succ_eq_append_getElem hk, List.filter_append]
  congr 1
  simp only [List.filter_cons, List.filter_nil, List.getD_eq_getElem?_getD, hk, List.getElem?_eq_getElem, Option.getD_some]
theorem St.rising.find {s : St} (h : s.rising) {k : Nat} (hk : k < s.length) : s.get (s.getD k (0, 0)).1 = some (s.getD k (0, 0)).2 := by
  unfold St.get
  have hg : s.getD k (0, 0) = s[k] := by simp [List.getD_eq_getElem?_getD, hk]
  rw [hg]
  have : s.find? (fun p => decide (p.1 = s[k].1)) = some s[k] := by
    rw [List.find?_eq_some_iff_append]
    refine ⟨by simp, s.take k, s.drop (k + 1), by rw [List.getElem_cons_drop, List.take_append_drop], fun p hp => ?_⟩
    obtain ⟨j, hj, rfl⟩ := List.getElem_of_mem hp
    have hj' : j < k := by simp at hj; omega
    have := List.pairwise_iff_getElem.1 h j k (by omega) hk hj'
    simp only [List.getElem_take]
    simp
    omega
  rw [this]
  rfl
set_option maxRecDepth 100000 in
set_option maxHeartbeats 1600000 in
theorem pairs_any {w : World} {b : Nat} {s : St} {lo hi : Int} (h : SMap w b s) (hl : s.length ≤ 100000) :
    Calls Try.prog 46 #[.map (some b), .int .i64 lo, .int .i64 hi] w fun e w' => ∃ v, e = .returned v ∧ PairsAt w' v (s.span lo hi) ∧ Below w.heap.size w w' := by
  have HK := Lib.hid (keys_call b w)
  have HSO := Lib.hid (sorted_call h hl)
  have HM := Lib.hid h
  have HW := Lib.hid h.keys_wf
  clear h
  go_enter Try.func46, Try.ntmps46
  go_wp2_with fail
  refine HK.out.mono ?_
  rintro e w1 ⟨rfl, rfl⟩
  clear HK
  go_wp2_with fail
  refine HSO.out.mono ?_
  rintro e w2 ⟨v, rfl, ho, _, hb⟩
  obtain ⟨a, cap, hv, -⟩ := ho.form
  rw [List.length_map] at hv
  subst hv
  have HO := Lib.hid ho
  have HB0 := Lib.hid hb
  clear HSO ho hb
  go_wp2_with fail
  go_loopg [7, 14] s.length (fun kx ov kv wr => ∃ k : Nat, kv = .int .i64 k ∧ k ≤ s.length ∧ s.length - k ≤ kx ∧ Hid (NewPairs w2.heap.size wr ov (St.span (s.take k) lo hi)) ∧ Hid (Below w2.heap.size w2 wr))
  case atStart => exact ⟨0, rfl, Nat.zero_le _, by omega, Lib.hid (NewPairs.nil _ _), Lib.hid (Below.refl _ _)⟩
  case round =>
    obtain ⟨k, rfl, hk, hkx, HP, HB⟩ := hrel
    have q0 : (0 : Int) ≤ (k : Int) := by omega
    by_cases hlt : k < s.length
    · have q1 : (k : Int) < (s.length : Int) := by omega
      obtain ⟨g, rfl⟩ := some_at HO.out (by simp; omega)
      have cr := ((HO.out.mod (F := fun _ => False) (Mod.of_below HB.out) (fun _ _ h => h))).at_ (i := k) (by simpa using hlt)
      have hst := span_take (lo := lo) (hi := hi) hlt
      have hfd := HM.out.rising.find hlt
      have hmm := ((HM.out.later HB0.out).later HB.out)
      have hwk := HW.out (s.getD k (0, 0)) (by rw [List.getD_eq_getElem?_getD]; simp [hlt])
      have hkey : (s.map (·.1)).getD k 0 = (s.getD k (0, 0)).1 := by simp [List.getD_eq_getElem?_getD, hlt]
      rw [hkey] at cr
      clear hkey
      generalize s.getD k (0, 0) = p at *
      obtain ⟨x, y⟩ := p
      dsimp only at cr hst hfd hwk
      have hlen : (St.span (s.take k) lo hi).length + 1 ≤ 1099511627776 := by
        have := List.length_filter_le (fun p : Int × Int => decide (lo ≤ p.1) && decide (p.1 ≤ hi)) (s.take k)
        have h2 : (s.take k).length ≤ k := by simp; omega
        unfold St.span
        omega
      have HMM := Lib.hid hmm
      have WK := Lib.hid hwk
      have HFD := Lib.hid hfd
      clear hmm hwk hfd
      by_cases a1 : lo ≤ x
      · have e1 := dec_t a1
        by_cases a2 : x ≤ hi
        · have e2 := dec_t a2
          rw [e1, e2] at hst
          have HST := Lib.hid hst
          clear a1 a2 hst
          go_upto_region 6 with fail
          iterate 13 (go_step)
          refine smap_look rfl _ _ rfl Try.underlying66 rfl HMM.out rfl WK.out ?_
          rw [HFD.out]
          simp only [Act.put, List.setIfInBounds_toArray, List.set_cons_zero, List.set_cons_succ, Option.getD_some]
          iterate 3 (go_step)
          refine wpList_buildPair rfl (.tmp 31) rfl x y rfl ?_
          simp only [Act.put, List.setIfInBounds_toArray, List.set_cons_zero, List.set_cons_succ]
          go_wp2_with (at_builtin; refine walk_append (zero := .agg #[.int .i64 0, .int .i64 0]) (size := 2) (base := w2.heap.size) (n := (St.span (s.take k) lo hi).length) (m := 1) (xs := pairCells (St.span (s.take k) lo hi)) (ys := [.int .i64 x, .int .i64 y]) rfl (.tmp 26) (.tmp 32) rfl Try.underlying31 info_pair rfl (by decide) (Nat.le_of_ble_eq_true rfl) rfl (World.ownsRow.alloc HP.out _) rfl (SrcAt.pair (blk_at (by simp))) (pair_one _ _) hlen (Nat.le_trans HB.out.size (by simp <;> omega)) ?_)
          intro v' w5 hA5
          have ho5 := NewPairs.app (l := St.span (s.take k) lo hi) (x := x) (y := y) hA5 rfl rfl
          have hb5 := NewPairs.below (w1 := w2) (l := St.span (s.take k) lo hi) (World.ownsRow.alloc HP.out _) hA5 (HB.out.alloc HB.out.size _) (Nat.le_trans HB.out.size (by simp <;> omega))
          have HO5 := Lib.hid ho5
          have HB5 := Lib.hid hb5
          clear hA5 ho5 hb5
          go_wp2_with fail
          go_roundg (s.length - (k + 1))
          case rel => exact ⟨k + 1, by go_num, by omega, by omega, Lib.hid (by rw [HST.out]; exact HO5.out), HB5⟩
          case measure => omega
        · have e2 := dec_f a2
          rw [e1, e2] at hst
          have HST := Lib.hid hst
          clear a1 a2 hst
          go_wp2_with fail
          go_roundg (s.length - (k + 1))
          case rel => exact ⟨k + 1, by go_num, by omega, by omega, Lib.hid (by rw [HST.out]; simpa using HP.out), HB⟩
          case measure => omega
      · have e1 := dec_f a1
        rw [e1] at hst
        have HST := Lib.hid hst
        clear a1 hst
        go_wp2_with fail
        go_roundg (s.length - (k + 1))
        case rel => exact ⟨k + 1, by go_num, by omega, by omega, Lib.hid (by rw [HST.out]; simpa using HP.out), HB⟩
        case measure => omega
    · obtain rfl : k = s.length := by omega
      have hd : decide (s.length < s.length) = false := by simp
      have hcl := HP.out.clip
      rw [List.take_length] at hcl
      have HCL := Lib.hid hcl
      clear hcl hlt
      go_wp2_with fail
      refine HCL.out.mono ?_
      rintro e w3 ⟨u, rfl, hu, rfl⟩
      have HU := Lib.hid hu
      clear hu
      go_wp2_with fail
      go_ret
      exact ⟨_, rfl, HU.out, bl_next HB0.out HB.out⟩
end Go.Proofs.Ytpohehialkgigaa
