/- MarkPlays holds: the oldest of those that live is told, as they come and go. No condition. -/
import Derived.Test.YtfjoghbkfkbbdaaK10
import Derived.Test.YtfjoghbkfkbbdaaKH
import Derived.Test.YtfjoghbkfkbbdaaKS
import Derived.Test.YtfjoghbkfkbbdaaF5
import Derived.Deep.CutRange
import Derived.Deep.CutBlock
import Derived.Deep.DeepCutAuto
namespace Go.Proofs.Ytfjoghbkfkbbdaa
open Go.RowKit Go.ChangeShapes

theorem flat_sorted : ∀ {es : List Ent}, Rising es → (flat es).Pairwise (· ≤ ·)
  | [], _ => List.Pairwise.nil
  | e :: es, h => by
    have ht : Rising es := fun i j hij hj => h (i + 1) (j + 1) (by omega) (by simp; omega)
    have hh : ∀ f ∈ es, e.at_ < f.at_ := fun f hf => by
      obtain ⟨j, hj, rfl⟩ := List.getElem_of_mem hf
      have := h 0 (j + 1) (by omega) (by simp; omega)
      simpa [List.getD_eq_getElem?_getD, hj] using this
    rw [flat_cons, List.pairwise_append]
    refine ⟨?_, flat_sorted ht, fun a ha b hb => ?_⟩
    · exact List.pairwise_replicate.2 (.inr (Int.le_refl _))
    · obtain ⟨f, hf, rfl⟩ := flat_mem hb
      rw [List.eq_of_mem_replicate ha]
      exact Int.le_of_lt (hh f hf)
theorem MF.sorted {w0 W : World} {b : Nat} {l : List Int} {M : List Ob} (h : MF w0 b l M W) : l.Pairwise (· ≤ ·) := by
  obtain ⟨es, v, hS, hg, rfl⟩ := h
  exact flat_sorted hg.rise
/-- k parts a row: what is below x, and what is not. -/
def Parts (L : List Int) (x : Int) (k : Nat) : Prop := (∀ y ∈ L.take k, y < x) ∧ ∀ y ∈ L.drop k, x ≤ y
theorem parts_of {L : List Int} {x : Int} {k : Nat} (hs : L.Pairwise (· ≤ ·)) (hb : ∀ j, j < k → L.getD j 0 < x) (hk : k ≤ L.length) (he : k < L.length → x ≤ L.getD k 0) : Parts L x k := by
  refine ⟨fun y hy => ?_, fun y hy => ?_⟩
  · obtain ⟨j, hj, rfl⟩ := List.getElem_of_mem hy
    have hj2 : j < k ∧ j < L.length := by rw [List.length_take] at hj; omega
    have := hb j hj2.1
    simpa [List.getD_eq_getElem?_getD, hj2.2] using this
  · obtain ⟨j, hj, rfl⟩ := List.getElem_of_mem hy
    have hj2 : k + j < L.length := by rw [List.length_drop] at hj; omega
    have h1 := he (by omega)
    rw [show L.getD k 0 = L[k]'(by omega) by simp [List.getD_eq_getElem?_getD, show k < L.length by omega]] at h1
    rw [List.getElem_drop]
    rcases Nat.eq_zero_or_pos j with rfl | hp
    · simpa using h1
    · have := List.pairwise_iff_getElem.1 hs k (k + j) (by omega) hj2 (by omega)
      omega
theorem Parts.ins {L : List Int} {x : Int} {k : Nat} (h : Parts L x k) : insS L x = L.take k ++ x :: L.drop k := by
  unfold insS
  have e : L = L.take k ++ L.drop k := (List.take_append_drop k L).symm
  rw [e, List.filter_append, List.filter_append, ← e]
  rw [List.filter_eq_self.2 (fun y hy => decide_eq_true (h.1 y hy)), List.filter_eq_nil_iff.2 (fun y hy => by have := h.2 y hy; simp; omega)]
  rw [List.filter_eq_nil_iff.2 (fun y hy => by have := h.1 y hy; simp; omega), List.filter_eq_self.2 (fun y hy => by have := h.2 y hy; simp; omega)]
  simp
theorem Parts.yes {L : List Int} {x : Int} {k : Nat} (h : Parts L x k) (hk : k < L.length) (he : L.getD k 0 = x) : x ∈ L ∧ L.erase x = L.take k ++ L.drop (k + 1) := by
  have hd : L.drop k = x :: L.drop (k + 1) := by
    rw [List.drop_eq_getElem_cons hk, ← he]
    simp [List.getD_eq_getElem?_getD, hk]
  have hn : ¬ x ∈ L.take k := fun hm => by have := h.1 x hm; omega
  have e : L = L.take k ++ x :: L.drop (k + 1) := by rw [← hd, List.take_append_drop]
  refine ⟨by rw [e]; simp, ?_⟩
  have e2 : (L.take k ++ x :: L.drop (k + 1)).erase x = L.take k ++ L.drop (k + 1) := by rw [List.erase_append_right _ hn, List.erase_cons_head]
  rw [← e] at e2
  exact e2
theorem Parts.no {L : List Int} {x : Int} {k : Nat} (hs : L.Pairwise (· ≤ ·)) (h : Parts L x k) (he : ¬ (k < L.length ∧ L.getD k 0 = x)) : ¬ x ∈ L := by
  intro hm
  rw [← List.take_append_drop k L] at hm
  rcases List.mem_append.1 hm with hm | hm
  · have := h.1 x hm
    omega
  · obtain ⟨j, hj, hx⟩ := List.getElem_of_mem hm
    have hj2 : k + j < L.length := by rw [List.length_drop] at hj; omega
    rw [List.getElem_drop] at hx
    have h0 : L.getD k 0 = L[k]'(by omega) := by simp [List.getD_eq_getElem?_getD, show k < L.length by omega]
    have h1 := h.2 (L[k]'(by omega)) (by rw [List.drop_eq_getElem_cons (show k < L.length by omega)]; exact List.mem_cons_self)
    have h2 : L[k]'(by omega) ≤ L[k + j] := by
      rcases Nat.eq_zero_or_pos j with rfl | hp
      · exact Int.le_refl _
      · exact List.pairwise_iff_getElem.1 hs k (k + j) (by omega) hj2 (by omega)
    exact he ⟨by omega, by rw [h0]; omega⟩
theorem owned_three {k : IntKind} {E : TypeId} {w : World} {v : Value} {l1 l2 : List Int} {x : Int} {n : Nat} (h : w.ownsRow 0 E 1 v n (([] ++ l1.map (Value.int k)) ++ [.int k x] ++ l2.map (Value.int k))) (hn : n = (l1 ++ x :: l2).length) : Owned k E w v (l1 ++ x :: l2) := by
  subst hn
  have e : ([] ++ l1.map (Value.int k)) ++ [.int k x] ++ l2.map (Value.int k) = (l1 ++ x :: l2).map (Value.int k) := by simp
  rw [e] at h
  exact h
theorem box_keep {X w5 : World} {E : TypeId} {g0 gb n5 : Nat} {v5 : Value} {xs5 : List Value} {o : Obj} (h5 : Appended X w5 0 E 1 (.slice (some ⟨g0, 0, none⟩) 0 0) v5 n5 xs5) (hb : X.heap[gb]? = some o) (hne : gb ≠ g0) : w5.heap[gb]? = some o :=
  h5.keep hb (fun e => hne (Option.some.inj e).symm)
theorem src_nil (w : World) : SrcAt w (.slice none 0 0) 0 1 [] := .inl ⟨rfl, rfl, none, 0, rfl, fun _ => rfl⟩
theorem src_zero {w : World} {c : Prop} [Decidable c] (p q : Addr) (cap : Nat) : SrcAt w (.slice (if c then some p else some q) 0 cap) 0 1 [] := .inl ⟨rfl, rfl, _, cap, rfl, fun h => by split at h <;> cases h⟩
theorem MF.len {w0 W : World} {b : Nat} {l : List Int} {kd : IntKind} {E : TypeId} {v : Value} {M : List Ob} (h : MF w0 b l (obRow kd E v l :: M) W) : ∃ a cap, v = .slice a l.length cap ∧ l.length ≤ cap ∧ (a = none → l.length = 0 ∧ cap = 0) ∧ (∀ g, a = some g → ∃ gb, g = ⟨gb, 0, none⟩) := by
  obtain ⟨a, cap, h1, h2, h3, h4⟩ := Owned.form (h.first : Owned kd E W v l)
  exact ⟨a, cap, h1, h2, h3, fun g hg => ⟨g.block, (h4 g hg).1⟩⟩

set_option maxRecDepth 100000 in
set_option maxHeartbeats 16000000 in
theorem markPlays_walk {av : Option Addr} {len cap : Nat} {l : List Op2} {a1 : Int} {w : World} (hlen : l.length = len) (hr : OpAt w (.slice av len cap) l) (_hwf : ∀ i, (l.getD i op0).wf) (_w1 : (Lit.int .u64 a1).wf = true) :
    Calls Try.prog 14 #[.slice av len cap, .int .u64 a1] w fun e w' => e = .returned (.bool true) ∧ Below w.heap.size w w' := by
  subst hlen
  have HM := Lib.hid (mk_new (Sep.nil w))
  have HR' := Lib.hid hr
  clear hr
  go_enter Try.func14, Try.ntmps14
  go_wp2_with fail
  refine HM.out.mono ?_
  rintro e w1 ⟨b, rfl, hW⟩
  have H1 := Lib.hid hW
  clear hW HM
  go_wp2_with fail
  refine (awake17_any _).mono ?_
  rintro e w2 ⟨rfl, b2⟩
  have H2 := Lib.hid ((H1.out.later b2).add (A := obRow .u64 39 (.slice none 0 0) []) (fun K hS => hS.row_nil .u64 39))
  clear b2 H1
  go_wp2_with fail
  go_loopw [6, 7] (fun wv iv wr => ∃ (i : Nat) (L : List Int), i ≤ 80 ∧ iv = .int .i64 i ∧ L.length ≤ i ∧ MF w b L [obRow .u64 39 wv L] wr) (fun _ iv _ => 80 - (intOf iv).toNat)
  case atStart => exact ⟨0, [], Nat.zero_le _, rfl, Nat.le_refl _, H2.out⟩
  case round =>
    obtain ⟨i, L, hi, rfl, hLi, hW⟩ := hrel
    have HW := Lib.hid hW
    clear hW H2
    obtain ⟨ra, rc, hov, hrc, hrn, hrg⟩ := HW.out.len
    subst hov
    by_cases hin : i < l.length ∧ i < 80
    · obtain ⟨h1, h2⟩ := hin
      rcases HR'.out with ⟨h0, _⟩ | ⟨b', off, cap', hv, _, hbl, hc⟩
      · omega
      obtain ⟨q0, q1⟩ := hc i h1
      have HC0 := Lib.hid (fun (W : World) (hb : Below w.heap.size w W) => (hb.cell (p := ⟨b', off + i * 2, none⟩) hbl).trans q0)
      have c0 := (HW.out.bel.cell (p := ⟨b', off + i * 2, none⟩) hbl).trans q0
      have c1 := (HW.out.bel.cell (p := ⟨b', off + i * 2 + 1, none⟩) hbl).trans q1
      simp only [Value.slice.injEq] at hv
      obtain ⟨rfl, _, rfl⟩ := hv
      clear hc q0 q1
      generalize (l.getD i op0).kind = kd at *
      generalize (l.getD i op0).at_ = x at *
      have p0 : (i : Int) < l.length := by omega
      go_wp2_with fail
      go_loopw [9] (fun kv wr => ∃ (k : Nat), k ≤ L.length ∧ kv = .int .i64 k ∧ (∀ j, j < k → L.getD j 0 < x) ∧ MF w b L [obRow .u64 39 (.slice ra L.length rc) L] wr) (fun kv _ => L.length - (intOf kv).toNat)
      case atStart => exact ⟨0, Nat.zero_le _, rfl, fun j hj => by omega, HW.out⟩
      case round =>
        obtain ⟨k, hk, rfl, hbelow, hW⟩ := hrel
        have HW2 := Lib.hid hW
        have HBW := Lib.hid hbelow
        clear hW hbelow HW c0 c1
        by_cases hgo : k < L.length ∧ L.getD k 0 < x
        · obtain ⟨hkl, hlt⟩ := hgo
          obtain ⟨g, rfl⟩ : ∃ g, ra = some ⟨g, 0, none⟩ := some_of (HW2.out.first : Owned .u64 _ _ _ L) (by omega)
          have cx := Owned.at_ (HW2.out.first : Owned .u64 _ _ _ L) hkl
          have HLT := Lib.hid hlt
          have HB2 := Lib.hid (show ∀ j, j < k + 1 → L.getD j 0 < x from fun j hj => by
            by_cases e : j = k
            · rw [e]; exact hlt
            · exact HBW.out j (by omega))
          have pk : (k : Int) < L.length := by omega
          generalize L.getD k 0 = y at *
          go_wp2_with fail
          go_roundw
          case rel => exact ⟨k + 1, by omega, by go_num, HB2.out, HW2.out⟩
          case measure => simp [intOf]; omega
        · have hparts := parts_of (x := x) HW2.out.sorted HBW.out hk (fun hkl => by
            have : ¬ L.getD k 0 < x := fun h => hgo ⟨hkl, h⟩
            omega)
          have HPT := Lib.hid hparts
          have c0 := HC0.out _ HW2.out.bel
          have hways : L.length ≤ k ∨ (k < L.length ∧ ¬ L.getD k 0 < x) := by
            by_cases h : k < L.length
            · exact .inr ⟨h, fun h2 => hgo ⟨h, h2⟩⟩
            · exact .inl (by omega)
          have hisw := Lib.hid (show (k < L.length ∧ L.getD k 0 = x) ∨ ¬ (k < L.length ∧ L.getD k 0 = x) from Classical.em _)
          have pk0 : (0 : Int) ≤ k := by omega
          have pk1 : (k : Int) ≤ L.length := by omega
          have pk2 : (k : Int) ≤ rc := by omega
          have xk : IntKind.i64.wrap ((k : Int) + 1) = (k : Int) + 1 := IntWalk.i64_in _ (by omega)
          have xk2 : ((k : Int) + 1).toNat = k + 1 := by omega
          clear hgo hparts
          rcases hways with hend | ⟨hkl, hnlt⟩
          · have pend : ¬ (k : Int) < L.length := by omega
            go_upto_if 53 with fail
            go_cut [6] (fun s6 wx => ∃ (L' : List Int), L'.length ≤ i + 1 ∧ MF w b L' [obRow .u64 39 s6 L'] wx)
            case first =>
              as_aux_lemma =>
                by_cases hk0 : kd = 0
                · subst hk0
                  go_wp2_with fail
                  refine (mk_enter HW2.out (by omega) x).mono ?_
                  rintro e w2 ⟨rfl, hW⟩
                  rw [HPT.out.ins, List.drop_eq_nil_of_le hend] at hW
                  have H3 := Lib.hid hW
                  have hkeep := Lib.hid (fun W (hb : Below w2.heap.size w2 W) => Owned.mod (hW.first : Owned .u64 39 _ (.slice ra L.length rc) L) (Mod.of_below (F := fun _ => False) hb) (fun _ _ h => h))
                  have hsome := Lib.hid hrg
                  have hnone := Lib.hid hrn
                  have hnl : (L.take k ++ x :: []).length ≤ i + 1 := by simp; omega
                  clear hW HW2 c0 hrg hrn
                  rcases hra : ra with _ | ga
                  · subst hra
                    have hL0 : L = [] := List.length_eq_zero_iff.1 (hnone.out rfl).1
                    subst hL0
                    obtain rfl : k = 0 := by simpa using hk
                    obtain rfl : rc = 0 := (hnone.out rfl).2
                    go_wp2_with fail
                    go_region_law (first | (refine step_append (zero := .int .u64 0) (base := 0) (n := 0) (xs := []) (m := 0) (ys := []) rfl (.tmp 57) (.tmp 60) rfl Try.underlying48 info_u64 rfl Nat.zero_lt_one (Nat.le_of_ble_eq_true rfl) rfl ?_ rfl ?_ (by first | exact ints_one _ _ | (intro y hy; simp at hy)) ?_ (Nat.zero_le _) ?_; exact owns_made (by first | exact blk_at (by simp) | exact blk_drew (blk_at (by simp)) | exact blk_alloc (blk_at (by simp)) | exact blk_alloc (blk_drew (blk_at (by simp))) | exact blk_drew (blk_alloc (blk_at (by simp)))); exact src_nil _; omega; intro v5 w5 h5; obtain ⟨B5, f5⟩ := app_new (w := w2) (by repeat (first | exact Below.refl _ _ | refine Below.drew ?_ | refine bl_al ?_ _)) (fun j hj => by have hj2 : _ = j := Option.some.inj hj; (try simp at hj2); omega) h5) | (refine step_append (zero := .int .u64 0) (base := 0) (n := 0 + 0) (xs := [] ++ []) (m := 1) (ys := [.int .u64 x]) rfl (.tmp 61) (.tmp 63) rfl Try.underlying48 info_u64 rfl Nat.zero_lt_one (Nat.le_of_ble_eq_true rfl) rfl ?_ rfl ?_ (ints_one .u64 [_]) ?_ (Nat.zero_le _) ?_; (first | exact h5.own | exact World.ownsRow.alloc h5.own _); (first | exact SrcAt.one (blk_at (by simp)) | exact SrcAt.one (box_keep h5 (by first | exact blk_at (by simp) | exact blk_drew (blk_at (by simp)) | exact blk_alloc (blk_at (by simp)) | exact blk_alloc (blk_drew (blk_at (by simp))) | exact blk_drew (blk_alloc (blk_at (by simp)))) (by simp))); omega; intro v6 w6 h6; obtain ⟨B6, f6⟩ := app_new (w := w2) (by repeat (first | exact B5 | refine Below.drew ?_ | refine bl_al ?_ _)) f5 h6) | (refine step_append (zero := .int .u64 0) (base := 0) (n := 0 + 0 + 1) (xs := ([] ++ []) ++ [.int .u64 x]) (m := 0) (ys := []) rfl (.tmp 64) (.tmp 67) rfl Try.underlying48 info_u64 rfl Nat.zero_lt_one (Nat.le_of_ble_eq_true rfl) rfl ?_ rfl ?_ (by first | exact ints_one _ _ | (intro y hy; simp at hy)) ?_ (Nat.zero_le _) ?_; exact h6.own; exact src_nil _; omega; intro v7 w7 h7; obtain ⟨B7, f7⟩ := app_new (w := w2) (by repeat (first | exact B6 | refine Below.drew ?_ | refine bl_al ?_ _)) f6 h7; have O7 : Owned .u64 39 w7 v7 ([] ++ x :: []) := owned_three (l1 := []) (l2 := []) h7.own (by simp; (try omega))))
                    all_goals
                      obtain ⟨a7, c7, hv7⟩ := h7.val
                      have H7 := Lib.hid ((H3.out.add (A := obRow .u64 39 v7 ([] ++ x :: [])) (fun K hS => hS.new B7 O7 f7)).swap.drop)
                      clear B5 f5 B6 f6 B7 f7 O7 h5 h6 h7 hkeep H3
                      subst hv7
                      go_wp2_with fail
                      all_goals
                        go_meet
                        case rel => exact ⟨[x], by simp, by first | exact H7.out | (have q := H7.out; simp only [Nat.zero_add] at q ⊢; exact q) | (have q := H7.out; simp only [Nat.zero_add] at q; exact q) | (have q := H7.out; simp only [Nat.zero_add, Nat.add_zero] at q ⊢; exact q) | (have q := H7.out; simp only [Nat.zero_add, Nat.add_zero] at q; exact q)⟩
                  · subst hra
                    obtain ⟨g, rfl⟩ := hsome.out _ rfl
                    go_wp2_with fail
                    go_region_law (first | (refine step_append (zero := .int .u64 0) (base := 0) (n := 0) (xs := []) (m := k) (ys := (L.take k).map (Value.int .u64)) rfl (.tmp 57) (.tmp 60) rfl Try.underlying48 info_u64 rfl Nat.zero_lt_one (Nat.le_of_ble_eq_true rfl) rfl ?_ rfl ?_ (by first | exact ints_one _ _ | (intro y hy; simp at hy)) ?_ (Nat.zero_le _) ?_; exact owns_made (by first | exact blk_at (by simp) | exact blk_drew (blk_at (by simp)) | exact blk_alloc (blk_at (by simp)) | exact blk_alloc (blk_drew (blk_at (by simp))) | exact blk_drew (blk_alloc (blk_at (by simp)))); exact cut_front (hkeep.out _ (by repeat (first | exact Below.refl _ _ | refine Below.drew ?_ | refine bl_al ?_ _))) (by omega); omega; intro v5 w5 h5; obtain ⟨B5, f5⟩ := app_new (w := w2) (by repeat (first | exact Below.refl _ _ | refine Below.drew ?_ | refine bl_al ?_ _)) (fun j hj => by have hj2 : _ = j := Option.some.inj hj; (try simp at hj2); omega) h5) | (refine step_append (zero := .int .u64 0) (base := 0) (n := 0 + k) (xs := [] ++ (L.take k).map (Value.int .u64)) (m := 1) (ys := [.int .u64 x]) rfl (.tmp 61) (.tmp 63) rfl Try.underlying48 info_u64 rfl Nat.zero_lt_one (Nat.le_of_ble_eq_true rfl) rfl ?_ rfl ?_ (ints_one .u64 [_]) ?_ (Nat.zero_le _) ?_; (first | exact h5.own | exact World.ownsRow.alloc h5.own _); (first | exact SrcAt.one (blk_at (by simp)) | exact SrcAt.one (box_keep h5 (by first | exact blk_at (by simp) | exact blk_drew (blk_at (by simp)) | exact blk_alloc (blk_at (by simp)) | exact blk_alloc (blk_drew (blk_at (by simp))) | exact blk_drew (blk_alloc (blk_at (by simp)))) (by simp))); omega; intro v6 w6 h6; obtain ⟨B6, f6⟩ := app_new (w := w2) (by repeat (first | exact B5 | refine Below.drew ?_ | refine bl_al ?_ _)) f5 h6) | (refine step_append (zero := .int .u64 0) (base := 0) (n := 0 + k + 1) (xs := ([] ++ (L.take k).map (Value.int .u64)) ++ [.int .u64 x]) (m := 0) (ys := []) rfl (.tmp 64) (.tmp 67) rfl Try.underlying48 info_u64 rfl Nat.zero_lt_one (Nat.le_of_ble_eq_true rfl) rfl ?_ rfl ?_ (by first | exact ints_one _ _ | (intro y hy; simp at hy)) ?_ (Nat.zero_le _) ?_; exact h6.own; exact src_zero _ _ _; omega; intro v7 w7 h7; obtain ⟨B7, f7⟩ := app_new (w := w2) (by repeat (first | exact B6 | refine Below.drew ?_ | refine bl_al ?_ _)) f6 h7; have O7 : Owned .u64 39 w7 v7 (L.take k ++ x :: []) := owned_three (l1 := L.take k) (l2 := []) h7.own (by simp; (try omega))))
                    all_goals
                      obtain ⟨a7, c7, hv7⟩ := h7.val
                      have H7 := Lib.hid ((H3.out.add (A := obRow .u64 39 v7 (L.take k ++ x :: [])) (fun K hS => hS.new B7 O7 f7)).swap.drop)
                      clear B5 f5 B6 f6 B7 f7 O7 h5 h6 h7 hkeep H3
                      subst hv7
                      go_wp2_with fail
                      all_goals
                        go_meet
                        case rel => exact ⟨L.take k ++ x :: [], hnl, by first | exact H7.out | (have q := H7.out; simp only [Nat.zero_add] at q ⊢; exact q) | (have q := H7.out; simp only [Nat.zero_add] at q; exact q) | (have q := H7.out; simp only [Nat.zero_add, Nat.add_zero] at q ⊢; exact q) | (have q := H7.out; simp only [Nat.zero_add, Nat.add_zero] at q; exact q)⟩
                · have hkb : (kd == 0) = false := by simpa using hk0
                  clear hk0
                  have hno := Parts.no HW2.out.sorted HPT.out (by omega : ¬ (k < L.length ∧ L.getD k 0 = x))
                  have hle := mk_leave HW2.out (by omega) x
                  rw [decide_eq_false hno, List.erase_of_not_mem hno] at hle
                  have HLE := Lib.hid hle
                  clear hle hno HW2
                  go_wp2_with fail
                  refine HLE.out.mono ?_
                  rintro e w2 ⟨rfl, hW⟩
                  have H3 := Lib.hid hW
                  clear hW HLE
                  go_wp2_with fail
                  go_meet
                  case rel => exact ⟨L, by omega, H3.out⟩
            case rest =>
              as_aux_lemma =>
                obtain ⟨L', hL', hW⟩ := hcut
                obtain ⟨wa, wcap, hwv, _, hwn, hwg⟩ := hW.len
                subst hwv
                have H := Lib.hid hW
                have HLOW := Lib.hid (mk_low hW a1)
                clear hW
                obtain ⟨low, hlow⟩ : ∃ low, lowS L' a1 = low := ⟨_, rfl⟩
                rw [hlow] at HLOW
                by_cases h0 : L'.length = 0
                · obtain rfl : L' = [] := List.length_eq_zero_iff.1 h0
                  have hlow2 : a1 = low := hlow
                  subst hlow2
                  clear hlow
                  go_wp2_with fail
                  refine HLOW.out.mono ?_
                  rintro e w3 ⟨rfl, rfl⟩
                  go_wp2_with fail
                  refine (mk_len H.out (by omega)).mono ?_
                  rintro e w4 ⟨rfl, hW⟩
                  have H4 := Lib.hid hW
                  clear hW H HLOW
                  go_wp2_with fail
                  refine (mk_all H4.out (by omega)).mono ?_
                  rintro e w5 ⟨a5, c5, rfl, hW⟩
                  have HSM := Lib.hid (rows_same _ _ _ w5 hW.first hW.swap.first (by omega))
                  have H5 := Lib.hid hW.drop
                  clear hW H4
                  go_wp2_with fail
                  refine HSM.out.mono ?_
                  rintro e w6 ⟨rfl, b6⟩
                  have H6 := Lib.hid (H5.out.later b6)
                  clear b6 H5 HSM
                  go_wp2_with fail
                  go_roundw
                  case rel => exact ⟨i + 1, _, by omega, by go_num, hL', H6.out⟩
                  case measure => simp [intOf]; omega
                · obtain ⟨g', rfl⟩ : ∃ g, wa = some ⟨g, 0, none⟩ := by
                    cases wa with
                    | none => exact absurd (hwn rfl).1 h0
                    | some g => obtain ⟨gb, rfl⟩ := hwg g rfl; exact ⟨gb, rfl⟩
                  have cz := Owned.at_ (H.out.first : Owned .u64 _ _ _ L') (i := 0) (by omega)
                  have hmin : min a1 (L'.getD 0 0) = low := by
                    rw [← hlow]
                    cases L' with
                    | nil => simp at h0
                    | cons z r => rfl
                  have pz : (0 : Int) < L'.length := by omega
                  clear hlow hwn hwg
                  generalize L'.getD 0 0 = z0 at *
                  go_wp2_with fail
                  refine HLOW.out.mono ?_
                  rintro e w3 ⟨rfl, rfl⟩
                  go_wp2_with fail
                  refine (mk_len H.out (by omega)).mono ?_
                  rintro e w4 ⟨rfl, hW⟩
                  have H4 := Lib.hid hW
                  clear hW H HLOW
                  go_wp2_with fail
                  refine (mk_all H4.out (by omega)).mono ?_
                  rintro e w5 ⟨a5, c5, rfl, hW⟩
                  have HSM := Lib.hid (rows_same _ _ _ w5 hW.first hW.swap.first (by omega))
                  have H5 := Lib.hid hW.drop
                  clear hW H4
                  go_wp2_with fail
                  refine HSM.out.mono ?_
                  rintro e w6 ⟨rfl, b6⟩
                  have H6 := Lib.hid (H5.out.later b6)
                  clear b6 H5 HSM
                  go_wp2_with fail
                  go_roundw
                  case rel => exact ⟨i + 1, _, by omega, by go_num, hL', H6.out⟩
                  case measure => simp [intOf]; omega
          · obtain ⟨g, rfl⟩ : ∃ g, ra = some ⟨g, 0, none⟩ := some_of (HW2.out.first : Owned .u64 _ _ _ L) (by omega)
            have cx := Owned.at_ (HW2.out.first : Owned .u64 _ _ _ L) hkl
            have pkl : (k : Int) < L.length := by omega
            obtain ⟨y, hy⟩ : ∃ y, L.getD k 0 = y := ⟨_, rfl⟩
            have hnlt2 : ¬ y < x := hy ▸ hnlt
            have cx2 := cx
            rw [hy] at cx2
            have HY := Lib.hid hy
            clear hnlt cx hy
            go_upto_if 53 with fail
            go_cut [6] (fun s6 wx => ∃ (L' : List Int), L'.length ≤ i + 1 ∧ MF w b L' [obRow .u64 39 s6 L'] wx)
            case first =>
              as_aux_lemma =>
                by_cases hk0 : kd = 0
                · subst hk0
                  go_wp2_with fail
                  refine (mk_enter HW2.out (by omega) x).mono ?_
                  rintro e w2 ⟨rfl, hW⟩
                  rw [HPT.out.ins] at hW
                  have H3 := Lib.hid hW
                  have hkeep := Lib.hid (fun W (hb : Below w2.heap.size w2 W) => Owned.mod (hW.first : Owned .u64 39 _ (.slice (some ⟨g, 0, none⟩) L.length rc) L) (Mod.of_below (F := fun _ => False) hb) (fun _ _ h => h))
                  have hnl : (L.take k ++ x :: L.drop k).length ≤ i + 1 := by simp; omega
                  clear hW HW2 c0 cx2
                  go_wp2_with fail
                  go_region_law (first | (refine step_append (zero := .int .u64 0) (base := 0) (n := 0) (xs := []) (m := k) (ys := (L.take k).map (Value.int .u64)) rfl (.tmp 57) (.tmp 60) rfl Try.underlying48 info_u64 rfl Nat.zero_lt_one (Nat.le_of_ble_eq_true rfl) rfl ?_ rfl ?_ (by first | exact ints_one _ _ | (intro y hy; simp at hy)) ?_ (Nat.zero_le _) ?_; exact owns_made (by first | exact blk_at (by simp) | exact blk_drew (blk_at (by simp)) | exact blk_alloc (blk_at (by simp)) | exact blk_alloc (blk_drew (blk_at (by simp))) | exact blk_drew (blk_alloc (blk_at (by simp)))); exact cut_front (hkeep.out _ (by repeat (first | exact Below.refl _ _ | refine Below.drew ?_ | refine bl_al ?_ _))) (by omega); omega; intro v5 w5 h5; obtain ⟨B5, f5⟩ := app_new (w := w2) (by repeat (first | exact Below.refl _ _ | refine Below.drew ?_ | refine bl_al ?_ _)) (fun j hj => by have hj2 : _ = j := Option.some.inj hj; (try simp at hj2); omega) h5) | (refine step_append (zero := .int .u64 0) (base := 0) (n := 0 + k) (xs := [] ++ (L.take k).map (Value.int .u64)) (m := 1) (ys := [.int .u64 x]) rfl (.tmp 61) (.tmp 63) rfl Try.underlying48 info_u64 rfl Nat.zero_lt_one (Nat.le_of_ble_eq_true rfl) rfl ?_ rfl ?_ (ints_one .u64 [_]) ?_ (Nat.zero_le _) ?_; (first | exact h5.own | exact World.ownsRow.alloc h5.own _); (first | exact SrcAt.one (blk_at (by simp)) | exact SrcAt.one (box_keep h5 (by first | exact blk_at (by simp) | exact blk_drew (blk_at (by simp)) | exact blk_alloc (blk_at (by simp)) | exact blk_alloc (blk_drew (blk_at (by simp))) | exact blk_drew (blk_alloc (blk_at (by simp)))) (by simp))); omega; intro v6 w6 h6; obtain ⟨B6, f6⟩ := app_new (w := w2) (by repeat (first | exact B5 | refine Below.drew ?_ | refine bl_al ?_ _)) f5 h6) | (refine step_append (zero := .int .u64 0) (base := 0) (n := 0 + k + 1) (xs := ([] ++ (L.take k).map (Value.int .u64)) ++ [.int .u64 x]) (m := L.length - k) (ys := (L.drop k).map (Value.int .u64)) rfl (.tmp 64) (.tmp 67) rfl Try.underlying48 info_u64 rfl Nat.zero_lt_one (Nat.le_of_ble_eq_true rfl) rfl ?_ rfl ?_ (by first | exact ints_one _ _ | (intro y hy; simp at hy)) ?_ (Nat.zero_le _) ?_; exact h6.own; exact cut_back (hkeep.out _ (by repeat (first | exact B6 | refine Below.drew ?_ | refine bl_al ?_ _))) (by omega) rfl; omega; intro v7 w7 h7; obtain ⟨B7, f7⟩ := app_new (w := w2) (by repeat (first | exact B6 | refine Below.drew ?_ | refine bl_al ?_ _)) f6 h7; have O7 : Owned .u64 39 w7 v7 (L.take k ++ x :: L.drop k) := owned_three (l1 := L.take k) (l2 := L.drop k) h7.own (by simp; (try omega))))
                  all_goals
                    obtain ⟨a7, c7, hv7⟩ := h7.val
                    have H7 := Lib.hid ((H3.out.add (A := obRow .u64 39 v7 (L.take k ++ x :: L.drop k)) (fun K hS => hS.new B7 O7 f7)).swap.drop)
                    clear B5 f5 B6 f6 B7 f7 O7 h5 h6 h7 hkeep H3
                    subst hv7
                    go_wp2_with fail
                    all_goals
                      go_meet
                      case rel => exact ⟨L.take k ++ x :: L.drop k, hnl, by first | exact H7.out | (have q := H7.out; simp only [Nat.zero_add] at q ⊢; exact q) | (have q := H7.out; simp only [Nat.zero_add] at q; exact q) | (have q := H7.out; simp only [Nat.zero_add, Nat.add_zero] at q ⊢; exact q) | (have q := H7.out; simp only [Nat.zero_add, Nat.add_zero] at q; exact q)⟩
                · have hkb : (kd == 0) = false := by simpa using hk0
                  clear hk0
                  by_cases hyx : y = x
                  · subst hyx
                    obtain ⟨hmem, her⟩ := HPT.out.yes hkl HY.out
                    have hle := mk_leave HW2.out (by omega) y
                    rw [decide_eq_true hmem, her] at hle
                    have HLE := Lib.hid hle
                    have hyy : (y == y) = true := by simp
                    have pk3 : (k : Int) + 1 ≤ L.length := by omega
                    have pk4 : (k : Int) + 1 ≤ rc := by omega
                    have pk5 : (0 : Int) ≤ (k : Int) + 1 := by omega
                    have hnl : (L.take k ++ L.drop (k + 1)).length ≤ i + 1 := by simp; omega
                    clear hle hmem her
                    go_wp2_with fail
                    refine HLE.out.mono ?_
                    rintro e w2 ⟨rfl, hW⟩
                    have H3 := Lib.hid hW
                    have hkeep := Lib.hid (fun W (hb : Below w2.heap.size w2 W) => Owned.mod (hW.first : Owned .u64 39 _ (.slice (some ⟨g, 0, none⟩) L.length rc) L) (Mod.of_below (F := fun _ => False) hb) (fun _ _ h => h))
                    clear hW HLE HW2 c0 cx2
                    go_wp2_with fail
                    go_region_law (first | (refine step_append (zero := .int .u64 0) (base := 0) (n := 0) (xs := []) (m := k) (ys := (L.take k).map (Value.int .u64)) rfl (.tmp 87) (.tmp 90) rfl Try.underlying48 info_u64 rfl Nat.zero_lt_one (Nat.le_of_ble_eq_true rfl) rfl ?_ rfl ?_ (by first | exact ints_one _ _ | (intro y hy; simp at hy)) ?_ (Nat.zero_le _) ?_; exact owns_made (by first | exact blk_at (by simp) | exact blk_drew (blk_at (by simp)) | exact blk_alloc (blk_at (by simp)) | exact blk_alloc (blk_drew (blk_at (by simp))) | exact blk_drew (blk_alloc (blk_at (by simp)))); exact cut_front (hkeep.out _ (by repeat (first | exact Below.refl _ _ | refine Below.drew ?_ | refine bl_al ?_ _))) (by omega); omega; intro v5 w5 h5; obtain ⟨B5, f5⟩ := app_new (w := w2) (by repeat (first | exact Below.refl _ _ | refine Below.drew ?_ | refine bl_al ?_ _)) (fun j hj => by have hj2 : _ = j := Option.some.inj hj; (try simp at hj2); omega) h5) | (refine step_append (zero := .int .u64 0) (base := 0) (n := 0 + k) (xs := [] ++ (L.take k).map (Value.int .u64)) (m := L.length - (k + 1)) (ys := (L.drop (k + 1)).map (Value.int .u64)) rfl (.tmp 91) (.tmp 95) rfl Try.underlying48 info_u64 rfl Nat.zero_lt_one (Nat.le_of_ble_eq_true rfl) rfl ?_ rfl ?_ (ints_one _ _) ?_ (Nat.zero_le _) ?_; exact h5.own; exact cut_back (hkeep.out _ (by repeat (first | exact B5 | refine Below.drew ?_ | refine bl_al ?_ _))) (by omega) rfl; omega; intro v6 w6 h6; obtain ⟨B6, f6⟩ := app_new (w := w2) (by repeat (first | exact B5 | refine Below.drew ?_ | refine bl_al ?_ _)) f5 h6; have O6 : Owned .u64 39 w6 v6 (L.take k ++ L.drop (k + 1)) := owned_two (l1 := L.take k) (l2 := L.drop (k + 1)) h6.own (by simp; omega)))
                    all_goals
                      obtain ⟨a6, c6, hv6⟩ := h6.val
                      have H6 := Lib.hid ((H3.out.add (A := obRow .u64 39 v6 (L.take k ++ L.drop (k + 1))) (fun K hS => hS.new B6 O6 f6)).swap.drop)
                      clear B5 f5 B6 f6 O6 h5 h6 hkeep H3
                      subst hv6
                      go_wp2_with fail
                      all_goals
                        go_meet
                        case rel => exact ⟨L.take k ++ L.drop (k + 1), hnl, by first | exact H6.out | (have q := H6.out; simp only [Nat.zero_add] at q ⊢; exact q) | (have q := H6.out; simp only [Nat.zero_add] at q; exact q) | (have q := H6.out; simp only [Nat.zero_add, Nat.add_zero] at q ⊢; exact q) | (have q := H6.out; simp only [Nat.zero_add, Nat.add_zero] at q; exact q)⟩
                  · have hno := Parts.no HW2.out.sorted HPT.out (fun h => hyx (HY.out.symm.trans h.2))
                    have hle := mk_leave HW2.out (by omega) x
                    rw [decide_eq_false hno, List.erase_of_not_mem hno] at hle
                    have HLE := Lib.hid hle
                    have hyy : (y == x) = false := by simpa using hyx
                    clear hle hno HW2 hyx
                    go_wp2_with fail
                    refine HLE.out.mono ?_
                    rintro e w2 ⟨rfl, hW⟩
                    have H3 := Lib.hid hW
                    clear hW HLE
                    go_wp2_with fail
                    go_meet
                    case rel => exact ⟨L, by omega, H3.out⟩
            case rest =>
              as_aux_lemma =>
                obtain ⟨L', hL', hW⟩ := hcut
                obtain ⟨wa, wcap, hwv, _, hwn, hwg⟩ := hW.len
                subst hwv
                have H := Lib.hid hW
                have HLOW := Lib.hid (mk_low hW a1)
                clear hW
                obtain ⟨low, hlow⟩ : ∃ low, lowS L' a1 = low := ⟨_, rfl⟩
                rw [hlow] at HLOW
                by_cases h0 : L'.length = 0
                · obtain rfl : L' = [] := List.length_eq_zero_iff.1 h0
                  have hlow2 : a1 = low := hlow
                  subst hlow2
                  clear hlow
                  go_wp2_with fail
                  refine HLOW.out.mono ?_
                  rintro e w3 ⟨rfl, rfl⟩
                  go_wp2_with fail
                  refine (mk_len H.out (by omega)).mono ?_
                  rintro e w4 ⟨rfl, hW⟩
                  have H4 := Lib.hid hW
                  clear hW H HLOW
                  go_wp2_with fail
                  refine (mk_all H4.out (by omega)).mono ?_
                  rintro e w5 ⟨a5, c5, rfl, hW⟩
                  have HSM := Lib.hid (rows_same _ _ _ w5 hW.first hW.swap.first (by omega))
                  have H5 := Lib.hid hW.drop
                  clear hW H4
                  go_wp2_with fail
                  refine HSM.out.mono ?_
                  rintro e w6 ⟨rfl, b6⟩
                  have H6 := Lib.hid (H5.out.later b6)
                  clear b6 H5 HSM
                  go_wp2_with fail
                  go_roundw
                  case rel => exact ⟨i + 1, _, by omega, by go_num, hL', H6.out⟩
                  case measure => simp [intOf]; omega
                · obtain ⟨g', rfl⟩ : ∃ g, wa = some ⟨g, 0, none⟩ := by
                    cases wa with
                    | none => exact absurd (hwn rfl).1 h0
                    | some g => obtain ⟨gb, rfl⟩ := hwg g rfl; exact ⟨gb, rfl⟩
                  have cz := Owned.at_ (H.out.first : Owned .u64 _ _ _ L') (i := 0) (by omega)
                  have hmin : min a1 (L'.getD 0 0) = low := by
                    rw [← hlow]
                    cases L' with
                    | nil => simp at h0
                    | cons z r => rfl
                  have pz : (0 : Int) < L'.length := by omega
                  clear hlow hwn hwg
                  generalize L'.getD 0 0 = z0 at *
                  go_wp2_with fail
                  refine HLOW.out.mono ?_
                  rintro e w3 ⟨rfl, rfl⟩
                  go_wp2_with fail
                  refine (mk_len H.out (by omega)).mono ?_
                  rintro e w4 ⟨rfl, hW⟩
                  have H4 := Lib.hid hW
                  clear hW H HLOW
                  go_wp2_with fail
                  refine (mk_all H4.out (by omega)).mono ?_
                  rintro e w5 ⟨a5, c5, rfl, hW⟩
                  have HSM := Lib.hid (rows_same _ _ _ w5 hW.first hW.swap.first (by omega))
                  have H5 := Lib.hid hW.drop
                  clear hW H4
                  go_wp2_with fail
                  refine HSM.out.mono ?_
                  rintro e w6 ⟨rfl, b6⟩
                  have H6 := Lib.hid (H5.out.later b6)
                  clear b6 H5 HSM
                  go_wp2_with fail
                  go_roundw
                  case rel => exact ⟨i + 1, _, by omega, by go_num, hL', H6.out⟩
                  case measure => simp [intOf]; omega
    · have hd : (l.length : Int) ≤ i ∨ ((i : Int) < l.length ∧ i = 80) := by omega
      clear hin
      have HBL := Lib.hid HW.out.bel
      rcases hd with hd | ⟨hd, rfl⟩
      all_goals
        go_wp2_with fail
        go_ret
        exact ⟨rfl, HBL.out⟩
end Go.Proofs.Ytfjoghbkfkbbdaa
