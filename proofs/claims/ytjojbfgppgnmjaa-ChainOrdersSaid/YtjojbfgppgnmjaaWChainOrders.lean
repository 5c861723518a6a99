/- ChainOrders holds: however many are pushed they are told the other way round; cut in any order the others keep theirs. No condition. -/
import Derived.Test.YtjojbfgppgnmjaaY9
namespace Go.Proofs.Ytjojbfgppgnmjaa
open Go.RowKit Go.ChangeShapes

/-- Those of a row that are there still, told from the m uppermost on. -/
def desc (told : List Int) (B : List Bool) (n : Nat) : Nat → List Int
  | 0 => []
  | m + 1 => desc told B n m ++ (if B.getD (n - 1 - m) false then [told.getD (n - 1 - m) 0] else [])
/-- Which are there still, in memory. -/
def obHere (g : Nat) (B : List Bool) : Ob := obBlk g (B.map Value.bool).toArray 4
theorem desc_mem {told : List Int} {B : List Bool} {n m : Nat} (hm : m ≤ n) (hn : told.length = n) {x : Int} (hx : x ∈ desc told B n m) : ∃ i, n - m ≤ i ∧ i < n ∧ x = told.getD i 0 ∧ B.getD i false = true := by
  induction m with
  | zero => simp [desc] at hx
  | succ m ih =>
    simp only [desc, List.mem_append] at hx
    rcases hx with hx | hx
    · obtain ⟨i, h1, h2, h3⟩ := ih (by omega) hx
      exact ⟨i, by omega, h2, h3⟩
    · split at hx
      · rename_i hb
        simp at hx
        exact ⟨n - 1 - m, by omega, by omega, by simpa using hx, hb⟩
      · simp at hx
theorem desc_has {told : List Int} {B : List Bool} {n i : Nat} (hi : i < n) (hb : B.getD i false = true) : told.getD i 0 ∈ desc told B n n := by
  have : ∀ m, m ≤ n → n - m ≤ i → told.getD i 0 ∈ desc told B n m := by
    intro m
    induction m with
    | zero => intro _ h; omega
    | succ m ih =>
      intro hm h
      simp only [desc, List.mem_append]
      by_cases e : i = n - 1 - m
      · subst e
        right
        rw [if_pos hb]
        simp
      · exact .inl (ih (by omega) (by omega))
  exact this n (Nat.le_refl _) (by omega)
/-- One struck. -/
theorem desc_cut {told : List Int} {B : List Bool} {n : Nat} (hn : told.length = n) (hB : B.length = n) (hnd : told.Nodup) {k : Nat} (hk : k < n) (hb : B.getD k false = true) :
    (desc told B n n).erase (told.getD k 0) = desc told (B.set k false) n n := by
  have : ∀ m, m ≤ n → desc told (B.set k false) n m = (desc told B n m).erase (told.getD k 0) := by
    intro m
    induction m with
    | zero => intro _; rfl
    | succ m ih =>
      intro hm
      simp only [desc]
      rw [ih (by omega)]
      by_cases e : k = n - 1 - m
      · have h1 : ¬ told.getD k 0 ∈ desc told B n m := fun hx => by
          obtain ⟨i, h1, h2, h3, _⟩ := desc_mem (by omega) hn hx
          have := nodup_idx hnd (by omega) (by omega) h3
          omega
        rw [List.erase_of_not_mem h1, ← e, List.erase_append_right _ h1, hb]
        simp [List.getD_eq_getElem?_getD, hB, hk]
      · have h2 : (B.set k false).getD (n - 1 - m) false = B.getD (n - 1 - m) false := by
          simp [List.getD_eq_getElem?_getD, List.getElem?_set_ne e]
        rw [h2]
        by_cases hm2 : told.getD k 0 ∈ desc told B n m
        · rw [List.erase_append_left _ hm2]
        · rw [List.erase_of_not_mem hm2, List.erase_append_right _ hm2]
          congr 1
          split
          · rename_i hb2
            rw [List.erase_of_not_mem]
            intro hx
            simp only [List.mem_singleton] at hx
            have := nodup_idx hnd (by omega) (by omega) hx
            omega
          · rfl
  exact (this n (Nat.le_refl _)).symm
theorem desc_all {told : List Int} {n : Nat} (hn : told.length = n) : desc told (List.replicate n true) n n = told.reverse := by
  have : ∀ m, m ≤ n → desc told (List.replicate n true) n m = (told.drop (n - m)).reverse := by
    intro m
    induction m with
    | zero => intro _; rw [Nat.sub_zero, List.drop_eq_nil_of_le (by omega)]; rfl
    | succ m ih =>
      intro hm
      simp only [desc]
      rw [ih (by omega)]
      have e1 : told.drop (n - (m + 1)) = told.getD (n - 1 - m) 0 :: told.drop (n - m) := by
        rw [show n - (m + 1) = n - 1 - m by omega, List.drop_eq_getElem_cons (by omega), show n - 1 - m + 1 = n - m by omega]
        congr 1
        simp [List.getD_eq_getElem?_getD, show n - 1 - m < told.length by omega]
      rw [e1, List.reverse_cons]
      congr 1
      simp [List.getD_eq_getElem?_getD, show n - 1 - m < n by omega]
  rw [this n (Nat.le_refl _), Nat.sub_self, List.drop_zero]
theorem desc_none {told : List Int} {B : List Bool} {n : Nat} (h : B.count true = 0) : desc told B n n = [] := by
  have : ∀ m, desc told B n m = [] := by
    intro m
    induction m with
    | zero => rfl
    | succ m ih =>
      simp only [desc, ih, List.nil_append]
      rw [if_neg]
      intro hb
      rw [List.count_eq_zero] at h
      apply h
      by_cases hl : n - 1 - m < B.length
      · have : B[n - 1 - m] = true := by simpa [List.getD_eq_getElem?_getD, hl] using hb
        rw [← this]
        exact List.getElem_mem hl
      · simp [List.getD_eq_getElem?_getD, hl] at hb
  exact this n
theorem desc_prefix {told : List Int} {B : List Bool} {n : Nat} : ∀ {m : Nat}, m ≤ n → desc told B n m <+: desc told B n n := by
  have : ∀ d m, m + d ≤ n → desc told B n m <+: desc told B n (m + d) := by
    intro d
    induction d with
    | zero => intro m _; exact List.prefix_refl _
    | succ d ih => intro m hm; exact (ih m (by omega)).trans (List.prefix_append _ _)
  intro m hm
  have := this (n - m) m (by omega)
  rwa [show m + (n - m) = n by omega] at this
/-- The next that is there still. -/
theorem next_there {B : List Bool} {n : Nat} (hB : B.length = n) (h : 0 < B.count true) (k : Nat) (hk : k < n) : ∃ d, d < n ∧ B.getD ((k + d) % n) false = true := by
  obtain ⟨i, hi, hit⟩ := List.getElem_of_mem (List.count_pos_iff.1 h)
  have hbi : B.getD i false = true := by simp [List.getD_eq_getElem?_getD, hi, hit]
  by_cases hle : k ≤ i
  · refine ⟨i - k, by omega, ?_⟩
    rw [show k + (i - k) = i by omega, Nat.mod_eq_of_lt (by omega)]
    exact hbi
  · refine ⟨i + n - k, by omega, ?_⟩
    rw [show k + (i + n - k) = i + n by omega, Nat.add_mod_right, Nat.mod_eq_of_lt (by omega)]
    exact hbi

set_option maxRecDepth 100000 in
set_option maxHeartbeats 6400000 in
theorem chainOrders_walk {a0 a1 : Int} {w : World} (_w0 : (Lit.int .i64 a0).wf = true) (_w1 : (Lit.int .i64 a1).wf = true) :
    Calls Try.prog 9 #[.int .i64 a0, .int .i64 a1] w fun e w' => e = .returned (.bool true) ∧ Below w.heap.size w w' := by
  have m0 := i64_and255 a0
  have m1 := i64_and255 a1
  obtain ⟨x, hx, hx2⟩ : ∃ x : Nat, a0 % 256 = x ∧ x < 256 := ⟨(a0 % 256).toNat, by omega, by omega⟩
  obtain ⟨st, hst, hst2⟩ : ∃ st : Nat, a1 % 256 = st ∧ st < 256 := ⟨(a1 % 256).toNat, by omega, by omega⟩
  rw [hx] at m0
  rw [hst] at m1
  clear hx hst _w0 _w1
  have HM := Lib.hid (cw_made (Sep.nil w) 50 (by decide) (by decide) (fun _ => ver0))
  go_enter Try.func9, Try.ntmps9
  go_wp2_with fail
  obtain ⟨n, hn, n1, n2⟩ : ∃ n : Nat, ((n : Int) = (x : Int) % 40 + 1) ∧ 1 ≤ n ∧ n ≤ 40 := ⟨x % 40 + 1, by omega, by omega, by omega⟩
  rw [← hn]
  refine HM.out.mono ?_
  rintro e w1 ⟨cb, sb, ab, rfl, hW⟩
  have H1 := Lib.hid (hW.row_nil .u64 28)
  clear hW HM hn m0 hx2
  go_wp2_with fail
  go_loopw [7, 8] (fun lv i wr => ∃ (k : Nat) (L : List Int) (V : Int → Ver), k ≤ n ∧ i = .int .i64 k ∧ L.length = k ∧ CW w cb sb ab 50 0 L.reverse L [] V [obRow .u64 28 lv L] wr) (fun _ i _ => n - (intOf i).toNat)
  case atStart => exact ⟨0, [], _, Nat.zero_le _, rfl, rfl, H1.out⟩
  case round =>
    obtain ⟨k, L, V, hk, rfl, hL, hW⟩ := hrel
    have HW := Lib.hid hW
    have HL := Lib.hid hL
    clear hW hL H1
    by_cases hlt : k < n
    · have HC := Lib.hid (cw_make HW.out (key := k) (v := k) (x := 1) (y := 2) (by rw [HL.out]; omega) (by omega) (by omega) (by omega) (by omega))
      go_wp2_with fail
      refine HC.out.mono ?_
      rintro e w2 ⟨z, rfl, hz, _, z0, z1, hW⟩
      have HZ := Lib.hid hz
      have H2 := Lib.hid hW
      clear hW hz HW HC
      go_wp2_with fail
      refine (cw_push H2.out (z := z) (by simp) (by simpa using HZ.out)).mono ?_
      rintro e w3 ⟨rfl, hW⟩
      have H3 := Lib.hid hW
      clear hW H2
      go_wp2_with fail
      refine (cw_push_no H3.out (z := z) (by omega) (by omega) (.inl (by simp))).mono ?_
      rintro e w4 ⟨rfl, hW⟩
      have H4 := Lib.hid hW
      clear hW H3
      have hLb : L.length ≤ 40 := by have := HL.out; omega
      go_wp2_with (at_builtin; refine walk_append (zero := .int .u64 0) (base := 0) (n := L.length) (m := 1) (xs := L.map (Value.int .u64)) (ys := [.int .u64 z]) rfl _ _ rfl Try.underlying22 info_u64 rfl Nat.zero_lt_one (Nat.le_of_ble_eq_true rfl) rfl (World.ownsRow.alloc H4.out.first _) rfl (SrcAt.one (blk_at (by simp))) (ints_one .u64 [_]) (by omega) (Nat.zero_le _) ?_)
      intro v' w5 hA
      have H5 := Lib.hid (H4.out.turn (A' := obRow .u64 28 v' (L ++ [z])) (fun K hS => hS.append (ys := [z]) ((Mod.refl _ _).alloc _) hA rfl rfl))
      clear hA H4
      have HRV := Lib.hid (show z :: L.reverse = (L ++ [z]).reverse by simp)
      rw [HRV.out] at H5
      go_wp2_with fail
      go_roundw
      case rel => exact ⟨k + 1, L ++ [z], _, by omega, by go_num, by rw [List.length_append, HL.out]; rfl, H5.out⟩
      case measure => simp [intOf]; omega
    · obtain rfl : k = n := by omega
      obtain ⟨gb, cap, hu7⟩ : ∃ g cap, u7 = .slice (some ⟨g, 0, none⟩) k cap := by
        obtain ⟨a, cap, h, _, h2, h3⟩ := Owned.form (HW.out.first : Owned .u64 _ _ u7 L)
        rw [HL.out] at h h2
        cases a with
        | none => have := (h2 rfl).1; omega
        | some g => exact ⟨g.block, cap, by rw [h, ← (h3 g rfl).1]⟩
      subst hu7
      have hmk := make_row Try.underlying61 info_bool rfl (by decide) k (by omega) wr
      have hWB := HW.out.add (A := obBlk wr.heap.size ((List.replicate k false).map Value.bool).toArray 4) (fun K hS => hS.new ((Below.refl _ _).alloc (Nat.le_refl _) (.cells ((List.replicate k false).map Value.bool).toArray 4 (0, 0))) (blk_new _ _) (fun j hj => by have : j = wr.heap.size := hj; omega))
      have HWB := Lib.hid hWB
      clear hWB
      go_wp2_with fail
      generalize wr.heap.size = hb at HWB ⊢
      go_loopw [61] (fun i wr' => ∃ (j : Nat) (B : List Bool), j ≤ k ∧ i = .int .i64 j ∧ B.length = k ∧ (∀ q, q < j → B.getD q false = true) ∧ CW w cb sb ab 50 0 L.reverse L [] V [obHere hb B, obRow .u64 28 (.slice (some ⟨gb, 0, none⟩) k cap) L] wr') (fun i _ => k - (intOf i).toNat)
      case atStart => exact ⟨0, List.replicate k false, Nat.zero_le _, rfl, by simp, fun q hq => by omega, by have := HWB.out; simpa [List.map_replicate, obHere] using this⟩
      case round =>
        obtain ⟨j, B, hj, rfl, hBl, hBt, hW⟩ := hrel
        have H2 := Lib.hid hW
        have hHere : wr.heap[hb]? = _ := hW.first
        clear hW
        by_cases hjk : j < k
        · have cj := blk_cell hHere j
          have zj := blk_free hHere j
          have cj2 : (B.map Value.bool)[j]? = some (.bool (B.getD j false)) := by simp [List.getD_eq_getElem?_getD, hBl, hjk]
          simp only [List.getElem?_toArray] at cj
          rw [cj2] at cj
          have hset := blk_set (i := j) (u := .bool true) hHere
          rw [List.setIfInBounds_toArray, show (Value.bool true) = Value.bool true from rfl, ← List.map_set] at hset
          have H3 := Lib.hid (H2.out.turn (A' := obHere hb (B.set j true)) (fun K hS => hS.step (A' := obHere hb (B.set j true)) hset ((Mod.refl (fun q => q = hb) _).setCell (p := ⟨hb, j, none⟩) (.inl rfl) _) (Grows.refl _ _)))
          clear hset hHere cj2
          generalize B.getD j false = bj at cj
          go_wp2_with fail
          go_roundw
          case rel =>
            refine ⟨j + 1, B.set j true, by omega, by go_num, by simp [hBl], fun q hq => ?_, H3.out⟩
            by_cases e : j = q
            · subst e
              simp [List.getD_eq_getElem?_getD, hBl, hjk]
            · rw [List.getD_eq_getElem?_getD, List.getElem?_set_ne e, ← List.getD_eq_getElem?_getD]
              exact hBt q (by omega)
          case measure => simp [intOf]; omega
        · obtain rfl : j = k := by omega
          have hBa : B = List.replicate j true := by
            apply List.ext_getElem
            · simp [hBl]
            · intro q q1 q2
              have := hBt q (by omega)
              simp [List.getD_eq_getElem?_getD, q1] at this
              simpa using this
          have H3 := H2.out
          rw [← desc_all HL.out, hBa] at H3
          have H3 := Lib.hid H3
          clear H2 hBt hBl hBa hHere HWB
          go_wp2_with fail
          go_loopw [13, 14] (fun kv lv wr' => ∃ (p left : Nat) (B : List Bool), p < j ∧ left ≤ j ∧ kv = .int .i64 p ∧ lv = .int .i64 left ∧ B.length = j ∧ B.count true = left ∧ CW w cb sb ab 50 0 (desc L B j j) L [] V [obHere hb B, obRow .u64 28 (.slice (some ⟨gb, 0, none⟩) j cap) L] wr') (fun _ lv _ => (intOf lv).toNat)
          case atStart => exact ⟨0, j, List.replicate j true, by omega, Nat.le_refl _, rfl, rfl, by simp, by simp, H3.out⟩
          case round =>
            obtain ⟨p, left, B, hp, hleft, rfl, rfl, hBl, hBc, hW⟩ := hrel
            have H4 := Lib.hid hW
            have HBL := Lib.hid hBl
            have HBC := Lib.hid hBc
            clear hW hBl hBc H3
            by_cases hl0 : 0 < left
            · obtain ⟨p1, hp1, hp1l⟩ : ∃ p1 : Nat, ((p : Int) + st) % j = p1 ∧ p1 < j := ⟨(p + st) % j, by simp, Nat.mod_lt _ (by omega)⟩
              have hq0 : (0 : Int) < j := by omega
              go_wp2_with fail
              rw [hp1]
              obtain ⟨d0, hd0, hdt⟩ := next_there HBL.out (by rw [HBC.out]; exact hl0) p1 hp1l
              have HDT := Lib.hid hdt
              clear hp1 hdt
              go_loopg [13] j (fun kx kv wr' => ∃ (p d : Nat), kv = .int .i64 p ∧ p < j ∧ d ≤ kx ∧ B.getD ((p + d) % j) false = true ∧ wr' = wr)
              case atStart => exact ⟨p1, d0, rfl, hp1l, by omega, HDT.out, rfl⟩
              case round =>
                obtain ⟨p2, d, rfl, hp2, hdk, hdt, rfl⟩ := hrel
                have HDT2 := Lib.hid hdt
                clear hdt HDT
                have hHere : wr.heap[hb]? = _ := H4.out.first
                have cp := blk_cell hHere p2
                have zp := blk_free hHere p2
                have cp2 : (B.map Value.bool)[p2]? = some (.bool (B.getD p2 false)) := by simp [List.getD_eq_getElem?_getD, HBL.out, hp2]
                simp only [List.getElem?_toArray] at cp
                rw [cp2] at cp
                clear cp2
                cases hbp : B.getD p2 false
                · rw [hbp] at cp
                  have hd1 : 0 < d := by
                    rcases Nat.eq_zero_or_pos d with h | h
                    · subst h
                      have := HDT2.out
                      rw [Nat.add_zero, Nat.mod_eq_of_lt hp2, hbp] at this
                      cases this
                    · exact h
                  obtain ⟨p3, hp3', hp3, hp3l⟩ : ∃ p3 : Nat, (p2 + 1) % j = p3 ∧ ((p2 : Int) + 1) % j = p3 ∧ p3 < j := ⟨(p2 + 1) % j, rfl, by simp, Nat.mod_lt _ (by omega)⟩
                  have HP3 := Lib.hid hp3'
                  have HB := Lib.hid hbp
                  clear hbp hHere hp3'
                  go_wp2_with fail
                  rw [hp3]
                  go_roundg (d - 1)
                  case measure => omega
                  case rel =>
                    refine ⟨p3, d - 1, rfl, hp3l, Nat.le_refl _, ?_, rfl⟩
                    rw [← HP3.out, Nat.mod_add_mod, show p2 + 1 + (d - 1) = p2 + d by omega]
                    exact HDT2.out
                · rw [hbp] at cp
                  have HB := Lib.hid hbp
                  have hset := blk_set (i := p2) (u := .bool false) hHere
                  rw [List.setIfInBounds_toArray, ← List.map_set] at hset
                  have H5 := Lib.hid (H4.out.turn (A' := obHere hb (B.set p2 false)) (fun K hS => hS.step (A' := obHere hb (B.set p2 false)) hset ((Mod.refl (fun q => q = hb) _).setCell (p := ⟨hb, p2, none⟩) (.inl rfl) _) (Grows.refl _ _)))
                  have hlenL := H4.out.len
                  obtain ⟨_, _, hnd, _, _, hrg⟩ := hlenL
                  have HCUT := Lib.hid (desc_cut HL.out HBL.out hnd hp2 hbp)
                  have HIN := Lib.hid (desc_has (told := L) (n := j) hp2 hbp)
                  have hzr := hrg _ (getD_mem (show p2 < L.length by rw [HL.out]; exact hp2))
                  have hnot : ¬ L.getD p2 0 ∈ desc L (B.set p2 false) j j := by
                    rw [← HCUT.out]
                    exact List.Nodup.not_mem_erase H4.out.len.2.2.2.1
                  have HNOT := Lib.hid hnot
                  have hcl : (B.set p2 false).length = j := by simp [HBL.out]
                  have hcc : (B.set p2 false).count true = left - 1 := by
                    have e1 : B[p2]'(by rw [HBL.out]; exact hp2) = true := by simpa [List.getD_eq_getElem?_getD, HBL.out, hp2] using hbp
                    have := List.count_set (a := false) (b := true) (l := B) (i := p2) (h := by rw [HBL.out]; exact hp2)
                    rw [this, e1, HBC.out]
                    simp
                  have HCL := Lib.hid hcl
                  have HCC := Lib.hid hcc
                  have HRW := Lib.hid (fun W (hW : CW w cb sb ab 50 0 (desc L B j j) L [] V [obHere hb (B.set p2 false), obRow .u64 28 (.slice (some ⟨gb, 0, none⟩) j cap) L] W) => Owned.at_ (hW.drop.first : Owned .u64 _ _ _ L) (i := p2) (by rw [HL.out]; exact hp2))
                  have HRW2 := Lib.hid (fun W (hW : CW w cb sb ab 50 0 (desc L (B.set p2 false) j j) L [] V [obHere hb (B.set p2 false), obRow .u64 28 (.slice (some ⟨gb, 0, none⟩) j cap) L] W) => Owned.at_ (hW.drop.first : Owned .u64 _ _ _ L) (i := p2) (by rw [HL.out]; exact hp2))
                  clear hset hbp hHere hnd hrg hnot hcl hcc HDT2
                  generalize hz : L.getD p2 0 = z at *
                  have HZ := Lib.hid hz
                  clear hz
                  have cz := HRW.out _ H5.out
                  go_wp2_with fail
                  refine (cw_cut H5.out HIN.out).mono ?_
                  rw [HCUT.out]
                  rintro e w6 ⟨rfl, hW⟩
                  have cz2 := HRW2.out _ hW
                  have H6 := Lib.hid hW
                  clear hW H5 cz HRW
                  go_wp2_with fail
                  refine (cw_cut_no H6.out HNOT.out).mono ?_
                  rintro e w7 ⟨rfl, hW⟩
                  have H7 := Lib.hid hW
                  clear hW H6 cz2
                  go_wp2_with fail
                  refine (cw_links H7.out).mono ?_
                  rintro e w8 ⟨xa, xc, rfl, hW⟩
                  have H8 := Lib.hid hW
                  clear hW H7
                  have hNb : (desc L (B.set p2 false) j j).length ≤ 50 := H8.out.len.1
                  have hxx : ∀ W, CW w cb sb ab 50 0 (desc L (B.set p2 false) j j) L [] V [obRow .u64 28 (.slice xa (desc L (B.set p2 false) j j).length xc) (desc L (B.set p2 false) j j), obHere hb (B.set p2 false), obRow .u64 28 (.slice (some ⟨gb, 0, none⟩) j cap) L] W → ∀ q, q < (desc L (B.set p2 false) j j).length → ∃ g, xa = some ⟨g, 0, none⟩ ∧ W.cell? ⟨g, q, none⟩ = some (.int .u64 ((desc L (B.set p2 false) j j).getD q 0)) := fun W hW q hq => by
                    obtain ⟨g, rfl⟩ := some_of (hW.first : Owned .u64 _ _ _ (desc L (B.set p2 false) j j)) (by omega)
                    exact ⟨g, rfl, Owned.at_ (hW.first : Owned .u64 _ _ _ (desc L (B.set p2 false) j j)) hq⟩
                  have HXX := Lib.hid hxx
                  clear hxx HCUT HIN HNOT HRW2 HZ HB H4 HBL HBC
                  generalize B.set p2 false = B' at *
                  go_wp2_with fail
                  go_loopw [16, 17] (fun jv iv wr' => ∃ m : Nat, m ≤ j ∧ jv = .int .i64 (desc L B' j m).length ∧ iv = .int .i64 ((j : Int) - 1 - m) ∧ CW w cb sb ab 50 0 (desc L B' j j) L [] V [obRow .u64 28 (.slice xa (desc L B' j j).length xc) (desc L B' j j), obHere hb B', obRow .u64 28 (.slice (some ⟨gb, 0, none⟩) j cap) L] wr') (fun _ iv _ => (intOf iv + 1).toNat)
                  case atStart => exact ⟨0, Nat.zero_le _, rfl, by simp, H8.out⟩
                  case round =>
                    obtain ⟨m, hm, rfl, rfl, hW⟩ := hrel
                    have H9 := Lib.hid hW
                    clear hW H8
                    by_cases hmj : m < j
                    · obtain ⟨q, hq, hqj⟩ : ∃ q : Nat, (j : Int) - 1 - m = q ∧ q < j := ⟨j - 1 - m, by omega, by omega⟩
                      have hqn : j - 1 - m = q := by omega
                      have hHere : wr.heap[hb]? = _ := H9.out.drop.first
                      have cq := blk_cell hHere q
                      have cq2 : (B'.map Value.bool)[q]? = some (.bool (B'.getD q false)) := by simp [List.getD_eq_getElem?_getD, HCL.out, hqj]
                      simp only [List.getElem?_toArray] at cq
                      rw [cq2] at cq
                      rw [hq]
                      have HQ := Lib.hid (And.intro hq hqn)
                      clear cq2 hHere hq hqn
                      have HST := Lib.hid (show desc L B' j (m + 1) = desc L B' j m ++ (if B'.getD q false then [L.getD q 0] else []) by
                        show desc L B' j m ++ _ = _
                        rw [HQ.out.2])
                      cases hbq : B'.getD q false
                      · rw [hbq] at cq HST
                        have HBQ := Lib.hid hbq
                        clear hbq
                        have hsame := HST.out
                        simp only [Bool.false_eq_true, if_false, List.append_nil] at hsame
                        have HSM := Lib.hid hsame
                        clear hsame HST
                        obtain ⟨lm, hlm⟩ : ∃ lm, (desc L B' j m).length = lm := ⟨_, rfl⟩
                        rw [hlm]
                        have HLM := Lib.hid (show (desc L B' j (m + 1)).length = lm by rw [HSM.out, hlm])
                        clear hlm
                        go_wp2_with fail
                        go_roundw
                        case rel => exact ⟨m + 1, by omega, by rw [HLM.out], by congr 1; have := HQ.out.1; omega, H9.out⟩
                        case measure => simp [intOf]
                      · rw [hbq] at cq HST
                        clear hbq
                        have hsame := HST.out
                        simp only [if_true] at hsame
                        have hpx : desc L B' j (m + 1) <+: desc L B' j j := desc_prefix (by omega)
                        rw [hsame] at hpx
                        have hlt1 : (desc L B' j m).length < (desc L B' j j).length := by
                          have := hpx.length_le
                          simp at this
                          omega
                        have hel : (desc L B' j j).getD (desc L B' j m).length 0 = L.getD q 0 := by
                          obtain ⟨r, hr⟩ := hpx
                          rw [← hr]
                          simp [List.getD_eq_getElem?_getD]
                        obtain ⟨g, rfl, cx⟩ := HXX.out _ H9.out _ hlt1
                        rw [hel] at cx
                        have cl := Owned.at_ (H9.out.drop.drop.first : Owned .u64 _ _ _ L) (i := q) (by rw [HL.out]; exact hqj)
                        have HSM := Lib.hid hsame
                        clear hsame HST hpx hel HXX
                        obtain ⟨lm, hlm⟩ : ∃ lm, (desc L B' j m).length = lm := ⟨_, rfl⟩
                        obtain ⟨N, hN⟩ : ∃ N, (desc L B' j j).length = N := ⟨_, rfl⟩
                        have HLM := Lib.hid (show (desc L B' j (m + 1)).length = lm + 1 by rw [HSM.out, List.length_append, hlm]; rfl)
                        have HN := Lib.hid hN
                        rw [hlm] at cx ⊢
                        rw [hN]
                        rw [hlm, hN] at hlt1
                        rw [hN] at hNb
                        clear hlm hN
                        generalize L.getD q 0 = y at *
                        go_wp2_with fail
                        go_quiet (fail)
                        go_wp2_with fail
                        go_roundw
                        case rel => exact ⟨m + 1, by omega, by rw [HLM.out]; go_num, by congr 1; have := HQ.out.1; omega, by rw [← HN.out]; exact H9.out.later (((Mod.refl (fun _ => False) _).drewN _).below (fun _ h => h.elim) (Nat.le_refl _))⟩
                        case measure => simp [intOf]
                    · obtain rfl : m = j := by omega
                      have e1 : (m : Int) - 1 - m = -1 := by omega
                      simp only [e1]
                      clear e1
                      have H10 := Lib.hid H9.out.drop
                      generalize (desc L B' m m).length = N at *
                      have hl1 : (left : Int) - 1 = ((left - 1 : Nat) : Int) := by omega
                      have HL1 := Lib.hid hl1
                      clear hl1
                      go_wp2_with fail
                      go_roundw
                      case rel => exact ⟨p2, left - 1, B', hp2, by omega, rfl, by rw [HL1.out], HCL.out, HCC.out, H10.out⟩
                      case measure => simp [intOf]; omega
            · obtain rfl : left = 0 := by omega
              have H5 := H4.out
              rw [desc_none HBC.out] at H5
              have H5 := Lib.hid H5
              clear H4
              go_wp2_with fail
              refine (cw_head H5.out).mono ?_
              rintro e w6 ⟨rfl, hW⟩
              have H6 := Lib.hid hW
              clear hW H5
              simp only [List.getD_nil]
              go_wp2_with fail
              refine (cw_len H6.out).mono ?_
              rintro e w7 ⟨rfl, hW⟩
              have H7 := Lib.hid hW.bel
              clear hW H6
              simp only [List.length_nil]
              go_wp2_with fail
              refine (awake9_any _).mono ?_
              rintro e w8 ⟨rfl, b8⟩
              go_wp2_with fail
              go_ret
              exact ⟨rfl, bl_next H7.out b8⟩

end Go.Proofs.Ytjojbfgppgnmjaa
