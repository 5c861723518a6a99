/- Good. -/
import Derived.Test.YtbihfjehlbaahaaJC
namespace Go.Proofs.Ytbihfjehlbaahaa
open Go.RowKit

/-- A list in rising order of those of which something is true. -/
def Rise (l : List Int) (p : Int → Prop) : Prop := l.Pairwise (fun x y => x < y) ∧ ∀ x, x ∈ l ↔ p x
theorem sortI_rise {O : List Int} {p : Int → Prop} (hn : O.Nodup) (hp : ∀ x, x ∈ O ↔ p x) : Rise (sortI O) p := by
  have hperm : (sortI O).Perm O := List.mergeSort_perm O _
  have hle : (sortI O).Pairwise fun x y => decide (x ≤ y) = true := List.pairwise_mergeSort (fun a b c h1 h2 => by simp at h1 h2 ⊢; omega) (fun a b => by simp; omega) O
  have hnd : (sortI O).Nodup := hperm.nodup_iff.2 hn
  refine ⟨?_, fun x => by rw [hperm.mem_iff]; exact hp x⟩
  refine (hle.and hnd).imp ?_
  intro a b h
  have h1 : a ≤ b := by simpa using h.1
  have h2 : a ≠ b := h.2
  omega
theorem rise_eq : ∀ {l m : List Int}, l.Pairwise (fun x y => x < y) → m.Pairwise (fun x y => x < y) → (∀ x, x ∈ l ↔ x ∈ m) → l = m
  | [], [], _, _, _ => rfl
  | [], b :: m, _, _, h => by have := (h b).2 (by simp); simp at this
  | a :: l, [], _, _, h => by have := (h a).1 (by simp); simp at this
  | a :: l, b :: m, h1, h2, h => by
    have g1 := List.pairwise_cons.1 h1
    have g2 := List.pairwise_cons.1 h2
    have e : a = b := by
      have ha := (h a).1 (by simp)
      have hb := (h b).2 (by simp)
      rcases List.mem_cons.1 ha with e | ha
      · exact e
      · rcases List.mem_cons.1 hb with e | hb
        · exact e.symm
        · have := g1.1 b hb
          have := g2.1 a ha
          omega
    subst e
    rw [rise_eq g1.2 g2.2 (fun x => ?_)]
    refine ⟨fun hx => ?_, fun hx => ?_⟩
    · rcases List.mem_cons.1 ((h x).1 (by simp [hx])) with e | hm
      · have := g1.1 x hx; omega
      · exact hm
    · rcases List.mem_cons.1 ((h x).2 (by simp [hx])) with e | hm
      · have := g2.1 x hx; omega
      · exact hm
theorem Rise.eq {l m : List Int} {p q : Int → Prop} (h : Rise l p) (k : Rise m q) (hpq : ∀ x, p x ↔ q x) : l = m := rise_eq h.1 k.1 (fun x => by rw [h.2, k.2, hpq])

/-- Who is free behind a good end. -/
def Bs.frees (s : Bs) (id x : Int) : Prop := x ∈ s.ids ∧ (s.st x = 1 ∨ s.st x = 2) ∧ id ∈ s.on x ∧ ∀ z ∈ s.on x, s.st z = 3
inductive GoodTo (s : Bs) (id : Int) : Int → List Int → Bs → Prop where
  | none : id ∉ s.ids → GoodTo s id 11 [] s
  | over : id ∈ s.ids → s.st id ≠ 1 → GoodTo s id 7 [] s
  | wait : id ∈ s.ids → s.st id = 1 → (∃ z ∈ s.on id, s.st z ≠ 3) → GoodTo s id 18 [] s
  | good {l : List Int} : id ∈ s.ids → s.st id = 1 → (∀ z ∈ s.on id, s.st z = 3) → Rise l ((s.turn id 3).frees id) → GoodTo s id 0 l (s.turn id 3)
theorem Sep.other {w0 w w' : World} {L : List Ob} {G : Nat → Prop} (h : Sep w0 w L) (hm : Mod G w w') (hG : ∀ g, G g → w0.heap.size ≤ g) (ha : ∀ o ∈ L, Apart o.F G) : Sep w0 w' L :=
  ⟨h.bel.trans (hm.below hG h.bel.size), fun o ho => ⟨o.keep w w' G (h.each o ho).1 hm (ha o ho), (h.each o ho).2⟩, h.apart⟩
theorem waits_nil {s : Bs} {id : Int} (hid : id ∈ s.ids) : (s.forOf id).length = 0 ↔ ∀ z ∈ s.on id, s.st z = 3 := by
  unfold Bs.forOf
  rw [if_pos hid, sortI_len, List.length_eq_zero_iff]
  unfold Bs.waits
  rw [List.filter_eq_nil_iff]
  simp
/-- What Good and Bad hand back. -/
def Told (w : World) (c : Int) (l : List Int) (e : Ending) (w' : World) : Prop := ∃ v, e = .returned (.tuple #[v, .int .i64 c]) ∧ RowAt .i64 w' v l ∧ ∀ g, v.ownBlock = some g → w.heap.size ≤ g

set_option maxRecDepth 100000 in
set_option maxHeartbeats 6400000 in
theorem good_any {w : World} {b : Nat} {F : Nat → Prop} {s : Bs} (h : BondsAt w b F s) {id : Int} (hw1 : (Lit.int .i64 id).wf = true) :
    Calls Try.prog 20 #[.pointer (some ⟨b, 0, none⟩), .int .i64 id] w fun e w' => ∃ c l s', GoodTo s id c l s' ∧ Told w c l e w' ∧ KeptB w b F s' w' := by
  have H0 := Lib.hid h
  obtain ⟨mb, blk, row, role, D, hF, h⟩ := h
  have c0 := h.top0
  have HFF := Lib.hid hF
  clear hF
  by_cases hi : id ∈ s.ids
  · have hl := h.look_in hi
    have c1 := h.node0 hi
    by_cases h1 : s.st id = 1
    · rw [h1] at c1
      have hwt := bwaits_any H0.out hw1
      by_cases hz : (s.forOf id).length = 0
      · rw [hz] at hwt
        have HWT := Lib.hid hwt
        have HZ := Lib.hid ((waits_nil hi).1 hz)
        have HB := Lib.hid h
        clear hwt hz h
        go_enter Try.func20, Try.ntmps20
        go_wp2_with fail
        refine HWT.out.mono ?_
        rintro e w1 ⟨rfl, hb1⟩
        have HB1 := Lib.hid (HB.out.below hb1)
        have c0 := HB1.out.top0
        have c1 := HB1.out.node0 hi
        rw [h1] at c1
        have hfz := blk_free (HB1.out.node id hi) 0
        have HB2 := Lib.hid (HB1.out.turn hi (v := 3) (.inr (.inr (.inl rfl))))
        have HM2 := Lib.hid (show Mod (fun g => role g ≠ .none) w (w1.setCell ⟨blk id, 0, none⟩ (.int .i64 3)) from (Mod.of_below hb1).setCell (.inl (by rw [HB1.out.rn id hi]; simp)) _)
        have HMAP := Lib.hid (HB2.out.map)
        have HIS := Lib.hid (HB2.out.is)
        have hsc := size_set w1 ⟨blk id, 0, none⟩ (.int .i64 3)
        have c2 := HB2.out.top0
        clear hb1 HB1 HB HWT
        go_wp2_with (at_range; refine wpList_range_own _ rfl _ _ rfl 3 85 bond_key Try.underlying82 nodeElem mb s.ids.length D rfl HMAP.out ?_)
        intro w3 hrg3 hg3 hs3
        have hB2 := HB2.out
        have hM2 := HM2.out
        clear HB2 HM2 HMAP c2 c0 c1 hfz
        generalize w1.setCell ⟨blk id, 0, none⟩ (.int .i64 3) = w2 at *
        have hm3 : Mod (fun _ => False) w2 w3 := Mod.of_grown hg3 (fun k hk => by cases hk)
        have HB2 := Lib.hid (fun (W : World) (hb : Below w2.heap.size w2 W) => hB2.below hb)
        have HM2 := Lib.hid hM2
        have HS3 := Lib.hid (((Sep.nil w2).still hm3).row_nil .i64 3)
        have HRG := Lib.hid hrg3
        have hsz3 : w.heap.size ≤ w2.heap.size := hM2.size
        have hfew : s.ids.length ≤ 2000 := hB2.good.few
        rw [← hsc] at HRG
        clear hrg3 hg3 hs3 hm3 hB2 hM2
        rw [← hsc]
        clear hsc
        go_wp2_with fail
        go_loopg [7] (Go.Maps.size D) (fun kx ov wr => ∃ O left cnt, Hid (O.Nodup ∧ ∀ y, y ∈ O ↔ left (.int .i64 y) = false ∧ (s.turn id 3).frees id y) ∧ Hid (Sep w2 wr [obRow .i64 3 ov O]) ∧ Hid (wr.ranges Try.prog 3 nodeElem mb w2.heap.size s.ids.length D left cnt) ∧ Hid (ov.ownBlock ≠ some w2.heap.size) ∧ cnt ≤ kx)
        case atStart => exact ⟨[], Go.Maps.has D, _, Lib.hid ⟨by simp, fun y => ⟨fun h => by simp at h, fun h => by have := (HIS.out y).1; rw [h.1] at this; exact absurd h.2.1 (of_decide_eq_false this.symm)⟩⟩, HS3, HRG, Lib.hid (by simp [Value.ownBlock]), Nat.le_refl _⟩
        case round =>
          obtain ⟨O, left, cnt, HO, HSi, HRi, HQi, hck⟩ := hrel
          clear HS3 HRG
          go_wp2_with (at_next; refine next_nodes _ rfl _ rfl rfl HRi.out HIS.out ?_ ?_)
          · intro _ hl0
            have hrise : Rise (sortI O) ((s.turn id 3).frees id) := sortI_rise HO.out.1 (fun x => by rw [HO.out.2 x, hl0]; simp)
            have HRS := Lib.hid hrise
            have hOl : O.length ≤ s.ids.length := nodup_le HO.out.1 (fun x hx => ((HO.out.2 x).1 hx).2.1)
            obtain ⟨oa, oc, hov, ho1, ho2, ho3⟩ := Owned.form (HSi.out.head : Owned .i64 3 wr u7 O)
            subst hov
            have HSO := Lib.hid (sort_own (HSi.out.head : Owned .i64 3 wr _ O) (by omega))
            have HO2 := Lib.hid ho2
            have HO3 := Lib.hid ho3
            clear ho2 ho3 hl0 hrise hOl
            go_wp2_with fail
            refine HSO.out.mono ?_
            rintro e w4 ⟨rfl, hO4, hg4⟩
            have HQ := Lib.hid hO4
            have HS4 := Lib.hid (HSi.out.step (A' := obRow .i64 3 (.slice oa O.length oc) (sortI O)) hO4 (Mod.of_grown hg4 (fun k hk => .inl hk)) (Grows.refl _ _))
            clear hO4 hg4 HSO
            go_wp2_with fail
            refine (clip_int oa O.length oc w4 ho1 HO2.out HO3.out).mono ?_
            rintro e w5 ⟨rfl, rfl⟩
            go_wp2_with fail
            go_ret2
            have hbel := HS4.out.bel
            refine ⟨0, sortI O, s.turn id 3, .good hi h1 HZ.out HRS.out, ⟨.slice oa O.length O.length, rfl, Owned.clip HQ.out (sortI_len O).symm, fun g hg => ?_⟩, KeptB.of HFF.out (HB2.out w4 hbel) (HM2.out.trans (Mod.of_below hbel))⟩
            cases oa with
            | none => simp [Value.ownBlock] at hg
            | some ag => exact Nat.le_trans hsz3 ((HS4.out.each (obRow .i64 3 (.slice (some ag) O.length oc) (sortI O)) (by simp)).2 g hg)
          · intro y w4 cnt1 hy hly hrg4 hlt hm4 hen
            have HS4 := Lib.hid (HSi.out.other hm4 (fun g hg => Nat.le_of_eq hg.symm) (fun o ho g hg e => by simp at ho; subst ho; subst e; exact HQi.out hg))
            have hB4 := HB2.out w4 HS4.out.bel
            have HR4 := Lib.hid hrg4
            have cy0 := hB4.node0 hy
            have cy1 := hB4.node1 hy
            have hrow : Owned .i64 3 w4 (row y) (s.on y) := hB4.rows y hy
            obtain ⟨ra, rc, hrv, -, -, -⟩ := hrow.form
            rw [hrv] at cy1 hrow
            have hopen := bopen_any cy0
            have hcon := contains_any (Owned.row hrow) id
            have hyw : (Lit.int .i64 y).wf = true := by have := hB4.good.pos y hy; exact wf_int (by omega) this.2
            have hwt := bwaits_any ⟨mb, blk, row, role, D, fun _ => Iff.rfl, hB4⟩ hyw
            have HNO := Lib.hid (show ¬ (s.turn id 3).frees id y → (O.Nodup ∧ ∀ u, u ∈ O ↔ (left (.int .i64 u) && !(Lit.int .i64 u).sameKey (.int .i64 y)) = false ∧ (s.turn id 3).frees id u) from fun hn => ⟨HO.out.1, fun u => by
              rw [HO.out.2 u]
              refine ⟨fun h => ⟨by rw [h.1]; rfl, h.2⟩, fun h => ⟨?_, h.2⟩⟩
              rcases struck_int h.1 with rfl | h5
              · exact absurd h.2 hn
              · exact h5⟩)
            clear hrg4 hm4 HRi HSi hB4 hrv
            by_cases ho : (s.turn id 3).st y = 1 ∨ (s.turn id 3).st y = 2
            · simp only [ho, decide_true] at hopen
              have HOP := Lib.hid hopen
              by_cases hc : id ∈ s.on y
              · simp only [hc, decide_true] at hcon
                have HCN := Lib.hid hcon
                by_cases hz : ((s.turn id 3).forOf y).length = 0
                · rw [hz] at hwt
                  have HWT := Lib.hid hwt
                  have hfr : (s.turn id 3).frees id y := ⟨hy, ho, hc, (waits_nil hy).1 hz⟩
                  have HON := Lib.hid (show ((O ++ [y]).Nodup ∧ ∀ u, u ∈ O ++ [y] ↔ (left (.int .i64 u) && !(Lit.int .i64 u).sameKey (.int .i64 y)) = false ∧ (s.turn id 3).frees id u) from ⟨List.nodup_append.2 ⟨HO.out.1, by simp, fun a ha b hb e => by
                      simp only [List.mem_singleton] at hb
                      subst e hb
                      have := ((HO.out.2 a).1 ha).1
                      rw [hly] at this
                      cases this⟩, fun u => by
                    rw [List.mem_append, List.mem_singleton, HO.out.2 u]
                    refine ⟨fun h => ?_, fun h => ?_⟩
                    · rcases h with h | rfl
                      · exact ⟨by rw [h.1]; rfl, h.2⟩
                      · exact ⟨by rw [sameKey_int]; simp, hfr⟩
                    · rcases struck_int h.1 with e | h5
                      · exact .inr e
                      · exact .inl ⟨h5, h.2⟩⟩)
                  have hOl : O.length + 1 ≤ 1099511627776 := by have := nodup_le HO.out.1 (fun x hx => ((HO.out.2 x).1 hx).2.1); have : (s.turn id 3).ids.length = s.ids.length := rfl; omega
                  clear hopen hcon hwt HNO ho hc hz hfr hrow hyw HO
                  go_wp2_with (first | (go_at_call 47; refine HOP.out.mono ?_; rintro e w' ⟨rfl, rfl⟩) | (go_at_call 48; refine HCN.out.mono ?_; rintro e w' ⟨rfl, rfl⟩))
                  refine HWT.out.mono ?_
                  rintro e w5 ⟨rfl, hb5⟩
                  have HS5 := Lib.hid (HS4.out.below hb5)
                  have HR5 := Lib.hid (ranges_mod HR4.out (Mod.of_below (F := fun _ => False) hb5) (fun h => h) (fun h => h))
                  have HR := Lib.hid (HS5.out.head : Owned .i64 3 w5 u7 O)
                  clear hb5 HWT HOP HCN HS4 HR4
                  go_wp2_with (at_builtin; refine walk_append (zero := .int .i64 0) (base := 0) (n := O.length) (m := 1) (xs := O.map (Value.int .i64)) (ys := [.int .i64 y]) rfl (.tmp 59) (.tmp 61) rfl Try.underlying25 info_int rfl Nat.zero_lt_one (Nat.le_of_ble_eq_true rfl) rfl (World.ownsRow.alloc HR.out _) rfl (SrcAt.one (blk_at (by simp))) (ints_one .i64 [_]) hOl (Nat.zero_le _) ?_)
                  intro v' w6 hA
                  have HS6 := Lib.hid (HS5.out.append (ys := [y]) ((Mod.refl _ _).alloc _) hA rfl rfl)
                  have hm6 : Mod (fun g => u7.ownBlock = some g) w5 w6 := ((Mod.refl (fun g => u7.ownBlock = some g) _).alloc _).trans (hA.mod (fun _ h => h))
                  have HR6 := Lib.hid (ranges_mod HR5.out hm6 (fun e => by have := (HS5.out.each (obRow .i64 3 u7 O) (by simp)).2 mb e; have := HB2.out w2 (Below.refl _ _) |>.lt mb (by rw [(HB2.out w2 (Below.refl _ _)).rm]; simp); omega) HQi.out)
                  have HQ6 := Lib.hid (show v'.ownBlock ≠ some w2.heap.size from fun e => by
                    rcases hA.lies with e2 | e2
                    · exact HQi.out (e2 ▸ e)
                    · rw [e2] at e
                      have h8 := Option.some.inj e
                      rw [World.size_alloc] at h8
                      have := HR5.out.lt
                      omega)
                  clear hA hm6 HR HR5 HS5
                  go_wp2_with fail
                  go_roundg cnt1
                  case rel => exact ⟨O ++ [y], (fun z => left z && !z.sameKey (.int .i64 y)), cnt1, HON, HS6, HR6, HQ6, Nat.le_refl _⟩
                  case measure => omega
                · have hz0 : ((((s.turn id 3).forOf y).length : Int) == 0) = false := by simpa using hz
                  have HWT := Lib.hid hwt
                  have HON := Lib.hid (HNO.out (fun h => hz ((waits_nil hy).2 h.2.2.2)))
                  clear hopen hcon hwt HNO ho hc hz hrow hyw HO
                  go_wp2_with (first | (go_at_call 47; refine HOP.out.mono ?_; rintro e w' ⟨rfl, rfl⟩) | (go_at_call 48; refine HCN.out.mono ?_; rintro e w' ⟨rfl, rfl⟩))
                  refine HWT.out.mono ?_
                  rintro e w5 ⟨rfl, hb5⟩
                  have HS5 := Lib.hid (HS4.out.below hb5)
                  have HR5 := Lib.hid (ranges_mod HR4.out (Mod.of_below (F := fun _ => False) hb5) (fun h => h) (fun h => h))
                  clear hb5 HWT HOP HCN HS4 HR4
                  go_wp2_with fail
                  go_roundg cnt1
                  case rel => exact ⟨O, (fun z => left z && !z.sameKey (.int .i64 y)), cnt1, HON, HS5, HR5, HQi, Nat.le_refl _⟩
                  case measure => omega
              · simp only [hc, decide_false] at hcon
                have HCN := Lib.hid hcon
                have HON := Lib.hid (HNO.out (fun h => hc h.2.2.1))
                clear hopen hcon hwt HNO ho hc hrow hyw HO
                go_wp2_with (first | (go_at_call 47; refine HOP.out.mono ?_; rintro e w' ⟨rfl, rfl⟩) | (go_at_call 48; refine HCN.out.mono ?_; rintro e w' ⟨rfl, rfl⟩))
                go_roundg cnt1
                case rel => exact ⟨O, (fun z => left z && !z.sameKey (.int .i64 y)), cnt1, HON, HS4, HR4, HQi, Nat.le_refl _⟩
                case measure => omega
            · simp only [ho, decide_false] at hopen
              have HOP := Lib.hid hopen
              have HON := Lib.hid (HNO.out (fun h => ho h.2.1))
              clear hopen hcon hwt HNO ho hrow hyw HO
              go_wp2_with (go_at_call 47; refine HOP.out.mono ?_; rintro e w' ⟨rfl, rfl⟩)
              go_roundg cnt1
              case rel => exact ⟨O, (fun z => left z && !z.sameKey (.int .i64 y)), cnt1, HON, HS4, HR4, HQi, Nat.le_refl _⟩
              case measure => omega
      · have hp : (0 : Int) < ((s.forOf id).length : Int) := by omega
        have HWT := Lib.hid hwt
        have hex : ∃ z ∈ s.on id, s.st z ≠ 3 := Classical.byContradiction fun hn => hz ((waits_nil hi).2 fun z hz => Classical.byContradiction fun h3 => hn ⟨z, hz, h3⟩)
        have HEX := Lib.hid hex
        clear hwt hz h hex
        go_enter Try.func20, Try.ntmps20
        go_wp2_with fail
        refine HWT.out.mono ?_
        rintro e w1 ⟨rfl, hb1⟩
        go_wp2_with fail
        go_ret2
        exact ⟨_, _, _, .wait hi h1 HEX.out, ⟨_, rfl, RowAt.nil _ _, fun g hg => by simp [Value.ownBlock] at hg⟩, KeptB.still H0.out (Mod.of_below hb1)⟩
    · have hb1 : (s.st id != 1) = true := by simpa using h1
      clear h
      go_enter Try.func20, Try.ntmps20
      go_wp2
      go_ret2
      exact ⟨_, _, _, .over hi h1, ⟨_, rfl, RowAt.nil _ _, fun g hg => by simp [Value.ownBlock] at hg⟩, KeptB.still H0.out (Mod.refl _ _)⟩
  · have hl := h.look_out hi hw1
    clear h
    go_enter Try.func20, Try.ntmps20
    go_wp2
    go_ret2
    exact ⟨_, _, _, .none hi, ⟨_, rfl, RowAt.nil _ _, fun g hg => by simp [Value.ownBlock] at hg⟩, KeptB.still H0.out (Mod.refl _ _)⟩
end Go.Proofs.Ytbihfjehlbaahaa
