/- Bad. -/
import Derived.Test.YtbihfjehlbaahaaJD
import Derived.Shelf.SlicesE.DeleteFunc
namespace Go.Proofs.Ytbihfjehlbaahaa
open Go.RowKit Go.Shelf Go.Sort

def laysDelete_ren : Go.Shelf.Ren := ⟨fun | 10 => 53 | 6 => 77 | n => n, fun | 22 => 25 | 23 => 3 | 25 => 93 | 3 => 3 | 4 => 4 | 0 => 0 | n => n, fun | n => n⟩
theorem laysDelete : Go.Proofs.SlLaysH.n10 Try.prog laysDelete_ren := {
  mixed := by kernel_rfl
  f6 := ⟨Try.f77.name, by decide, Try.func77.trans (congrArg some (by kernel_rfl))⟩
  f10 := ⟨Try.f53.name, by decide, Try.func53.trans (congrArg some (by kernel_rfl))⟩
  t0 := Try.underlying0
  a0 := Try.isAgg0
  z0 := Try.sizeOf0
  v0 := Try.zeroValue0
  t3 := Try.underlying3
  a3 := Try.isAgg3
  z3 := Try.sizeOf3
  v3 := Try.zeroValue3
  t4 := Try.underlying4
  a4 := Try.isAgg4
  z4 := Try.sizeOf4
  v4 := Try.zeroValue4
  t22 := Try.underlying25
  a22 := Try.isAgg25
  z22 := Try.sizeOf25
  v22 := Try.zeroValue25
  a23 := Try.isAgg3
  z23 := Try.sizeOf3
  t25 := Try.underlying93
  a25 := Try.isAgg93
  z25 := Try.sizeOf93
  v25 := Try.zeroValue93 }

/-- The closure that tells the one that ended. -/
theorem isOne_gives (id x : Int) (B : Nat) (W : World) (hc : W.cell? ⟨B, 0, none⟩ = some (.int .i64 id)) : FnGives Try.prog 54 #[.pointer (some ⟨B, 0, none⟩)] #[.int .i64 x] (.bool (x == id)) W := by
  show Calls Try.prog 54 #[.int .i64 x, .pointer (some ⟨B, 0, none⟩)] W _
  go_enter Try.func54, Try.ntmps54
  go_wp2
  go_ret
  exact ⟨rfl, 0, rfl⟩
theorem isOne_pred (id : Int) (B : Nat) (w : World) (hB : B < w.heap.size) (hc : w.cell? ⟨B, 0, none⟩ = some (.int .i64 id)) : PredAt Try.prog 54 #[.pointer (some ⟨B, 0, none⟩)] (Value.int .i64) (fun x => x == id) w :=
  fun W x hb => isOne_gives id x B W ((hb.cell (p := ⟨B, 0, none⟩) hB).trans hc)
theorem isOne_over (id : Int) (B blk off size : Nat) (w : World) (hB : B < w.heap.size) (hne : B ≠ blk) (hc : w.cell? ⟨B, 0, none⟩ = some (.int .i64 id)) : PredOver Try.prog 54 #[.pointer (some ⟨B, 0, none⟩)] (Value.int .i64) (fun x => x == id) blk off size w :=
  fun n os dk x _ => isOne_gives id x B _ (by
    unfold sortWorld
    rw [cell?_grow _ _ _ (by show B < (putRow _ _ _ _ _).heap.size; rw [size_putRow]; exact hB), cell?_putRow_other _ _ blk off _ _ (Or.inl hne)]
    exact hc)

set_option maxHeartbeats 800000 in
theorem index_none (fv : Value) (w : World) : Calls Try.prog 77 #[.slice none 0 0, fv] w fun e w' => e = .returned (.int .i64 (-1)) ∧ w = w' := by
  go_enter Try.func77, Try.ntmps77
  go_wp2_with fail
  refine wp_loop_rounds 1 ?_
  rw [rounds_succ]
  go_wp2_with fail
  go_ret
  exact ⟨rfl, rfl⟩
set_option maxHeartbeats 800000 in
theorem delete_own {w : World} {v : Value} {l : List Int} (h : Owned .i64 3 w v l) (hl : l.length ≤ 100000) {B : Nat} {id : Int} (hB : B < w.heap.size) (hc : w.cell? ⟨B, 0, none⟩ = some (.int .i64 id)) (hne : v.ownBlock ≠ some B) :
    Calls Try.prog 53 #[v, .func (.func 54) #[] #[.pointer (some ⟨B, 0, none⟩)]] w fun e w' => ∃ v', e = .returned v' ∧ Owned .i64 3 w' v' (l.filter fun x => !(x == id)) ∧ v'.ownBlock = v.ownBlock ∧ Mod (fun g => v.ownBlock = some g) w w' := by
  have eg : ∀ args w, (callFunc 54 args).run Try.prog w = .ok (.enter 54 args) w := enters_of Try.func54 (by kernel_rfl) rfl
  rcases h.2 with ⟨hv, hn⟩ | ⟨g, cap, cur, hv, hg, hh, h1, h2, h3, h4⟩
  · have hl0 : l = [] := List.length_eq_zero_iff.1 hn
    subst hl0 hv
    have H := Lib.hid h
    clear h hn
    go_enter Try.func53, Try.ntmps53
    go_wp2_with (go_at_call 77; refine (index_none _ _).mono ?_; rintro e w' ⟨rfl, rfl⟩)
    go_ret
    exact ⟨_, rfl, H.out, rfl, Mod.refl _ _⟩
  · subst hv
    have hH := holds_of_blockI hh (by rw [Nat.mul_one] at h4; exact h4)
    have hgB : B ≠ g := fun e => hne (by rw [e]; rfl)
    have hcon := AnyE.slices_DeleteFunc laysDelete (Value.int .i64) (fun _ => rfl) (fun x => x == id) 54 #[.pointer (some ⟨B, 0, none⟩)] eg 0 (fun _ => by kernel_rfl) g 0 cap l.toArray w (isOne_pred id B w hB hc) (isOne_over id B g 0 _ w hB hgB hc) hH (by simp; omega) (by simpa using h1)
    change Calls Try.prog 53 _ _ _ at hcon
    simp only [List.size_toArray] at hcon
    refine hcon.mono ?_
    rintro e w' ⟨rfl, q, rfl⟩
    have hle : (l.filter fun x => !(x == id)).length ≤ l.length := List.length_filter_le _ _
    have hts : ((l.filter fun x => !(x == id)) ++ List.replicate (l.length - (l.filter fun x => !(x == id)).length) (0 : Int)).length = l.length := by simp; omega
    have ho := ownsRow_sortedI (n := q) (os := #[]) (ts := (l.filter fun x => !(x == id)) ++ List.replicate (l.length - (l.filter fun x => !(x == id)).length) (0 : Int)) hts (Nat.zero_le g) hh h1 h2 h3
    have hg2 := grownBy_sortedI (w := w) (g := g) (n := q) (os := #[]) ((l.filter fun x => !(x == id)) ++ List.replicate (l.length - (l.filter fun x => !(x == id)).length) (0 : Int)).toArray
    rw [grow_empty] at ho hg2
    refine ⟨_, rfl, ?_, rfl, Mod.of_grown hg2 (fun k hk => .inl hk)⟩
    generalize List.replicate (l.length - (l.filter fun x => !(x == id)).length) (0 : Int) = R at *
    rw [← hts] at ho
    exact Owned.front ho rfl

inductive BadTo (s : Bs) (id : Int) : Int → List Int → Bs → Prop where
  | none : id ∉ s.ids → BadTo s id 11 [] s
  | over : id ∈ s.ids → ¬ (s.st id = 1 ∨ s.st id = 2) → BadTo s id 7 [] s
  | bad {P l : List Int} : id ∈ s.ids → (s.st id = 1 ∨ s.st id = 2) → (∀ y, y ∈ P ↔ Doom s id y) → Rise l (fun x => Doom s id x ∧ s.st x = 1 ∧ x ≠ id) → BadTo s id 0 l ((s.doomed P).turn id 4)
theorem rise_filter {l : List Int} {p : Int → Prop} (h : Rise l p) (q : Int → Bool) : Rise (l.filter q) (fun x => p x ∧ q x = true) := ⟨h.1.filter q, fun x => by rw [List.mem_filter, h.2]⟩

set_option maxRecDepth 100000 in
set_option maxHeartbeats 3200000 in
theorem bad_any {w : World} {b : Nat} {F : Nat → Prop} {s : Bs} (h : BondsAt w b F s) {id : Int} (hw1 : (Lit.int .i64 id).wf = true) :
    Calls Try.prog 23 #[.pointer (some ⟨b, 0, none⟩), .int .i64 id] w fun e w' => ∃ c l s', BadTo s id c l s' ∧ Told w c l e w' ∧ KeptB w b F s' w' := by
  have H0 := Lib.hid h
  obtain ⟨mb, blk, row, role, D, hF, h⟩ := h
  have hmw : Mod (fun _ => False) w (w.alloc (.cells #[.int .i64 id] 3)) := (Mod.refl _ w).alloc _
  have c0 := (h.mod hmw (fun _ _ h => h)).top0
  have cb := (blk_cell (blk_at (w := w) (o := .cells #[.int .i64 id] 3) rfl) 0).trans rfl
  have HB := Lib.hid (fun n => (h.mod (hmw.drewN n) (fun _ _ h => h) : BA ((w.alloc (.cells #[.int .i64 id] 3)).drewN n) b mb blk row role D s))
  have HMW := Lib.hid hmw
  have HFF := Lib.hid hF
  have HLW := Lib.hid h.lt
  clear hF hmw
  by_cases hi : id ∈ s.ids
  · have hl := fun n => (HB.out n).look_in hi
    clear h
    go_enter Try.func23, Try.ntmps23
    go_wp2_with fail
    go_quiet (fail)
    have HBQ := Lib.hid (HB.out nq)
    have HM := Lib.hid (HMW.out.drewN nq)
    have HBX := Lib.hid (show ((w.alloc (.cells #[.int .i64 id] 3)).drewN nq).heap[w.heap.size]? = some (.cells #[.int .i64 id] 3 (0, 0)) from blk_at rfl)
    generalize (w.alloc (.cells #[.int .i64 id] 3)).drewN nq = wq at *
    clear c0 hl HB cb HMW
    have cb := (blk_cell HBX.out 0).trans rfl
    have cx0 := HBQ.out.node0 hi
    have HO := Lib.hid (bopen_any cx0)
    by_cases ho : s.st id = 1 ∨ s.st id = 2
    · have ho' := HO.out
      simp only [ho, decide_true] at ho'
      have HOP := Lib.hid ho'
      have HDM := Lib.hid (doom_any HBQ.out hi)
      clear ho' HO
      go_wp2_with (go_at_call 47; refine HOP.out.mono ?_; rintro e w' ⟨rfl, rfl⟩)
      refine HDM.out.mono ?_
      rintro e w2 ⟨P, v, hP, hnd, rfl, hO, hn, hB2, hM2⟩
      have hws : w.heap.size < wq.heap.size := blk_lt HBX.out
      have hb2 := hM2.keep HBX.out (fun hr => by have := HLW.out _ hr; omega)
      have cb2 := (blk_cell hb2 0).trans rfl
      have hPi : ∀ y ∈ P, y ∈ s.ids := fun y hy => by
        have := (hP y).1 hy
        cases this with
        | self => exact hi
        | step _ h _ _ => exact h
      have hPl := nodup_le hnd hPi
      have hOl : (sortI (s.outOf P)).length ≤ 100000 := by
        rw [sortI_len]
        have : (s.outOf P).length ≤ P.length := List.length_filter_le _ _
        have := HBQ.out.good.few
        omega
      have hvb : v.ownBlock ≠ some w.heap.size := fun e => by have := hn _ e; omega
      have HDE := Lib.hid (delete_own hO hOl (blk_lt hb2) cb2 hvb)
      have hrise : Rise ((sortI (s.outOf P)).filter fun x => !(x == id)) (fun x => Doom s id x ∧ s.st x = 1 ∧ x ≠ id) := by
        have h1 : Rise (sortI (s.outOf P)) (fun x => Doom s id x ∧ s.st x = 1) := sortI_rise (hnd.filter _) (fun x => by unfold Bs.outOf; rw [List.mem_filter, hP x]; simp)
        refine ⟨(rise_filter h1 _).1, fun x => ?_⟩
        rw [(rise_filter h1 _).2 x]
        simp [and_assoc]
      have HRI := Lib.hid hrise
      have HP := Lib.hid hP
      have HB2 := Lib.hid hB2
      have HM2 := Lib.hid (show Mod (fun g => role g ≠ .none) w w2 from (HM.out.mono (fun _ h => h.elim)).trans hM2)
      have HN := Lib.hid (show ∀ g, v.ownBlock = some g → w.heap.size < g from fun g hg => by have := hn g hg; omega)
      generalize (sortI (s.outOf P)).filter (fun x => !(x == id)) = lf at *
      clear hrise hP hB2 hM2 hn hO hOl hvb hPl hPi hnd hb2 cb cx0 HOP HDM HBX
      go_wp2_with fail
      refine HDE.out.mono ?_
      rintro e w3 ⟨v', rfl, hO3, hv3, hM3⟩
      have HB3 := Lib.hid (HB2.out.mod hM3 (fun g hr hg => by have := HN.out g hg; have := HLW.out g hr; omega))
      have HM4 := Lib.hid (HM2.out.next hM3 (fun g hg => .inr (Nat.le_of_lt (HN.out g hg))))
      have cx := HB3.out.node0 hi
      have fx := blk_free (HB3.out.node id hi) 0
      have HT := Lib.hid (HB3.out.turn hi (v := 4) (.inr (.inr (.inr rfl))))
      have hm5 : Mod (fun g => g = blk id) w3 (w3.setCell ⟨blk id, 0, none⟩ (.int .i64 4)) := Mod.setCell (F := fun g => g = blk id) (Mod.refl _ w3) (p := ⟨blk id, 0, none⟩) (.inl rfl) _
      have HO5 := Lib.hid (hO3.mod hm5 (fun g hg e => by rw [hv3] at hg; have := HN.out g hg; have := HLW.out (blk id) (by rw [HB3.out.rn id hi]; simp); omega))
      have HM5 := Lib.hid (show Mod (fun g => role g ≠ .none) w (w3.setCell ⟨blk id, 0, none⟩ (.int .i64 4)) from HM4.out.trans (hm5.mono (fun g hg => .inl (by rw [hg, HB3.out.rn id hi]; simp))))
      obtain ⟨oa, oc, hov, ho1, ho2, ho3⟩ := Owned.form HO5.out
      subst hov
      have HV := Lib.hid hv3
      have HO2 := Lib.hid ho2
      have HO3 := Lib.hid ho3
      clear ho2 ho3 hv3 hM3 hO3 hm5 HDE
      go_wp2_with fail
      refine (clip_int oa lf.length oc _ ho1 HO2.out HO3.out).mono ?_
      rintro e w5 ⟨rfl, rfl⟩
      go_wp2_with fail
      go_ret2
      refine ⟨_, _, _, .bad hi ho HP.out HRI.out, ⟨.slice oa lf.length lf.length, rfl, Owned.clip HO5.out rfl, fun g hg => ?_⟩, KeptB.of HFF.out HT.out HM5.out⟩
      cases oa with
      | none => simp [Value.ownBlock] at hg
      | some ag => exact Nat.le_of_lt (HN.out g (HV.out ▸ hg))
    · have ho' := HO.out
      simp only [ho, decide_false] at ho'
      have HOP := Lib.hid ho'
      clear ho' HO
      go_wp2_with (go_at_call 47; refine HOP.out.mono ?_; rintro e w' ⟨rfl, rfl⟩)
      go_ret2
      exact ⟨_, _, _, .over hi ho, ⟨_, rfl, RowAt.nil _ _, fun g hg => by simp [Value.ownBlock] at hg⟩, KeptB.still H0.out HM.out⟩
  · have hl := fun n => (HB.out n).look_out hi hw1
    clear h
    go_enter Try.func23, Try.ntmps23
    go_wp2_with fail
    go_quiet (fail)
    go_wp2_with fail
    go_ret2
    exact ⟨_, _, _, .none hi, ⟨_, rfl, RowAt.nil _ _, fun g hg => by simp [Value.ownBlock] at hg⟩, KeptB.still H0.out (HMW.out.drewN _)⟩
end Go.Proofs.Ytbihfjehlbaahaa
