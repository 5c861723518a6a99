/- A key's versions: Push, Len, Made; what a Push and a Cut make of a chain. -/
import Derived.Test.YtoidmakaijkglaaGreatY5
namespace Go.Proofs.YtoidmakaijkglaaGreat
open Go.RowKit

theorem getD_erase (L : List Int) (k j : Nat) : (L.eraseIdx k).getD j 0 = if j < k then L.getD j 0 else L.getD (j + 1) 0 := by
  simp only [List.getD_eq_getElem?_getD, List.getElem?_eraseIdx]
  split <;> rfl
theorem nodup_idx {L : List Int} (h : L.Nodup) {i j : Nat} (hi : i < L.length) (hj : j < L.length) (e : L.getD i 0 = L.getD j 0) : i = j := by
  simp [List.getD_eq_getElem?_getD, hi, hj] at e
  exact (List.getElem_inj h).1 e
theorem setw_p (s : RS) (j : Nat) (y : Int) : (s.setw j y).p = s.p := rfl
theorem setw_ok {s : RS} (h : s.ok) (j : Nat) (y : Int) : (s.setw j y).ok := ⟨by simp [RS.setw, h.ws], h.d⟩
theorem setw_nx {s : RS} {i : Nat} {y : Int} (h : i * 3 + 2 < s.ws.length) : (s.setw (i * 3 + 2) y).ver i = { s.ver i with nx := y } := by
  unfold RS.ver RS.setw
  simp only
  rw [getD_set_ne (by omega), getD_set_ne (by omega), getD_set_same h]
section
variable {s : RS} {ws : List Int} {at' : Nat} {L : List Int}
theorem cutS_p (k : Nat) : (cutS s L k).p = s.p := by unfold cutS; split <;> rfl
theorem cutS_d (k : Nat) : (cutS s L k).d = s.d := by unfold cutS; split <;> rfl
theorem cutS_ok (h : s.ok) (k : Nat) : (cutS s L k).ok := by
  unfold cutS
  split
  · exact h
  · exact setw_ok h _ _
theorem cutW_len (k : Nat) : (cutW ws at' L k).length = ws.length := by unfold cutW; split <;> simp
theorem cutW_other {j : Nat} (k : Nat) (h : at' ≠ j) : (cutW ws at' L k).getD j 0 = ws.getD j 0 := by
  unfold cutW
  split
  · exact getD_set_ne h
  · rfl
/-- Of a version only the word that leads on may have turned. -/
theorem cutS_ver (hs : s.ok) (hl : ∀ a ∈ L, s.p.live a = true) {k : Nat} (hk : k < L.length) (i : Nat) : ∃ y, (cutS s L k).ver i = { s.ver i with nx := y } := by
  unfold cutS
  split
  · exact ⟨(s.ver i).nx, rfl⟩
  · by_cases e : slotOf (L.getD (k - 1) 0) = i
    · subst e
      have h1 := (slot_live (hl _ (getD_mem (show k - 1 < L.length by omega)))).1
      have h2 := hs.ws
      exact ⟨_, setw_nx (by omega)⟩
    · exact ⟨(s.ver i).nx, setw_ver_ne (by decide) e⟩
theorem cutS_out (k : Nat) {i : Nat} (hk : k < L.length) (h : ∀ a ∈ L, slotOf a ≠ i) : (cutS s L k).ver i = s.ver i := by
  unfold cutS
  split
  · rfl
  · exact setw_ver_ne (by decide) (h _ (getD_mem (by omega)))
theorem Chn.cut (hC : Chn s ws at' L) (hs : s.ok) {k : Nat} (hk : k < L.length) : Chn (cutS s L k) (cutW ws at' L k) at' (L.eraseIdx k) := by
  refine ⟨by rw [cutW_len]; exact hC.ix, ?_, fun a ha => by rw [cutS_p]; exact hC.live a (List.mem_of_mem_eraseIdx ha), hC.nd.eraseIdx k, ?_⟩
  · rw [getD_erase]
    unfold cutW
    by_cases h0 : k = 0
    · subst h0
      rw [if_pos rfl, getD_set_same hC.ix, if_neg (Nat.lt_irrefl 0)]
    · rw [if_neg h0, if_pos (by omega)]
      exact hC.head
  · intro j hj
    rw [List.length_eraseIdx, if_pos hk] at hj
    rw [getD_erase, getD_erase]
    unfold cutS
    by_cases h0 : k = 0
    · subst h0
      rw [if_pos rfl, if_neg (by omega), if_neg (by omega)]
      exact hC.next (j + 1) (by omega)
    · rw [if_neg h0]
      have hne : ∀ i, i < L.length → i ≠ k - 1 → slotOf (L.getD (k - 1) 0) ≠ slotOf (L.getD i 0) := fun i hi hik e => by
        have h1 := live_inj (hC.live _ (getD_mem (show k - 1 < L.length by omega))) (hC.live _ (getD_mem hi)) e
        have := nodup_idx hC.nd (by omega) hi h1
        omega
      by_cases hjk : j < k
      · rw [if_pos hjk]
        by_cases hj1 : j = k - 1
        · subst hj1
          have h1 := (slot_live (hC.live _ (getD_mem (show k - 1 < L.length by omega)))).1
          have h2 := hs.ws
          rw [setw_nx (by omega), if_neg (by omega), show k - 1 + 1 + 1 = k + 1 by omega]
        · rw [setw_ver_ne (by decide) (hne j (by omega) hj1), if_pos (by omega)]
          exact hC.next j (by omega)
      · rw [if_neg hjk, if_neg (by omega), setw_ver_ne (by decide) (hne (j + 1) (by omega) (by omega))]
        exact hC.next (j + 1) (by omega)
/-- The store behind a Push. -/
def pushS (s : RS) (L : List Int) (x : Int) : RS := s.setw (slotOf x * 3 + 2) (L.getD 0 0)
theorem pushS_ver (hs : s.ok) {x : Int} (hx : s.p.live x = true) (i : Nat) : ∃ y, (pushS s L x).ver i = { s.ver i with nx := y } := by
  unfold pushS
  by_cases e : slotOf x = i
  · subst e
    have h1 := (slot_live hx).1
    have h2 := hs.ws
    exact ⟨_, setw_nx (by omega)⟩
  · exact ⟨(s.ver i).nx, setw_ver_ne (by decide) e⟩
theorem Chn.push (hC : Chn s ws at' L) (hs : s.ok) {x : Int} (hx : s.p.live x = true) (hn : ¬ x ∈ L) : Chn (pushS s L x) (ws.set at' x) at' (x :: L) := by
  refine ⟨by simpa using hC.ix, by rw [getD_set_same hC.ix]; rfl, fun a ha => ?_, List.nodup_cons.2 ⟨hn, hC.nd⟩, ?_⟩
  · rcases List.mem_cons.1 ha with rfl | ha
    · exact hx
    · exact hC.live a ha
  · intro j hj
    match j, hj with
    | 0, _ =>
      show ((pushS s L x).ver (slotOf x)).nx = L.getD 0 0
      have h1 := (slot_live hx).1
      have h2 := hs.ws
      unfold pushS
      rw [setw_nx (by omega)]
    | j + 1, hj =>
      show ((pushS s L x).ver (slotOf (L.getD j 0))).nx = L.getD (j + 1) 0
      have hj' : j < L.length := by simpa using hj
      unfold pushS
      rw [setw_ver_ne (by decide)]
      · exact hC.next j hj'
      · intro e
        exact hn (live_inj hx (hC.live _ (getD_mem hj')) e ▸ getD_mem hj')
theorem Chn.nil (h : at' < ws.length) (h0 : ws.getD at' 0 = 0) : Chn s ws at' [] := ⟨h, h0, fun a ha => by simp at ha, List.nodup_nil, fun k hk => by simp at hk⟩
end

set_option maxRecDepth 100000 in
set_option maxHeartbeats 800000 in
theorem chain_len {w0 : World} {cb sb ab at' : Nat} {Fs Fa : Nat → Prop} {s : RS} {ws : List Int} {M : List Ob} {L : List Int} (hC : Chn s ws at' L) (w : World) (h : Sep w0 w (chL cb sb ab at' Fs Fa s ws M)) :
    Calls Tryz.prog 14 #[.pointer (some ⟨cb, 0, none⟩)] w fun e w' => e = .returned (.int .i64 L.length) ∧ Sep w0 w' (chL cb sb ab at' Fs Fa s ws M) ∧ Mod (fun k => Fs k ∨ Fa k) w w' := by
  have HL := Lib.hid (chain_links hC w h)
  clear h hC
  generalize L.length = n at *
  go_enter Tryz.func14, Tryz.ntmps14
  go_wp2_with fail
  refine HL.out.mono ?_
  rintro e w1 ⟨a, cap, rfl, hS, hm, _⟩
  have HR := Lib.hid (And.intro hS.tail hm)
  clear hS hm
  go_wp2_with fail
  go_ret
  exact ⟨rfl, HR.out⟩

/-- What a Push leaves. -/
def Pushed (w0 w : World) (cb sb ab at' : Nat) (Fs Fa : Nat → Prop) (s : RS) (ws : List Int) (M : List Ob) (L : List Int) (x : Int) (e : Ending) (w' : World) : Prop :=
  ((s.p.live x = false ∨ x ∈ L) ∧ e = .returned (.bool false) ∧ Sep w0 w' (chL cb sb ab at' Fs Fa s ws M) ∧ Mod (fun k => Fs k ∨ Fa k) w w') ∨
  (s.p.live x = true ∧ ¬ x ∈ L ∧ e = .returned (.bool true) ∧ Sep w0 w' (chL cb sb ab at' Fs Fa (pushS s L x) (ws.set at' x) M) ∧ Mod (fun k => Fs k ∨ Fa k) w w')

set_option maxRecDepth 100000 in
set_option maxHeartbeats 3200000 in
theorem chain_push {w0 : World} {cb sb ab at' : Nat} {Fs Fa : Nat → Prop} {s : RS} {ws : List Int} {M : List Ob} {L : List Int} (hC : Chn s ws at' L) (x : Int) (h0 : 0 ≤ x) (h1 : x ≤ 18446744073709551615) (w : World) (h : Sep w0 w (chL cb sb ab at' Fs Fa s ws M)) :
    Calls Tryz.prog 9 #[.pointer (some ⟨cb, 0, none⟩), .int .u64 x] w (Pushed w0 w cb sb ab at' Fs Fa s ws M L x) := by
  have HV := Lib.hid (rec_live x w (chL_store h) h0 h1)
  have HH := Lib.hid (chain_has hC x w h)
  have HS := Lib.hid h
  have c0 := blk_cell (chL_head h) 0
  simp [chCells] at c0
  clear h
  cases hl : s.p.live x
  · rw [hl] at HV
    have HLV := Lib.hid hl
    clear hl
    go_enter Tryz.func9, Tryz.ntmps9
    go_wp2_with fail
    refine HV.out.mono ?_
    rintro e w1 ⟨rfl, rfl⟩
    go_wp2_with fail
    go_ret
    exact .inl ⟨.inl HLV.out, rfl, HS.out, Mod.refl _ _⟩
  · rw [hl] at HV
    have HLV := Lib.hid hl
    clear hl
    by_cases hx : x ∈ L
    · have HX := Lib.hid hx
      rw [show L.contains x = true by simpa using hx] at HH
      clear hx
      go_enter Tryz.func9, Tryz.ntmps9
      go_wp2_with fail
      refine HV.out.mono ?_
      rintro e w1 ⟨rfl, rfl⟩
      go_wp2_with fail
      refine HH.out.mono ?_
      rintro e w1 ⟨rfl, hS1, hm1⟩
      have H1 := Lib.hid (And.intro hS1 hm1)
      clear hS1 hm1
      go_wp2_with fail
      go_ret
      exact .inl ⟨.inr HX.out, rfl, H1.out⟩
    · have HX := Lib.hid hx
      rw [show L.contains x = false by simpa using hx] at HH
      clear hx
      have HC := Lib.hid hC
      clear hC
      go_enter Tryz.func9, Tryz.ntmps9
      go_wp2_with fail
      refine HV.out.mono ?_
      rintro e w1 ⟨rfl, rfl⟩
      go_wp2_with fail
      refine HH.out.mono ?_
      rintro e w1 ⟨rfl, hS1, hm1⟩
      have H1 := Lib.hid (And.intro hS1 hm1)
      clear hS1 hm1 HV HH HS
      go_wp2_with fail
      go_loopw [5] (fun v wr => Sep w0 wr (chL cb sb ab at' Fs Fa s ws M) ∧ Mod (fun k => Fs k ∨ Fa k) w wr) (fun _ _ => 0)
      case atStart => exact H1.out
      case round =>
        obtain ⟨hS1, hm1⟩ := hrel
        have HHd := Lib.hid (chain_head wr hS1 HC.out.ix)
        rw [HC.out.head] at HHd
        have H2 := Lib.hid (And.intro hS1 hm1)
        have hsm := HC.out.small (chL_store hS1).pool.1 0
        clear hS1 hm1 H1 c0
        generalize hd : L.getD 0 0 = d at *
        have HD := Lib.hid hd
        clear hd
        go_wp2_with fail
        refine HHd.out.mono ?_
        rintro e w2 ⟨rfl, hS2, hm2⟩
        have c0 := blk_cell (chL_head hS2) 0
        simp [chCells] at c0
        have HN := Lib.hid (next_same sb Fs s x d w2 (chL_store hS2) h0 h1 HLV.out)
        have H3 := Lib.hid (And.intro hS2 (H2.out.2.trans (hm2.mono (fun k hk => .inl (.inr hk)))))
        clear hS2 hm2 H2 HHd
        go_wp2_with fail
        refine HN.out.mono ?_
        rintro e w3 ⟨rfl, hs3, hm3⟩
        have hS3 := chL_sameS H3.out.1 hs3 hm3
        have hM3 := H3.out.2.trans (hm3.mono (G := fun k => Fs k ∨ Fa k) (fun k hk => .inl (.inl hk)))
        have c1 := blk_cell (chL_head hS3) 1
        have c2 := blk_cell (chL_head hS3) 2
        simp [chCells] at c1 c2
        have HA := Lib.hid (fun W (hW : W = w3 ∨ W = w3.drew) => (arena_cas ab Fa ws at' d x W (by
          have := (chL_arena hS3).below (w1 := w3.drew) (Below.drew (Below.refl _ _))
          rcases hW with rfl | rfl
          · exact chL_arena hS3
          · exact this) HC.out.ix).mono (R' := fun e w' => e = .returned (.bool true) ∧ LeftA W ab Fa (ws.set at' x) w') (fun e w' r => by
          rcases r with ⟨_, he, hl⟩ | ⟨hne, _⟩
          · exact ⟨he, hl⟩
          · exact absurd (by rw [HC.out.head, HD.out]) hne))
        have H4 := Lib.hid (And.intro hS3 hM3)
        clear hs3 hm3 hS3 hM3 H3 HN c0
        go_wp2_with fail
        go_region_with (go_at_call 34; refine (HA.out _ (by first | exact .inl rfl | exact .inr rfl)).mono ?_; rintro e w4 ⟨rfl, hl⟩)
        all_goals
          have hS5 := chL_stepA (H4.out.1.below (Below.drew (Below.refl _ _))) hl
          have hM5 := (H4.out.2.drew).trans (hl.2.mono (G := fun k => Fs k ∨ Fa k) (fun k hk => .inl (.inr hk)))
          have H5 := Lib.hid (And.intro hS5 hM5)
          clear hS5 hM5 hl
          go_wp2_with fail
          go_ret
          refine .inr ⟨HLV.out, HX.out, rfl, ?_, H5.out.2⟩
          unfold pushS
          rw [HD.out]
          exact H5.out.1
end Go.Proofs.YtoidmakaijkglaaGreat
