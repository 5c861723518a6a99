/- Marks over time: Leave, Low, All, Len. -/
import Derived.Test.YtfjoghbkfkbbdaaK7
namespace Go.Proofs.Ytfjoghbkfkbbdaa
open Go.RowKit

section
variable {es : List Ent} {x : Int} {i : Nat}
theorem Place.not_take (h : Place es x i) : ¬ x ∈ flat (es.take i) := fun hm => by
  have := h.take_lt x hm
  omega
theorem found_mem (hg : Good es) (hp : Place es x i) : (x ∈ flat es) ↔ found es x i = true := by
  constructor
  · intro hm
    cases hf : found es x i
    · exfalso
      rw [flat_split es i] at hm
      rcases List.mem_append.1 hm with hm | hm
      · exact hp.not_take hm
      · obtain ⟨e, he, rfl⟩ := flat_mem hm
        obtain ⟨j, hj, rfl⟩ := List.getElem_of_mem he
        have hj2 : i + j < es.length := by rw [List.length_drop] at hj; omega
        have := found_no hg.rise hp hf (i + j) (by omega) hj2
        simp [List.getD_eq_getElem?_getD, hj2] at this
    · rfl
  · intro hf
    obtain ⟨hi, hat⟩ := found_yes hf
    have hpos := hg.pos _ (eget_mem hi)
    rw [flat_at hi, hat]
    refine List.mem_append_right _ (List.mem_append_left _ (List.mem_replicate.2 ⟨by omega, rfl⟩))
theorem erase_at_place (hp : Place es x i) (hi : i < es.length) (hat : (es.getD i ent0).at_ = x) {n : Nat} (hn : (es.getD i ent0).n.toNat = n + 1) : (flat es).erase x = flat (es.take i) ++ (List.replicate n x ++ flat (es.drop (i + 1))) := by
  rw [flat_at hi, hat, hn, List.erase_append_right _ hp.not_take, List.replicate_succ, List.cons_append, List.erase_cons_head]
theorem Good.cut (h : Good es) (hi : i < es.length) : Good (es.take i ++ es.drop (i + 1)) where
  rise := fun a c hac hc => by
    have hl : (es.take i).length = i := by rw [List.length_take]; omega
    have hg : ∀ j, (es.take i ++ es.drop (i + 1)).getD j ent0 = es.getD (if j < i then j else j + 1) ent0 := fun j => by
      rw [List.getD_eq_getElem?_getD]
      by_cases h1 : j < i
      · rw [List.getElem?_append_left (by omega), List.getElem?_take_of_lt h1, if_pos h1, ← List.getD_eq_getElem?_getD]
      · rw [List.getElem?_append_right (by omega), hl, if_neg h1, List.getElem?_drop, show i + 1 + (j - i) = j + 1 by omega, ← List.getD_eq_getElem?_getD]
    rw [hg, hg]
    have hc2 : c + 1 < es.length := by simp at hc; omega
    refine h.rise _ _ ?_ ?_
    · split <;> split <;> omega
    · split <;> omega
  nd := by
    have h1 := h.nd
    rw [← List.take_append_drop i es, drop_cons hi, List.map_append, List.map_cons, List.nodup_append, List.nodup_cons] at h1
    rw [List.map_append, List.nodup_append]
    exact ⟨h1.1, h1.2.1.2, fun a ha c hc => h1.2.2 a ha c (List.mem_cons_of_mem _ hc)⟩
  pos := fun e he => by
    rcases List.mem_append.1 he with he | he
    · exact h.pos e (List.mem_of_mem_take he)
    · exact h.pos e (List.mem_of_mem_drop he)
end

set_option maxRecDepth 100000 in
set_option maxHeartbeats 3200000 in
theorem mk_leave {w0 W : World} {b : Nat} {l : List Int} {M : List Ob} (h : MF w0 b l M W) (hl : l.length ≤ 1000) (x : Int) :
    Calls Try.prog 55 #[.pointer (some ⟨b, 0, none⟩), .int .u64 x] W fun e w' => e = .returned (.bool (decide (x ∈ l))) ∧ MF w0 b (l.erase x) M w' := by
  obtain ⟨es, v, hS, hg, rfl⟩ := h
  obtain ⟨hle, hln⟩ := flat_len hg.pos
  have HP := Lib.hid (place_any b v es x W hS.head hS.second hS.third hg.rise (by omega))
  have HS := Lib.hid hS
  have HG := Lib.hid hg
  have HLN := Lib.hid hln
  have c0 := (blk_cell hS.head 0).trans rfl
  obtain ⟨a, cap, rfl, h1, h2, h3⟩ := PtrRow.val (hS.second : PtrRow W v (es.map Ent.ptr))
  rw [List.length_map] at *
  have HA := Lib.hid h3
  clear hS hg hln h3
  go_enter Try.func55, Try.ntmps55
  go_wp2_with fail
  refine HP.out.mono ?_
  rintro e w1 ⟨i, hp, rfl, rfl⟩
  have HPL := Lib.hid hp
  have HFM := Lib.hid (found_mem HG.out hp)
  clear hp HP
  rcases Bool.eq_false_or_eq_true (found es x i) with hf | hf
  · obtain ⟨hi, hat⟩ := found_yes hf
    have HX := Lib.hid (HFM.out.2 hf)
    obtain ⟨g, rfl⟩ := HA.out (by omega)
    have hc := PtrRow.cell (HS.out.second : PtrRow W _ (es.map Ent.ptr)) hi
    have hE := (HS.out.third : EntsAt W es).at_ hi
    have hpos := HG.out.pos _ (eget_mem hi)
    have HAdd := Lib.hid (i64_add (es.getD i ent0).blk 1 (es.getD i ent0).n (-1) W ((blk_cell hE 1).trans rfl) (blk_free hE 1) (by omega) (by have := HLN.out _ (eget_mem hi); omega))
    have HI := Lib.hid (And.intro hi hat)
    have hii : (i : Int) < es.length := by omega
    have hS2 := sep_bump HS.out HG.out.nd hi ((es.getD i ent0).n + -1)
    have HER := Lib.hid (fun n hn => erase_at_place HPL.out hi hat (n := n) hn)
    rw [hf]
    clear hE hf hi hat
    unfold Ent.ptr at hc
    obtain ⟨eb, heb⟩ : ∃ eb, (es.getD i ent0).blk = eb := ⟨_, rfl⟩
    obtain ⟨en, hen⟩ : ∃ en, (es.getD i ent0).n = en := ⟨_, rfl⟩
    rw [heb] at hc
    rw [heb, hen] at HAdd hS2
    rw [hen] at HER hpos
    have HS2 := Lib.hid hS2
    clear heb hen hS2
    by_cases h1n : en = 1
    · subst h1n
      have hdel := delete_one (.slice (some ⟨g, 0, none⟩) es.length cap) ((bump es i (1 + -1)).map Ent.ptr) i _ HS2.out.second (by rw [List.length_map, bump_len HI.out.1]; exact HI.out.1)
      rw [bump_map Ent.ptr HI.out.1 (1 + -1) rfl] at hdel
      have HDEL := Lib.hid hdel
      have c2 := (blk_cell HS2.out.head 0).trans rfl
      have x3 : IntKind.i64.wrap ((i : Int) + 1) = (i : Int) + 1 := IntWalk.i64_in _ (by omega)
      clear hdel
      go_wp2_with fail
      refine HAdd.out.mono ?_
      rintro e w2 ⟨rfl, rfl⟩
      go_wp2_with fail
      refine HDEL.out.mono ?_
      rintro e w3 ⟨v', rfl, hpr, hm, hob⟩
      obtain ⟨a', cap', hv', _⟩ := PtrRow.val hpr
      generalize ((es.map Ent.ptr).take i ++ (es.map Ent.ptr).drop (i + 1)).length = nl at hv'
      subst hv'
      have hS3 := (HS2.out.swap.step (A' := obPtr (.slice a' nl cap') ((es.take i ++ es.drop (i + 1)).map Ent.ptr)) (by rw [List.map_append, List.map_take, List.map_drop]; exact hpr) hm (fun k hk => .inl (by have hk2 : (Value.slice a' nl cap').ownBlock = some k := hk; rw [hob] at hk2; exact hk2))).swap
      have hS4 : Sep w0 w3 (obM b (.slice (some ⟨g, 0, none⟩) es.length cap) :: obPtr (.slice a' nl cap') ((es.take i ++ es.drop (i + 1)).map Ent.ptr) :: obEnts (es.take i ++ es.drop (i + 1)) :: M) := by
        refine (hS3.bring3.step (A' := obEnts (es.take i ++ es.drop (i + 1))) (fun e he => hS3.third e ?_) (Mod.refl _ _) (fun k hk => ?_)).back3
        · rcases List.mem_append.1 he with he | he
          · exact List.mem_append_left _ he
          · exact List.mem_append_right _ (List.mem_cons_of_mem _ he)
        · obtain ⟨e, he, rfl⟩ := hk
          refine .inl ⟨e, ?_, rfl⟩
          rcases List.mem_append.1 he with he | he
          · exact List.mem_append_left _ he
          · exact List.mem_append_right _ (List.mem_cons_of_mem _ he)
      have c4 := (blk_cell hS4.head 0).trans rfl
      have z4 := blk_free hS4.head 0
      have HS4 := Lib.hid (hS4.step (A' := obM b (.slice a' nl cap')) (blk_set (i := 0) hS4.head) ((Mod.refl (fun k => k = b) _).setCell (p := ⟨b, 0, none⟩) (.inl rfl) _) (Grows.refl _ _))
      clear hS3 hS4 hpr hm hob c0 c2 hc
      go_wp2_with fail
      go_ret
      refine ⟨ret_bool (decide_eq_true HX.out).symm, _, _, HS4.out, HG.out.cut HI.out.1, ?_⟩
      rw [HER.out 0 rfl, flat_app]
      rfl
    · have hz : (en + -1 == 0) = false := by simp; omega
      go_wp2_with fail
      refine HAdd.out.mono ?_
      rintro e w2 ⟨rfl, rfl⟩
      go_wp2_with fail
      go_ret
      refine ⟨ret_bool (decide_eq_true HX.out).symm, bump es i (en + -1), _, HS2.out, HG.out.bump HI.out.1 (by omega), ?_⟩
      rw [HER.out (en + -1).toNat (by omega), flat_bump HI.out.1, HI.out.2]
  · have HX := Lib.hid (show ¬ x ∈ flat es from fun hm => by rw [HFM.out.1 hm] at hf; cases hf)
    rw [hf]
    clear hf
    go_wp2_with fail
    go_ret
    refine ⟨ret_bool (decide_eq_false HX.out).symm, es, _, HS.out, HG.out, (List.erase_of_not_mem HX.out).symm⟩

/-- The least begin. -/
def lowS (l : List Int) (now : Int) : Int := match l with
  | [] => now
  | a :: _ => min now a
theorem flat_head {es : List Ent} (h : ∀ e ∈ es, 1 ≤ e.n) (hl : 0 < es.length) (now : Int) : lowS (flat es) now = min now (es.getD 0 ent0).at_ := by
  match es, hl with
  | e :: es, _ =>
    have := h e (by simp)
    rw [flat_cons, show e.n.toNat = (e.n.toNat - 1) + 1 by omega, List.replicate_succ]
    rfl

set_option maxRecDepth 100000 in
set_option maxHeartbeats 800000 in
theorem mk_low {w0 W : World} {b : Nat} {l : List Int} {M : List Ob} (h : MF w0 b l M W) (now : Int) :
    Calls Try.prog 54 #[.pointer (some ⟨b, 0, none⟩), .int .u64 now] W fun e w' => e = .returned (.int .u64 (lowS l now)) ∧ W = w' := by
  obtain ⟨es, v, hS, hg, rfl⟩ := h
  have c0 := (blk_cell hS.head 0).trans rfl
  obtain ⟨a, cap, rfl, h1, h2, h3⟩ := PtrRow.val (hS.second : PtrRow W v (es.map Ent.ptr))
  rw [List.length_map] at *
  by_cases h0 : es.length = 0
  · have he : lowS (flat es) now = now := by rw [List.length_eq_zero_iff.1 h0]; rfl
    rw [he]
    clear hS hg h3 he
    rw [h0] at c0
    go_enter Try.func54, Try.ntmps54
    go_wp2_with fail
    go_ret
    exact ⟨rfl, rfl⟩
  · obtain ⟨g, rfl⟩ := h3 (by omega)
    have hc := PtrRow.cell (hS.second : PtrRow W _ (es.map Ent.ptr)) (i := 0) (by omega)
    have hE := (blk_cell ((hS.third : EntsAt W es).at_ (i := 0) (by omega)) 0).trans rfl
    have he := flat_head hg.pos (by omega) now
    rw [he]
    unfold Ent.ptr at hc
    generalize (es.getD 0 ent0).blk = eb at *
    generalize (es.getD 0 ent0).at_ = ea at *
    have hz : ¬ ((es.length : Int) = 0) := by omega
    have hp : (0 : Int) < es.length := by omega
    clear hS hg h3 he
    go_enter Try.func54, Try.ntmps54
    go_wp2_with fail
    go_ret
    exact ⟨rfl, rfl⟩
end Go.Proofs.Ytfjoghbkfkbbdaa
