/- Marks over time: New, Enter. -/
import Derived.Test.YtfjoghbkfkbbdaaK6
namespace Go.Proofs.Ytfjoghbkfkbbdaa
open Go.RowKit

theorem MF.bel {w0 W : World} {b : Nat} {l : List Int} {M : List Ob} (h : MF w0 b l M W) : Below w0.heap.size w0 W := by
  obtain ⟨es, v, hS, _⟩ := h
  exact hS.bel
theorem MF.later {w0 W W' : World} {b : Nat} {l : List Int} {M : List Ob} (h : MF w0 b l M W) (hb : Below W.heap.size W W') : MF w0 b l M W' := by
  obtain ⟨es, v, hS, hg, hl⟩ := h
  exact ⟨es, v, hS.below hb, hg, hl⟩
set_option maxRecDepth 100000 in
set_option maxHeartbeats 800000 in
theorem mk_new {w0 W : World} {M : List Ob} (h : Sep w0 W M) :
    Calls Try.prog 52 #[] W fun e w' => ∃ b, e = .returned (.pointer (some ⟨b, 0, none⟩)) ∧ MF w0 b [] M w' := by
  have HS := Lib.hid h
  clear h
  go_enter Try.func52, Try.ntmps52
  go_wp2_with fail
  go_ret
  have s1 := HS.out.new (A := obEnts []) (Below.refl _ _) (fun e he => by simp at he) (fun k ⟨e, he, _⟩ => by simp at he)
  have s2 := s1.new (A := obPtr (.slice none 0 0) []) (Below.refl _ _) (PtrRow.nil _) (fun k hk => by simp [obPtr, Value.ownBlock] at hk)
  have s3 := s2.new (A := obM W.heap.size (.slice none 0 0)) ((Below.refl _ _).alloc (Nat.le_refl _) _) (blk_new _ _) (fun k hk => by have : k = W.heap.size := hk; omega)
  exact ⟨_, rfl, [], _, s3, ⟨fun i j _ hj => by simp at hj, List.nodup_nil, fun e he => by simp at he⟩, rfl⟩

theorem sep_bump {w0 W : World} {b : Nat} {v : Value} {es : List Ent} {M : List Ob} (hS : Sep w0 W (obM b v :: obPtr v (es.map Ent.ptr) :: obEnts es :: M)) (hg : (es.map Ent.blk).Nodup) {i : Nat} (hi : i < es.length) (n : Int) :
    Sep w0 (W.setCell ⟨(es.getD i ent0).blk, 1, none⟩ (.int .i64 n)) (obM b v :: obPtr v ((bump es i n).map Ent.ptr) :: obEnts (bump es i n) :: M) := by
  rw [bump_map Ent.ptr hi n rfl]
  refine (hS.bring3.step (A' := obEnts (bump es i n)) (EntsAt.bump hS.third hg hi n) ((Mod.refl _ W).setCell (.inl ⟨_, eget_mem hi, rfl⟩) _) (fun k hk => ?_)).back3
  obtain ⟨e, he, hk⟩ := hk
  rcases bump_mem hi he with rfl | he
  · exact .inl ⟨_, eget_mem hi, hk⟩
  · exact .inl ⟨e, he, hk⟩
theorem bump_put {es : List Ent} {i : Nat} (hi : i ≤ es.length) (e : Ent) (n : Int) : bump (putE es i e) i n = putE es i (e.with n) := by
  have hl : (es.take i).length = i := by rw [List.length_take]; omega
  have hg : (putE es i e).getD i ent0 = e := by rw [putE_get hi]; simp
  unfold bump
  rw [hg]
  unfold putE
  rw [List.take_append_of_le_length (by omega), List.take_of_length_le (by omega), List.drop_append, hl, List.drop_of_length_le (by omega)]
  simp
theorem rep_succ {n : Int} (hn : 0 ≤ n) (x : Int) : List.replicate (n + 1).toNat x = x :: List.replicate n.toNat x := by
  rw [show (n + 1).toNat = n.toNat + 1 by omega, List.replicate_succ]

set_option maxRecDepth 100000 in
set_option maxHeartbeats 3200000 in
theorem mk_enter {w0 W : World} {b : Nat} {l : List Int} {M : List Ob} (h : MF w0 b l M W) (hl : l.length ≤ 1000) (x : Int) :
    Calls Try.prog 53 #[.pointer (some ⟨b, 0, none⟩), .int .u64 x] W fun e w' => e = .returned (.tuple #[]) ∧ MF w0 b (insS l x) M w' := by
  obtain ⟨es, v, hS, hg, rfl⟩ := h
  obtain ⟨hle, hln⟩ := flat_len hg.pos
  have HP := Lib.hid (place_any b v es x W hS.head hS.second hS.third hg.rise (by omega))
  have HS := Lib.hid hS
  have HG := Lib.hid hg
  have HLN := Lib.hid hln
  have c0 := (blk_cell hS.head 0).trans rfl
  obtain ⟨a, cap, rfl, h1, h2, h3⟩ := PtrRow.val (hS.second : PtrRow W v (es.map Ent.ptr))
  rw [List.length_map] at *
  have HA := Lib.hid h3
  clear hS hg hln h3
  go_enter Try.func53, Try.ntmps53
  go_wp2_with fail
  refine HP.out.mono ?_
  rintro e w1 ⟨i, hp, rfl, rfl⟩
  have HPL := Lib.hid hp
  have hpi := hp.le
  clear hp HP
  rcases Bool.eq_false_or_eq_true (found es x i) with hf | hf
  · obtain ⟨hi, hat⟩ := found_yes hf
    obtain ⟨g, rfl⟩ := HA.out (by omega)
    have hc := PtrRow.cell (HS.out.second : PtrRow W _ (es.map Ent.ptr)) hi
    have hE := (HS.out.third : EntsAt W es).at_ hi
    have HAdd := Lib.hid (i64_add (es.getD i ent0).blk 1 (es.getD i ent0).n 1 W ((blk_cell hE 1).trans rfl) (blk_free hE 1) (by have := HG.out.pos _ (eget_mem hi); omega) (by have := HLN.out _ (eget_mem hi); omega))
    have HI := Lib.hid (And.intro hi hat)
    have hii : (i : Int) < es.length := by omega
    rw [hf]
    clear hE hf hi hat
    unfold Ent.ptr at hc
    obtain ⟨eb, heb⟩ : ∃ eb, (es.getD i ent0).blk = eb := ⟨_, rfl⟩
    obtain ⟨en, hen⟩ : ∃ en, (es.getD i ent0).n = en := ⟨_, rfl⟩
    rw [heb] at hc
    rw [heb, hen] at HAdd
    have HEB := Lib.hid heb
    have HEN := Lib.hid hen
    clear heb hen
    go_wp2_with fail
    refine HAdd.out.mono ?_
    rintro e w2 ⟨rfl, rfl⟩
    go_wp2_with fail
    go_end0
    refine ⟨rfl, bump es i (en + 1), .slice (some ⟨g, 0, none⟩) es.length cap, ?_, HG.out.bump HI.out.1 ?_, ?_⟩
    · have := sep_bump HS.out HG.out.nd HI.out.1 (en + 1)
      rw [HEB.out] at this
      exact this
    · have := HG.out.pos _ (eget_mem HI.out.1)
      rw [HEN.out] at this
      omega
    · have := HG.out.pos _ (eget_mem HI.out.1)
      rw [HEN.out] at this
      rw [HPL.out.ins, flat_bump HI.out.1, HI.out.2, rep_succ (by omega), drop_cons HI.out.1, flat_cons, HI.out.2, HEN.out]
      rfl
  · have hne : ∀ e ∈ es, e.blk ≠ W.heap.size := fun e he h => by
      have := ent_lt (HS.out.third : EntsAt W es) he
      omega
    have hS1 : Sep w0 (W.alloc (.cells #[.int .u64 x, .int .i64 0] 128)) (obM b (.slice a es.length cap) :: obPtr (.slice a es.length cap) (es.map Ent.ptr) :: obEnts (putE es i ⟨W.heap.size, x, 0⟩) :: M) := by
      refine (HS.out.bring3.step (A' := obEnts (putE es i ⟨W.heap.size, x, 0⟩)) (fun e he => ?_) ((Mod.refl _ W).alloc _) (fun k hk => ?_)).back3
      · rcases putE_mem he with rfl | he
        · exact blk_new W _
        · exact blk_alloc ((HS.out.third : EntsAt W es) e he)
      · obtain ⟨e, he, rfl⟩ := hk
        rcases putE_mem he with rfl | he
        · exact .inr (Nat.le_refl _)
        · exact .inl ⟨e, he, rfl⟩
    have hS2 := hS1.below ((Below.refl _ _).alloc (Nat.le_refl _) (.cells #[.pointer (some ⟨W.heap.size, 0, none⟩)] 126))
    have hown : (Value.slice a es.length cap).ownBlock ≠ some (W.heap.size + 1) := fun e => by
      have := (World.ownsRow.lt (HS.out.second : PtrRow W _ _).1 _ e).2
      omega
    have hIns := insert_one (.slice a es.length cap) (es.map Ent.ptr) i (.pointer (some ⟨W.heap.size, 0, none⟩)) (W.heap.size + 1) _ hS2.second (blk_at (by simp)) hown rfl (by rw [List.length_map]; exact hpi) (by rw [List.length_map]; omega)
    rw [show (es.map Ent.ptr).take i ++ Value.pointer (some ⟨W.heap.size, 0, none⟩) :: (es.map Ent.ptr).drop i = (putE es i ⟨W.heap.size, x, 0⟩).map Ent.ptr from (putE_map Ent.ptr i ⟨W.heap.size, x, 0⟩).symm] at hIns
    have HIns := Lib.hid hIns
    have HF := Lib.hid hf
    have HNE := Lib.hid hne
    have HS2 := Lib.hid hS2
    have hbl := blk_lt HS.out.head
    rw [hf]
    clear hS1 hS2 hown hf hne hIns
    go_wp2_with fail
    refine HIns.out.mono ?_
    rintro e w2 ⟨v', rfl, hpr, hm, hgr⟩
    have hS3 := (HS2.out.swap.step (A' := obPtr v' ((putE es i ⟨W.heap.size, x, 0⟩).map Ent.ptr)) hpr hm hgr).swap
    have hpl := putE_len hpi ⟨W.heap.size, x, 0⟩
    have hpg : (putE es i ⟨W.heap.size, x, 0⟩).getD i ent0 = ⟨W.heap.size, x, 0⟩ := by rw [putE_get hpi]; simp
    obtain ⟨a', cap', rfl, k1, k2, k3⟩ := PtrRow.val hpr
    have hlen : ((putE es i ⟨W.heap.size, x, 0⟩).map Ent.ptr).length = es.length + 1 := by rw [List.length_map, hpl]
    rw [hlen] at k1 k3 hpr hS3 hgr
    obtain ⟨g', rfl⟩ := k3 (by omega)
    have hc := PtrRow.cell hpr (i := i) (by rw [hpl]; omega)
    rw [hpg] at hc
    have c2 := (blk_cell hS3.head 0).trans rfl
    have z2 := blk_free hS3.head 0
    have hgb : ¬ g' = b := fun e => by
      have h7 := (List.pairwise_cons.1 hS3.apart).1 _ (List.mem_cons_self) b rfl
      exact h7 (by show some g' = some b; rw [e])
    have hS4 : Sep w0 (w2.setCell ⟨b, 0, none⟩ (.slice (some ⟨g', 0, none⟩) (es.length + 1) cap')) (obM b (.slice (some ⟨g', 0, none⟩) (es.length + 1) cap') :: obPtr (.slice (some ⟨g', 0, none⟩) (es.length + 1) cap') ((putE es i ⟨W.heap.size, x, 0⟩).map Ent.ptr) :: obEnts (putE es i ⟨W.heap.size, x, 0⟩) :: M) :=
      hS3.step (A' := obM b (.slice (some ⟨g', 0, none⟩) (es.length + 1) cap')) (blk_set (i := 0) hS3.head) ((Mod.refl (fun k => k = b) _).setCell (p := ⟨b, 0, none⟩) (.inl rfl) _) (Grows.refl _ _)
    have hE := (hS4.third : EntsAt _ _).at_ (i := i) (by rw [hpl]; omega)
    rw [hpg] at hE
    have HAdd := Lib.hid (i64_add W.heap.size 1 0 1 _ ((blk_cell hE 1).trans rfl) (blk_free hE 1) (by decide) (by decide))
    have HS4 := Lib.hid hS4
    have HPG := Lib.hid hpg
    have p1 : (i : Int) < (es.length : Int) + 1 := by omega
    have p2 : i < es.length + 1 := by omega
    unfold Ent.ptr at hc
    simp only at hc
    clear hS3 hS4 hE HIns HS2 hpr hm hgr k3 hpg hpl
    go_wp2_with fail
    refine HAdd.out.mono ?_
    rintro e w5 ⟨rfl, rfl⟩
    go_wp2_with fail
    go_end0
    have hb5 := sep_bump HS4.out (HG.out.put HPL.out HF.out HNE.out (n := 1) (by decide) |>.nd |> fun h => by rw [putE_map] at h ⊢; exact h) (i := i) (by rw [putE_len hpi]; omega) 1
    rw [HPG.out] at hb5
    rw [bump_put hpi] at hb5
    refine ⟨rfl, putE es i ⟨W.heap.size, x, 1⟩, _, hb5, HG.out.put HPL.out HF.out HNE.out (by decide), ?_⟩
    rw [HPL.out.ins, flat_put]
end Go.Proofs.Ytfjoghbkfkbbdaa
