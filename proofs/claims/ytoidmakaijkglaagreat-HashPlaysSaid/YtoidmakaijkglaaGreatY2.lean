/- A key's versions: the iterator over a chain. -/
import Derived.Test.YtoidmakaijkglaaGreatY1
namespace Go.Proofs.YtoidmakaijkglaaGreat
open Go.RowKit
attribute [local go_sem] Oper.semAt_some

set_option maxRecDepth 100000 in
theorem chain_all (cb : Nat) (w : World) :
    Calls Tryz.prog 37 #[.pointer (some ⟨cb, 0, none⟩)] w fun e w' =>
      e = .returned (.func (.func 55) #[] #[.pointer (some ⟨w.heap.size, 0, none⟩)]) ∧ w.alloc (.cells #[.pointer (some ⟨cb, 0, none⟩)] 29 (0, 0)) = w' := by
  go_enter Tryz.func37, Tryz.ntmps37
  go_wp2_with fail
  go_ret
  exact ⟨rfl, rfl⟩

/-- What a round hands out. -/
def encV (x : Int × Ver) : Array Value := #[.int .u64 x.1, x.2.value]
/-- A round turns no version's box that was laid since the loop began. -/
def KeepsVer (B : Nat) (W W' : World) : Prop := ∀ k cs, B ≤ k → W.heap[k]? = some (.cells cs 101 (0, 0)) → W'.heap[k]? = some (.cells cs 101 (0, 0))
theorem keepsVer_t {B : Nat} {X Y Z : World} (h : KeepsVer B X Y) (k : KeepsVer B Y Z) : KeepsVer B X Z := fun j cs hB hj => k j cs hB (h j cs hB hj)
theorem keepsVer_b {B : Nat} (W : World) (l : Nat) (o o' : Obj) (hl : W.heap[l]? = some o) (ho : o.isCells = false) : KeepsVer B W (W.putObj l o') := fun k cs _ hk => by
  have : k ≠ l := fun e => by
    subst e
    rw [hl] at hk
    cases hk
    cases ho
  exact (World.putObj_heap_other this).trans hk
theorem KeepsVer.of_mod {B : Nat} {G : Nat → Prop} {W W' : World} (hm : Mod G W W') (hG : ∀ k, G k → k < B ∨ ∃ cs T, T ≠ 101 ∧ W.heap[k]? = some (.cells cs T (0, 0))) : KeepsVer B W W' := fun k cs hB hk =>
  hm.keep hk (fun hg => by
    rcases hG k hg with h | ⟨cs', T, hT, h⟩
    · omega
    · rw [hk] at h
      simp only [Option.some.injEq, Obj.cells.injEq] at h
      exact hT h.2.1.symm)
/-- The versions of a chain, as they come. -/
def chXs (s : RS) (L : List Int) : List (Int × Ver) := L.map fun a => (a, s.ver (slotOf a))
theorem chXs_take {s : RS} {L : List Int} {k : Nat} (h : k < L.length) : (chXs s L).take k ++ [(L.getD k 0, s.ver (slotOf (L.getD k 0)))] = (chXs s L).take (k + 1) := by
  rw [List.take_succ_eq_append_getElem (by simpa [chXs] using h)]
  simp [chXs, List.getD_eq_getElem?_getD, h]

def ChSt (w0 : World) (cb sb ab at' pb : Nat) (Fs Fa : Nat → Prop) (s : RS) (ws : List Int) (M : List Ob) (W : World) : Prop :=
  Sep w0 W (chL cb sb ab at' Fs Fa s ws M) ∧ W.heap[pb]? = some (.cells #[.pointer (some ⟨cb, 0, none⟩)] 29 (0, 0))

set_option maxRecDepth 100000 in
set_option maxHeartbeats 3200000 in
theorem all_stops {w0 : World} {cb sb ab at' : Nat} {Fs Fa : Nat → Prop} {s : RS} {ws : List Int} {M : List Ob} {L : List Int} (hC : Chn s ws at' L) (n pb B : Nat) (hps : ¬ Fs pb) (hpa : ¬ Fa pb) :
    SeqMine Fence.wide n 55 #[.pointer (some ⟨pb, 0, none⟩)] encV (fun k => Fs k ∨ Fa k) (KeepsVer B)
      (fun W => ChSt w0 cb sb ab at' pb Fs Fa s ws M W ∧ B ≤ W.heap.size) (chXs s L) := by
  intro l J Jx W hJ hY h0 hS0
  refine callsIn_of_wp Tryz.func55 rfl trivial ?_ rfl
  simp only [Tryz.ntmps55, List.size_toArray, List.length_cons, List.length_nil, Nat.reduceAdd, Nat.reduceSub, Array.replicate_succ, Array.replicate_zero, List.push_toArray, List.append_toArray, List.nil_append, List.cons_append]
  obtain ⟨⟨hS, hpb⟩, hB⟩ := hS0
  have cp := blk_cell hpb 0
  simp at cp
  have HH := Lib.hid (chain_head W hS hC.ix)
  rw [hC.head] at HH
  have hpo := (chL_store hS).pool.1
  have hsm := hC.small hpo
  have hLl := hC.len
  have hp2 := hpo.n2
  have HC := Lib.hid hC
  clear hC cp
  have cp := blk_cell hpb 0
  simp at cp
  gi_wp2_with (fail)
  refine ⟨trivial, fun h => (by cases h), ?_⟩
  refine (callsIn_wide.2 HH.out).mono ?_
  rintro e w1 ⟨rfl, hS1, hm1⟩
  have hpb1 := hm1.keep hpb hpa
  have hJ1 := hJ _ _ _ h0 (hm1.mono (fun k hk => .inl (.inr hk)))
  have hB1 := Nat.le_trans hB hm1.size
  have H1 := Lib.hid (And.intro hJ1 (And.intro hS1 hpb1))
  clear hS hpb cp hS1 hpb1 hJ1 hm1 h0 HH hB
  gi_wp2_with (fail)
  gi_loopw [3, 8] (fun lk i wr => ∃ k : Nat, k ≤ L.length ∧ i = .int .i64 k ∧ lk = .int .u64 (L.getD k 0) ∧ J ((chXs s L).take k) wr ∧ ChSt w0 cb sb ab at' pb Fs Fa s ws M wr ∧ B ≤ wr.heap.size) (fun _ i _ => 4096 - (intOf i).toNat)
  case atStart => exact ⟨0, Nat.zero_le _, rfl, rfl, H1.out.1, H1.out.2, hB1⟩
  case round =>
    obtain ⟨k, hk, rfl, rfl, hJk, ⟨hS, hpb⟩, hB⟩ := hrel
    clear H1 hB1
    have cp := blk_cell hpb 0
    simp at cp
    have cc := blk_cell (chL_head hS) 0
    simp [chCells] at cc
    by_cases hlt : k < L.length
    · have h4 : k < 4096 := by omega
      have hlv := HC.out.live _ (getD_mem hlt)
      have hsk := hsm k
      have HG := Lib.hid (get_same sb Fs s (L.getD k 0) wr (chL_store hS) (by omega) (by omega) hlv)
      have HX := Lib.hid (HC.out.next k hlt)
      have HT := Lib.hid (chXs_take (s := s) hlt)
      have H1 := Lib.hid (And.intro hS (And.intro hpb hJk))
      clear hS hpb hJk
      clear hsm
      generalize L.getD k 0 = a at *
      generalize s.ver (slotOf a) = vv at *
      simp only [Ver.value] at HG
      gi_wp2_with (fail)
      refine ⟨trivial, fun h => (by cases h), ?_⟩
      refine (callsIn_wide.2 HG.out).mono ?_
      rintro e w2 ⟨rfl, hst2, hm2⟩
      have hS2 := chL_sameS H1.out.1 hst2 hm2
      have hpb2 := hm2.keep H1.out.2.1 hps
      have hJ2 := hJ _ _ _ H1.out.2.2 (hm2.mono (fun k hk => .inl (.inl hk)))
      have hB2 := Nat.le_trans hB hm2.size
      have H2 := Lib.hid (And.intro hS2 (And.intro hpb2 hJ2))
      clear hS2 hpb2 hJ2 hst2 hm2 H1 HG cp cc
      gi_wp2_with (fail)
      have hpre : (chXs s L).take k ++ [(a, vv)] <+: chXs s L := by
        rw [HT.out]
        exact List.take_prefix _ _
      have hal : Mod (fun k => Fs k ∨ Fa k) w2 (w2.alloc (.cells #[.int .i64 vv.key, .int .i64 vv.val, .int .u64 vv.beg, .int .u64 vv.en, .int .u64 vv.nx] 101)) := (Mod.refl _ _).alloc _
      have hy0 := hY _ (a, vv) (w2.alloc (.cells #[.int .i64 vv.key, .int .i64 vv.val, .int .u64 vv.beg, .int .u64 vv.en, .int .u64 vv.nx] 101)) (hJ _ _ _ H2.out.2.2 hal) ⟨⟨H2.out.1.below ((Below.refl _ _).alloc (Nat.le_refl _) _), blk_alloc H2.out.2.1⟩, by simp; omega⟩ hpre
      obtain ⟨fn, tmps, assign, body, hy, hR⟩ := hy0
      have hbox := blk_new w2 (.cells #[.int .i64 vv.key, .int .i64 vv.val, .int .u64 vv.beg, .int .u64 vv.en, .int .u64 vv.nx] 101)
      have HR := Lib.hid hR
      have HBX := Lib.hid hbox
      clear hR hpre hal hbox H2
      simp only [encV, Ver.value] at hy
      rw [hy]
      refine ⟨fun h => (by cases h), ?_⟩
      refine HR.out.mono ?_
      rintro e W' (⟨rfl, hJ', ⟨⟨hS', hpb'⟩, hB'⟩, hK'⟩ | ⟨rfl, hx⟩)
      · have hbx := hK' _ _ hB2 HBX.out
        have c4 := blk_cell hbx 4
        simp at c4
        rw [HT.out] at hJ'
        have H4 := Lib.hid (And.intro hJ' (And.intro hS' (And.intro hpb' hB')))
        clear hJ' hS' hpb' hB' hK' hbx HR hy HT
        gi_wp2_with (fail)
        go_roundw
        case rel => exact ⟨k + 1, by omega, by go_num, by rw [HX.out], H4.out.1, ⟨H4.out.2.1, H4.out.2.2.1⟩, H4.out.2.2.2⟩
        case measure => simp [intOf]; omega
      · have hp : (chXs s L).take (k + 1) <+: chXs s L := List.take_prefix _ _
        rw [HT.out] at hx
        have H4 := Lib.hid (And.intro hp hx)
        clear hx HR hy HT hp
        gi_wp2_with (fail)
        refine bodyPost_ret (results_none rfl _ _ _) rfl ?_
        exact ⟨⟨_, rfl⟩, .inr ⟨_, H4.out.1, H4.out.2⟩⟩
    · obtain rfl : k = L.length := by omega
      rw [getD_out (Nat.le_refl _)]
      rw [show (chXs s L).take L.length = chXs s L from List.take_of_length_le (by simp [chXs])] at hJk
      by_cases h4 : L.length < 4096
      · have HG := Lib.hid (get_stale sb Fs s 0 wr (chL_store hS) (by decide) (by decide) (live_zero _))
        have H1 := Lib.hid (And.intro hS (And.intro hpb hJk))
        clear hS hpb hJk
        simp only [ver0, Ver.value] at HG
        gi_wp2_with (fail)
        refine ⟨trivial, fun h => (by cases h), ?_⟩
        refine (callsIn_wide.2 HG.out).mono ?_
        rintro e w2 ⟨rfl, hb2⟩
        have hS2 := H1.out.1.below hb2
        have hJ2 := hJ _ _ _ H1.out.2.2 (Mod.of_below hb2)
        have hpb2 := below_keep hb2 H1.out.2.1
        have hB2 := Nat.le_trans hB hb2.size
        have H2 := Lib.hid (And.intro hS2 (And.intro hpb2 hJ2))
        clear hS2 hpb2 hJ2 hb2 H1 HG cp cc
        gi_wp2_with (fail)
        refine ⟨fun _ h => (by cases h), ?_⟩
        gi_wp2_with (fail)
        refine bodyPost_ret (results_none rfl _ _ _) rfl ?_
        exact ⟨⟨_, rfl⟩, .inl ⟨hJ _ _ _ H2.out.2.2 ((Mod.refl _ _).alloc _), ⟨H2.out.1.below ((Below.refl _ _).alloc (Nat.le_refl _) _), blk_alloc H2.out.2.1⟩, by simp; omega⟩⟩
      · have H1 := Lib.hid (And.intro hS (And.intro hpb hJk))
        clear hS hpb hJk
        gi_wp2_with (fail)
        go_end0
        exact ⟨⟨_, rfl⟩, .inl ⟨H1.out.2.2, ⟨H1.out.1, H1.out.2.1⟩, hB⟩⟩
end Go.Proofs.YtoidmakaijkglaaGreat
