/- New and Open. -/
import Derived.Test.YtbihfjehlbaahaaJ2
namespace Go.Proofs.Ytbihfjehlbaahaa
open Go.RowKit

def Bs.new : Bs := ⟨[], fun _ => 0, fun _ => []⟩
theorem new_good : Bs.new.ok := ⟨List.nodup_nil, fun _ h => by simp [Bs.new] at h, fun _ h => by simp [Bs.new] at h, fun _ h => by simp [Bs.new] at h, fun _ h => by simp [Bs.new] at h, by simp [Bs.new], fun _ h => by simp [Bs.new] at h⟩
theorem new_is : MapIs (.map []) [] (fun _ => 0) := fun _ => ⟨rfl, rfl⟩

set_option maxHeartbeats 400000 in
theorem bnew_any (w : World) : Calls Try.prog 16 #[] w fun e w' => ∃ b F, e = .returned (.pointer (some ⟨b, 0, none⟩)) ∧ BondsAt w' b F Bs.new ∧ Below w.heap.size w w' ∧ ∀ g, F g → w.heap.size ≤ g := by
  have hmm := @run_makeMap Try.prog
  go_enter Try.func16, Try.ntmps16
  go_wp2
  go_ret
  refine ⟨_, fun g => (if g = w.heap.size then Role.map else if g = w.heap.size + 1 then Role.bonds else Role.none) ≠ .none, rfl, ⟨w.heap.size, fun _ => 0, fun _ => .slice none 0 0, fun g => if g = w.heap.size then Role.map else if g = w.heap.size + 1 then Role.bonds else Role.none, .map [], fun g => Iff.rfl, ?_⟩, ?_, ?_⟩
  · refine ⟨?_, ?_, new_is, rfl, fun _ h => by simp [Bs.new] at h, fun _ h => by simp [Bs.new] at h, ?_, by simp, fun _ h => by simp [Bs.new] at h, fun _ h => by simp [Bs.new] at h, ?_, new_good⟩
    · exact blk_at (by simp)
    · exact (World.ownsMap_made w _ _ _).alloc _
    · simp
    · intro g hg
      simp only [World.size_alloc]
      by_cases h1 : g = w.heap.size
      · omega
      · by_cases h2 : g = w.heap.size + 1
        · omega
        · simp [h1, h2] at hg
  · exact ((Below.refl _ _).alloc (Nat.le_refl _) _).alloc (by simp) _
  · intro g hg
    by_cases h1 : g = w.heap.size
    · omega
    · by_cases h2 : g = w.heap.size + 1
      · omega
      · simp [h1, h2] at hg

def Bs.openE (s : Bs) (id : Int) : Int := if id < 1 then 1 else if id ∈ s.ids then 12 else if 2000 ≤ s.ids.length then 65 else 0
def Bs.open_ (s : Bs) (id : Int) : Bs := ⟨s.ids ++ [id], fun x => if x = id then 1 else s.st x, fun x => if x = id then [] else s.on x⟩
theorem open_good {s : Bs} (h : s.ok) {id : Int} (h1 : 1 ≤ id) (h2 : id ≤ 9223372036854775807) (hi : id ∉ s.ids) (hl : s.ids.length < 2000) : (s.open_ id).ok where
  nodup := by
    simp only [Bs.open_]
    exact List.nodup_append.2 ⟨h.nodup, by simp, fun a ha b hb => by simp at hb; subst hb; exact fun e => hi (e ▸ ha)⟩
  pos x hx := by
    simp only [Bs.open_, List.mem_append, List.mem_singleton] at hx
    rcases hx with hx | rfl
    · exact h.pos x hx
    · exact ⟨h1, h2⟩
  state x hx := by
    simp only [Bs.open_, List.mem_append, List.mem_singleton] at hx ⊢
    by_cases hxi : x = id
    · simp [hxi]
    · simp only [if_neg hxi]; exact h.state x (hx.resolve_right hxi)
  on x hx y hy := by
    simp only [Bs.open_, List.mem_append, List.mem_singleton] at hx hy ⊢
    by_cases hxi : x = id
    · simp [hxi] at hy
    · simp only [if_neg hxi] at hy; exact .inl (h.on x (hx.resolve_right hxi) y hy)
  short x hx := by
    simp only [Bs.open_, List.mem_append, List.mem_singleton, List.length_append, List.length_singleton] at hx ⊢
    by_cases hxi : x = id
    · simp [hxi]
    · simp only [if_neg hxi]; have := h.short x (hx.resolve_right hxi); omega
  few := by simp [Bs.open_]; omega
  ond x hx := by
    simp only [Bs.open_, List.mem_append, List.mem_singleton] at hx ⊢
    by_cases hxi : x = id
    · simp [hxi]
    · simp only [if_neg hxi]; exact h.ond x (hx.resolve_right hxi)

/-- What a call that turns bonds leaves. -/
def LeftB (w : World) (b : Nat) (F : Nat → Prop) (s' : Bs) (w' : World) : Prop := ∃ F', BondsAt w' b F' s' ∧ Mod F w w' ∧ Grows w F F'
theorem LeftB.same {w : World} {b : Nat} {F : Nat → Prop} {s : Bs} (h : BondsAt w b F s) : LeftB w b F s w := ⟨F, h, Mod.refl _ _, Grows.refl _ _⟩

set_option maxRecDepth 100000 in
set_option maxHeartbeats 800000 in
theorem bopen_new {w : World} {b : Nat} {F : Nat → Prop} {s : Bs} (h : BondsAt w b F s) {id : Int} (hw : (Lit.int .i64 id).wf = true) :
    Calls Try.prog 17 #[.pointer (some ⟨b, 0, none⟩), .int .i64 id] w fun e w' => e = .returned (.int .i64 (s.openE id)) ∧ LeftB w b F (if s.openE id = 0 then s.open_ id else s) w' := by
  have hs := LeftB.same h
  obtain ⟨mb, blk, row, role, D, hF, h⟩ := h
  have c0 := h.top0
  unfold Bs.openE
  by_cases h1 : id < 1
  · simp only [if_pos h1]
    clear h hF
    go_enter Try.func17, Try.ntmps17
    go_wp2
    go_ret
    exact ⟨rfl, hs⟩
  · simp only [if_neg h1]
    have hd1 : decide (id < 1) = false := by simpa using h1
    by_cases hi : id ∈ s.ids
    · have hl := h.look_in hi
      simp only [if_pos hi]
      clear h hF h1
      go_enter Try.func17, Try.ntmps17
      go_wp2
      go_ret
      exact ⟨rfl, hs⟩
    · have hl := h.look_out hi hw
      simp only [if_neg hi]
      have HM := Lib.hid h.map
      have HSZ := Lib.hid h.size
      have HH := Lib.hid h
      by_cases hm : 2000 ≤ s.ids.length
      · have hd2 : decide ((2000 : Int) ≤ (s.ids.length : Int)) = true := by simp; omega
        have hd3 : (2000 : Int) ≤ (s.ids.length : Int) := by omega
        simp only [if_pos hm]
        clear h hF h1
        go_enter Try.func17, Try.ntmps17
        go_wp2_with (at_len; refine wpList_len_own _ rfl _ _ rfl 3 85 Try.underlying82 nodeElem mb _ D rfl HM.out ?_; rw [HSZ.out])
        go_ret
        exact ⟨rfl, hs⟩
      · have hd2 : decide ((2000 : Int) ≤ (s.ids.length : Int)) = false := by simp; omega
        have hd3 : (s.ids.length : Int) < 2000 := by omega
        have HSM := Lib.hid (show s.ids.length < maxLen by unfold maxLen; omega)
        have HKY := Lib.hid (key_int hw)
        simp only [if_neg hm]
        clear h hs
        go_enter Try.func17, Try.ntmps17
        go_wp2_with (first | (at_len; refine wpList_len_own _ rfl _ _ rfl 3 85 Try.underlying82 nodeElem mb _ D rfl HM.out ?_; rw [HSZ.out]) | (at_mapUpdate; refine wpList_mapUpdate_own _ rfl _ _ _ _ rfl 3 85 bond_key Try.underlying82 nodeElem mb _ D rfl (HM.out.alloc _) HSM.out _ _ _ rfl rfl HKY.out (nodeD (some w.heap.size)) [] (nodeElem_mk (some w.heap.size)) ?_))
        intro w2 hm2 hg2
        go_wp2_with fail
        go_ret
        have H := HH.out
        have hmb : role mb = .map := H.rm
        have hlt : ∀ g, role g ≠ Role.none → g < w.heap.size := H.lt
        have hnew : role w.heap.size = .none := by
          cases hr : role w.heap.size with
          | none => rfl
          | _ => exact absurd (hlt w.heap.size (by rw [hr]; simp)) (by omega)
        have hA : BA (w.alloc (.cells #[.int .i64 1, .slice none 0 0] 87)) b mb blk row role D s := H.mod ((Mod.refl (fun _ => False) w).alloc _) (fun _ _ h => h)
        have hmod : Mod (fun g => g = mb) (w.alloc (.cells #[.int .i64 1, .slice none 0 0] 87)) w2 := Mod.of_grown hg2 (fun k hk => .inl (by simpa using hk.symm))
        have hid : ∀ x ∈ s.ids, x ≠ id := fun x hx e => hi (e ▸ hx)
        refine ⟨rfl, fun g => (if g = w.heap.size then Role.node id else role g) ≠ .none, ⟨mb, fun x => if x = id then w.heap.size else blk x, fun x => if x = id then .slice none 0 0 else row x, fun g => if g = w.heap.size then Role.node id else role g, D.put (.int .i64 id) (nodeD (some w.heap.size)), fun _ => Iff.rfl, ?_⟩, ?_, ?_⟩
        · refine ⟨hmod.keep hA.top (by rintro rfl; rw [H.rb] at hmb; cases hmb), ?_, ?_, ?_, ?_, ?_, ?_, ?_, ?_, ?_, ?_, open_good H.good (by omega) (bounds_i64 hw).2 hi (by omega)⟩
          · simpa [Bs.open_] using hm2
          · exact H.is.put (H.map.isMap) id w.heap.size
          · rw [Go.Maps.size_put (H.map.tidy bond_key), (H.is id).1, H.size]
            simp [Bs.open_, hi]
          · intro x hx
            simp only [Bs.open_, List.mem_append, List.mem_singleton] at hx ⊢
            by_cases hxi : x = id
            · simp only [if_pos hxi]
              exact hmod.keep (blk_at rfl) (by rintro rfl; rw [hnew] at hmb; cases hmb)
            · simp only [if_neg hxi]
              have hx' := hx.resolve_right hxi
              exact hmod.keep (hA.node x hx') (by intro e; have := H.rn x hx'; rw [e, hmb] at this; cases this)
          · intro x hx
            simp only [Bs.open_, List.mem_append, List.mem_singleton] at hx ⊢
            by_cases hxi : x = id
            · simp only [if_pos hxi]
              exact Owned.nil _ _ _
            · simp only [if_neg hxi]
              have hx' := hx.resolve_right hxi
              exact (hA.rows x hx').mod hmod (by rintro g hg rfl; have := H.rr x hx' _ hg; rw [hmb] at this; cases this)
          · have : b ≠ w.heap.size := by rintro rfl; have := H.rb; rw [hnew] at this; cases this
            simp only [if_neg this]; exact H.rb
          · have : mb ≠ w.heap.size := by rintro rfl; rw [hnew] at hmb; cases hmb
            simp only [if_neg this]; exact hmb
          · intro x hx
            simp only [Bs.open_, List.mem_append, List.mem_singleton] at hx
            by_cases hxi : x = id
            · simp [hxi]
            · have hx' := hx.resolve_right hxi
              have : blk x ≠ w.heap.size := by intro e; have := H.rn x hx'; rw [e, hnew] at this; cases this
              simp only [if_neg hxi, if_neg this]; exact H.rn x hx'
          · intro x hx g hg
            simp only [Bs.open_, List.mem_append, List.mem_singleton] at hx
            by_cases hxi : x = id
            · simp [hxi, Value.ownBlock] at hg
            · have hx' := hx.resolve_right hxi
              simp only [if_neg hxi] at hg
              have h3 := H.rr x hx' g hg
              have : g ≠ w.heap.size := by rintro rfl; rw [hnew] at h3; cases h3
              simp only [if_neg this]; exact h3
          · intro g hg
            have hsz := hmod.size
            simp only [World.size_alloc] at hsz
            by_cases hgn : g = w.heap.size
            · omega
            · simp only [if_neg hgn] at hg
              have := hlt g hg
              omega
        · exact (((Mod.refl F w).alloc _).next hmod (fun g hg => .inl (by subst hg; exact (hF _).2 (by rw [hmb]; simp))))
        · intro g hg
          by_cases hgn : g = w.heap.size
          · exact .inr (by omega)
          · simp only [if_neg hgn] at hg
            exact .inl ((hF g).2 hg)
end Go.Proofs.Ytbihfjehlbaahaa
