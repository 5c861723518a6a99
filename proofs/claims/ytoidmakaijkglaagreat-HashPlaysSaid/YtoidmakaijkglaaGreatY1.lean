/- A key's versions: the chain in memory; New, Head, all, the iterator. -/
import Derived.Test.YtoidmakaijkglaaGreatY0
import Derived.Test.YtoidmakaijkglaaGreatV1
namespace Go.Proofs.YtoidmakaijkglaaGreat
open Go.RowKit
attribute [local go_sem] Oper.semAt_some

/-- The links of a chain, the newest first. -/
structure Chn (s : RS) (ws : List Int) (at' : Nat) (L : List Int) : Prop where
  ix : at' < ws.length
  head : ws.getD at' 0 = L.getD 0 0
  live : ∀ a ∈ L, s.p.live a = true
  nd : L.Nodup
  next : ∀ k, k < L.length → (s.ver (slotOf (L.getD k 0))).nx = L.getD (k + 1) 0
theorem nodup_bound : ∀ (n : Nat) (l : List Nat), l.Nodup → (∀ x ∈ l, x < n) → l.length ≤ n
  | 0, l, _, h => by
    cases l with
    | nil => simp
    | cons a l => have := h a (by simp); omega
  | n + 1, l, hn, h => by
    by_cases hm : n ∈ l
    · have h1 := nodup_bound n (l.erase n) (hn.erase n) (fun x hx => by
        have h2 := h x (List.mem_of_mem_erase hx)
        have h3 : x ≠ n := fun e => by subst e; exact (List.Nodup.not_mem_erase hn) hx
        omega)
      rw [List.length_erase_of_mem hm] at h1
      omega
    · have := nodup_bound n l hn (fun x hx => by
        have h2 := h x hx
        have h3 : x ≠ n := fun e => hm (e ▸ hx)
        omega)
      omega
theorem nodup_map_on {α β : Type} {f : α → β} : ∀ {l : List α}, (∀ a ∈ l, ∀ b ∈ l, f a = f b → a = b) → l.Nodup → (l.map f).Nodup
  | [], _, _ => List.nodup_nil
  | a :: l, h, hn => by
    rw [List.map_cons, List.nodup_cons]
    rw [List.nodup_cons] at hn
    refine ⟨fun hm => ?_, nodup_map_on (fun x hx y hy e => h x (by simp [hx]) y (by simp [hy]) e) hn.2⟩
    obtain ⟨b, hb, e⟩ := List.mem_map.1 hm
    exact hn.1 (h b (by simp [hb]) a (by simp) e ▸ hb)
theorem live_inj {p : PS} {a b : Int} (ha : p.live a = true) (hb : p.live b = true) (h : slotOf a = slotOf b) : a = b := by
  rw [← (slot_live ha).2.2.1, ← (slot_live hb).2.2.1, h]
theorem live_range {p : PS} (h : p.ok) {a : Int} (ha : p.live a = true) : 1 ≤ a ∧ a ≤ 8589934591 := by
  obtain ⟨h1, _, h3, _⟩ := slot_live ha
  have := link_range h h1
  omega
theorem live_zero (p : PS) : p.live 0 = false := live_out (by omega)
section
variable {s : RS} {ws : List Int} {at' : Nat} {L : List Int}
theorem Chn.len (h : Chn s ws at' L) : L.length ≤ s.p.sl.length := by
  have := nodup_bound s.p.sl.length (L.map slotOf) (nodup_map_on (fun a ha b hb e => live_inj (h.live a ha) (h.live b hb) e) h.nd) (fun x hx => by
    obtain ⟨a, ha, rfl⟩ := List.mem_map.1 hx
    exact (slot_live (h.live a ha)).1)
  simpa using this
theorem getD_mem {L : List Int} {k : Nat} (h : k < L.length) : L.getD k 0 ∈ L := by simp [List.getD_eq_getElem?_getD, h]
theorem getD_out {L : List Int} {k : Nat} (h : L.length ≤ k) : L.getD k 0 = 0 := by simp [List.getD_eq_getElem?_getD, h]
theorem Chn.small (h : Chn s ws at' L) (hp : s.p.ok) (k : Nat) : 0 ≤ L.getD k 0 ∧ L.getD k 0 ≤ 8589934591 := by
  by_cases hk : k < L.length
  · have := live_range hp (h.live _ (getD_mem hk))
    omega
  · rw [getD_out (by omega)]
    omega
end

def chCells (sb ab at' : Nat) : Array Value := #[.pointer (some ⟨sb, 0, none⟩), .pointer (some ⟨ab, 0, none⟩), .int .i64 at']
def obChain (cb sb ab at' : Nat) : Ob := obBlk cb (chCells sb ab at') 92
/-- A chain, its store and its words, and other things, apart from one another. -/
def chL (cb sb ab at' : Nat) (Fs Fa : Nat → Prop) (s : RS) (ws : List Int) (M : List Ob) : List Ob := obChain cb sb ab at' :: obStore sb Fs s :: obArena ab Fa ws :: M
section
variable {w0 w w' : World} {cb sb ab at' : Nat} {Fs Fa : Nat → Prop} {s s' : RS} {ws ws' : List Int} {M : List Ob}
theorem chL_head (h : Sep w0 w (chL cb sb ab at' Fs Fa s ws M)) : w.heap[cb]? = some (.cells (chCells sb ab at') 92 (0, 0)) := h.head
theorem chL_store (h : Sep w0 w (chL cb sb ab at' Fs Fa s ws M)) : StoreAt w sb Fs s := h.second
theorem chL_arena (h : Sep w0 w (chL cb sb ab at' Fs Fa s ws M)) : ArenaAt w ab Fa ws := h.third
theorem chL_stepS (h : Sep w0 w (chL cb sb ab at' Fs Fa s ws M)) (hl : LeftS w sb Fs s' w') : ∃ Fs', Sep w0 w' (chL cb sb ab at' Fs' Fa s' ws M) := by
  obtain ⟨F', h'⟩ := h.swap.store hl
  exact ⟨F', h'.swap⟩
theorem chL_sameS (h : Sep w0 w (chL cb sb ab at' Fs Fa s ws M)) (hs : StoreAt w' sb Fs s') (hm : Mod Fs w w') : Sep w0 w' (chL cb sb ab at' Fs Fa s' ws M) :=
  (h.swap.step (A' := obStore sb Fs s') hs hm (Grows.refl _ _)).swap
theorem chL_stepA (h : Sep w0 w (chL cb sb ab at' Fs Fa s ws M)) (hl : LeftA w ab Fa ws' w') : Sep w0 w' (chL cb sb ab at' Fs Fa s ws' M) :=
  (h.bring3.step (A' := obArena ab Fa ws') hl.1 hl.2 (Grows.refl _ _)).back3
end

set_option maxRecDepth 100000 in
set_option maxHeartbeats 800000 in
theorem arena_len (b : Nat) (F : Nat → Prop) (l : List Int) (w : World) (h : ArenaAt w b F l) :
    Calls Tryz.prog 42 #[.pointer (some ⟨b, 0, none⟩)] w fun e w' => e = .returned (.int .i64 l.length) ∧ w = w' := by
  obtain ⟨sb, c, h1, rfl, hb, hs, h2, h3⟩ := h
  have c0 := blk_cell hb 0
  simp at c0
  clear hb hs
  generalize l.length = n at *
  go_enter Tryz.func42, Tryz.ntmps42
  go_wp2_with fail
  go_ret
  exact ⟨rfl, rfl⟩

set_option maxRecDepth 100000 in
set_option maxHeartbeats 800000 in
theorem chain_new (sb ab at' : Nat) (F : Nat → Prop) (l : List Int) (w : World) (h : ArenaAt w ab F l) (hi : at' < l.length) :
    Calls Tryz.prog 24 #[.pointer (some ⟨sb, 0, none⟩), .pointer (some ⟨ab, 0, none⟩), .int .i64 at'] w fun e w' =>
      e = .returned (.tuple #[.pointer (some ⟨w.heap.size, 0, none⟩), .int .i64 0]) ∧ w.alloc (.cells (chCells sb ab at') 92 (0, 0)) = w' := by
  have HL := Lib.hid (arena_len ab F l w h)
  clear h
  generalize l.length = n at *
  go_enter Tryz.func24, Tryz.ntmps24
  go_wp2_with fail
  refine HL.out.mono ?_
  rintro e w' ⟨rfl, rfl⟩
  go_wp2_with fail
  go_ret2
  exact ⟨rfl, rfl⟩


set_option maxRecDepth 100000 in
set_option maxHeartbeats 800000 in
theorem chain_head {w0 : World} {cb sb ab at' : Nat} {Fs Fa : Nat → Prop} {s : RS} {ws : List Int} {M : List Ob} (w : World) (h : Sep w0 w (chL cb sb ab at' Fs Fa s ws M)) (hi : at' < ws.length) :
    Calls Tryz.prog 12 #[.pointer (some ⟨cb, 0, none⟩)] w fun e w' => e = .returned (.int .u64 (ws.getD at' 0)) ∧ Sep w0 w' (chL cb sb ab at' Fs Fa s ws M) ∧ Mod Fa w w' := by
  have HL := Lib.hid (fun W (hW : W = w ∨ W = w.drew) => arena_load ab Fa ws at' W (by
    have := (chL_arena h).below (w1 := w.drew) (Below.drew (Below.refl _ _))
    rcases hW with rfl | rfl
    · exact chL_arena h
    · exact this) hi)
  have HS := Lib.hid h
  have c1 := blk_cell (chL_head h) 1
  have c2 := blk_cell (chL_head h) 2
  simp [chCells] at c1 c2
  clear h hi
  generalize ws.getD at' 0 = x at *
  go_enter Tryz.func12, Tryz.ntmps12
  go_wp2_with fail
  go_region_with (go_at_call 38; refine (HL.out _ (by first | exact .inl rfl | exact .inr rfl)).mono ?_; rintro e w1 ⟨rfl, hl⟩)
  all_goals
    have hS := chL_stepA (HS.out.below (Below.drew (Below.refl _ _))) hl
    have HR := Lib.hid (And.intro hS ((Mod.refl Fa w).drew.trans hl.2))
    clear hS hl
    go_wp2_with fail
    go_ret
    exact ⟨rfl, HR.out⟩
end Go.Proofs.YtoidmakaijkglaaGreat
