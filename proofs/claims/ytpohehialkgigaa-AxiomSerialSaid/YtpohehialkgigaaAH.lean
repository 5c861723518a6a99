/- slices.SortStableFunc over few places. -/
import Derived.Test.YtpohehialkgigaaAG
namespace Go.Proofs.Ytpohehialkgigaa
open Go.RowKit

/-- What a sort of places leaves: as many places, by their Deals' ends; of what was there the row alone has turned. -/
def Placed (w : World) (l : List Dl) (is : List (Fin l.length)) (v : Value) (e : Ending) (w' : World) : Prop :=
  e = .returned (.tuple #[]) ∧ ∃ js : List (Fin l.length), js.Perm is ∧ js.Pairwise (fun a b => (l.getD a.val dl0).en ≤ (l.getD b.val dl0).en) ∧
    Owned .i64 3 w' v (js.map fun i => (i.val : Int)) ∧ Mod (fun i => v.ownBlock = some i) w w'
set_option maxRecDepth 100000 in
set_option maxHeartbeats 800000 in
theorem ins_none (a : Option Addr) (cap : Nat) (f : Value) (w : World) :
    Calls Try.prog 54 #[.slice a 0 cap, .int .i64 0, .int .i64 0, f] w fun e w' => e = .returned (.tuple #[]) ∧ w' = w := by
  go_enter Try.func54, Try.ntmps54
  go_wp2_with fail
  go_loopg [8] 1 (fun _ iv wr => iv = .int .i64 1 ∧ wr = w)
  case atStart => exact ⟨rfl, rfl⟩
  case round =>
    obtain ⟨rfl, rfl⟩ := hrel
    go_wp2_with fail
    first | go_end0 | ((try simp only [Exit.inBlock, Exit.then]); refine bodyPost_ret (results_none rfl _ _ _) rfl ?_)
    exact ⟨rfl, rfl⟩
theorem placed_ins {w0 w : World} {v : Value} {l : List Dl} {B : Nat} {rv : Value} {is : List (Fin l.length)} (h : DealsAt w0 v l) (hb : Below w0.heap.size w0 w) (hg : ∀ g, rv.ownBlock = some g → w0.heap.size ≤ g) (hB : B < w.heap.size) (hne : ∀ g, rv.ownBlock = some g → B ≠ g) (hc : w.cell? ⟨B, 0, none⟩ = some v)
    (ho : Owned .i64 3 w rv (is.map fun i => (i.val : Int))) (hl : is.length ≤ 19) :
    Calls Try.prog 54 #[rv, .int .i64 0, .int .i64 is.length, .func (.func 44) #[] #[.pointer (some ⟨B, 0, none⟩)]] w (Placed w l is rv) := by
  rcases ho.2 with ⟨hv, hn⟩ | ⟨g, cap, cur, hv, _, hh, h1, h2, h3, h4⟩
  · have hn' : is = [] := by simpa using hn
    subst hn' hv
    refine (ins_none none 0 _ w).mono ?_
    rintro e w' ⟨rfl, rfl⟩
    exact ⟨rfl, [], .refl _, List.Pairwise.nil, ho, Mod.refl _ _⟩
  · have hlen : (is.map fun i => ((i.val : Nat) : Int)).length = is.length := by simp
    rw [hlen] at hv
    subst hv
    by_cases h0 : l.length = 0
    · cases is with
      | nil =>
        refine (ins_none _ cap _ w).mono ?_
        rintro e w' ⟨rfl, rfl⟩
        exact ⟨rfl, [], .refl _, List.Pairwise.nil, ho, Mod.refl _ _⟩
      | cons i _ => exact absurd i.isLt (by omega)
    · haveI : Inhabited (Fin l.length) := ⟨⟨0, by omega⟩⟩
      refine (ins_ints h hb (hg g rfl) hB (hne g rfl) hc ho (by omega)).mono ?_
      rintro e w' ⟨rfl, js, p, q, r, m⟩
      exact ⟨rfl, js, p, q, r, m.mono fun i hi => .inl (by rw [hi]; rfl)⟩
set_option maxRecDepth 100000 in
set_option maxHeartbeats 1600000 in
theorem placed_stable {w0 w : World} {v : Value} {l : List Dl} {B : Nat} {rv : Value} {is : List (Fin l.length)} (h : DealsAt w0 v l) (hb : Below w0.heap.size w0 w) (hg : ∀ g, rv.ownBlock = some g → w0.heap.size ≤ g) (hB : B < w.heap.size) (hne : ∀ g, rv.ownBlock = some g → B ≠ g) (hc : w.cell? ⟨B, 0, none⟩ = some v)
    (ho : Owned .i64 3 w rv (is.map fun i => (i.val : Int))) (hl : is.length ≤ 19) :
    Calls Try.prog 50 #[rv, .int .i64 is.length, .func (.func 44) #[] #[.pointer (some ⟨B, 0, none⟩)]] w (Placed w l is rv) := by
  have HI := Lib.hid (placed_ins h hb hg hB hne hc ho hl)
  clear h hb hg hB hne hc ho
  have d1 : decide ((20 : Int) ≤ (is.length : Int)) = false := by simp; omega
  have d2 : decide ((20 : Int) < (is.length : Int)) = false := by simp; omega
  have d3 : decide (20 ≤ is.length) = false := by simp; omega
  have d4 : decide (20 < is.length) = false := by simp; omega
  go_enter Try.func50, Try.ntmps50
  go_wp2_with fail
  go_loopg [7, 8] 1 (fun _ av bv wr => av = .int .i64 0 ∧ bv = .int .i64 20 ∧ wr = w)
  case atStart => exact ⟨rfl, rfl, rfl⟩
  case round =>
    obtain ⟨rfl, rfl, rfl⟩ := hrel
    go_wp2_with fail
    refine HI.out.mono ?_
    intro e w1 hp
    obtain ⟨rfl, hq⟩ := id hp
    have HP := Lib.hid hp
    clear hp hq HI
    go_wp2_with fail
    go_loopg [6] 1 (fun _ sv wr => sv = .int .i64 20 ∧ wr = w1)
    case atStart => exact ⟨rfl, rfl⟩
    case round =>
      obtain ⟨rfl, rfl⟩ := hrel
      go_wp2_with fail
      first | go_end0 | ((try simp only [Exit.inBlock, Exit.then]); refine bodyPost_ret (results_none rfl _ _ _) rfl ?_)
      exact HP.out
set_option maxRecDepth 100000 in
set_option maxHeartbeats 800000 in
theorem placed_sort {w0 w : World} {v : Value} {l : List Dl} {B : Nat} {rv : Value} {is : List (Fin l.length)} (h : DealsAt w0 v l) (hb : Below w0.heap.size w0 w) (hg : ∀ g, rv.ownBlock = some g → w0.heap.size ≤ g) (hB : B < w.heap.size) (hne : ∀ g, rv.ownBlock = some g → B ≠ g) (hc : w.cell? ⟨B, 0, none⟩ = some v)
    (ho : Owned .i64 3 w rv (is.map fun i => (i.val : Int))) (hl : is.length ≤ 19) :
    Calls Try.prog 43 #[rv, .func (.func 44) #[] #[.pointer (some ⟨B, 0, none⟩)]] w (Placed w l is rv) := by
  obtain ⟨a, cap, hv, _⟩ := ho.form
  rw [List.length_map] at hv
  have HI := Lib.hid (placed_stable h hb hg hB hne hc ho hl)
  clear h hb hg hB hne hc ho
  subst hv
  go_enter Try.func43, Try.ntmps43
  go_wp2_with fail
  refine HI.out.mono ?_
  intro e w1 hp
  obtain ⟨rfl, hq⟩ := id hp
  have HP := Lib.hid hp
  clear hp hq HI
  go_wp2_with fail
  first | go_end0 | ((try simp only [Exit.inBlock, Exit.then]); refine bodyPost_ret (results_none rfl _ _ _) rfl ?_)
  exact HP.out
end Go.Proofs.Ytpohehialkgigaa
