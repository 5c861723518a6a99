/- The document's bonds (vinculumref16) in memory; at, State, waits. -/
import Derived.Test.YtbihfjehlbaahaaJH
namespace Go.Proofs.Ytbihfjehlbaahaa
open Go.RowKit

structure RS where
  ids : List Int
  st : List Int
  fr : List Int
  tt : List Int
structure RS.ok (r : RS) : Prop where
  nodup : r.ids.Nodup
  slen : r.st.length = r.ids.length
  tlen : r.tt.length = r.fr.length
  few : r.ids.length ≤ 2000
  small : r.fr.length ≤ 100000
  tin : ∀ x ∈ r.tt, x ∈ r.ids
/-- What stands at an id. -/
def lookS : List Int → List Int → Int → Int
  | i :: is, s :: ss, x => if i = x then s else lookS is ss x
  | _, _, _ => 0
theorem lookS_out : ∀ {is ss : List Int} {x : Int}, x ∉ is → lookS is ss x = 0
  | [], _, _, _ => by simp [lookS]
  | i :: is, [], _, _ => by simp [lookS]
  | i :: is, s :: ss, x, h => by
    rw [lookS, if_neg (fun e => h (by simp [e]))]
    exact lookS_out (fun hx => h (by simp [hx]))
theorem lookS_at : ∀ {is ss : List Int} {n : Nat} {x : Int}, is.Nodup → ss.length = is.length → n < is.length → is.getD n 0 = x → lookS is ss x = ss.getD n 0
  | [], _, _, _, _, _, h, _ => by simp at h
  | i :: is, [], _, _, _, h, _, _ => by simp at h
  | i :: is, s :: ss, 0, x, _, _, _, e => by
    have : i = x := by simpa using e
    rw [lookS, if_pos this]; simp
  | i :: is, s :: ss, n + 1, x, hn, hl, hlt, e => by
    have hc := List.nodup_cons.1 hn
    have e2 : is.getD n 0 = x := by simpa using e
    have hlt2 : n < is.length := by simpa using hlt
    have hx : x ∈ is := e2 ▸ get_mem hlt2
    rw [lookS, if_neg (fun h => hc.1 (by rw [h]; exact hx))]
    have := lookS_at (is := is) (ss := ss) (n := n) (x := x) hc.2 (by simpa using hl) hlt2 e2
    rw [this]; simp
def RS.stOf (r : RS) (x : Int) : Int := lookS r.ids r.st x
structure RC (w : World) (c : Nat) (iv sv fv tv : Value) (r : RS) : Prop where
  top : w.heap[c]? = some (.cells #[iv, sv, fv, tv] 48 (0, 0))
  oi : Owned .i64 3 w iv r.ids
  os : Owned .i64 3 w sv r.st
  of : Owned .i64 3 w fv r.fr
  ot : Owned .i64 3 w tv r.tt
  ci : iv.ownBlock ≠ some c
  cs : sv.ownBlock ≠ some c
  cf : fv.ownBlock ≠ some c
  ct : tv.ownBlock ≠ some c
  si : ∀ g, iv.ownBlock = some g → sv.ownBlock ≠ some g
  fi : ∀ g, iv.ownBlock = some g → fv.ownBlock ≠ some g
  ti : ∀ g, iv.ownBlock = some g → tv.ownBlock ≠ some g
  fs : ∀ g, sv.ownBlock = some g → fv.ownBlock ≠ some g
  ts : ∀ g, sv.ownBlock = some g → tv.ownBlock ≠ some g
  tf : ∀ g, fv.ownBlock = some g → tv.ownBlock ≠ some g
structure RM (w : World) (c : Nat) (iv sv fv tv : Value) (r : RS) : Prop extends RC w c iv sv fv tv r where
  ok : r.ok
/-- Whose blocks are theirs. -/
def RM.F (c : Nat) (iv sv fv tv : Value) (g : Nat) : Prop := g = c ∨ iv.ownBlock = some g ∨ sv.ownBlock = some g ∨ fv.ownBlock = some g ∨ tv.ownBlock = some g
section
variable {w w1 : World} {c : Nat} {iv sv fv tv : Value} {r : RS}
theorem RM.mod {G : Nat → Prop} (h : RM w c iv sv fv tv r) (hm : Mod G w w1) (hG : ∀ g, RM.F c iv sv fv tv g → ¬ G g) : RM w1 c iv sv fv tv r :=
  { h with
    top := hm.keep h.top (hG c (.inl rfl))
    oi := h.oi.mod hm (fun g hg => hG g (.inr (.inl hg)))
    os := h.os.mod hm (fun g hg => hG g (.inr (.inr (.inl hg))))
    of := h.of.mod hm (fun g hg => hG g (.inr (.inr (.inr (.inl hg)))))
    ot := h.ot.mod hm (fun g hg => hG g (.inr (.inr (.inr (.inr hg))))) }
theorem RM.below (h : RM w c iv sv fv tv r) (hm : Below w.heap.size w w1) : RM w1 c iv sv fv tv r := h.mod (Mod.of_below (F := fun _ => False) hm) (fun _ _ h => h)
theorem RM.cells (h : RM w c iv sv fv tv r) : w.cell? ⟨c, 0, none⟩ = some iv ∧ w.cell? ⟨c, 1, none⟩ = some sv ∧ w.cell? ⟨c, 2, none⟩ = some fv ∧ w.cell? ⟨c, 3, none⟩ = some tv := by
  refine ⟨?_, ?_, ?_, ?_⟩ <;> (rw [blk_cell h.top]; simp)
theorem own_some {k : IntKind} {E : TypeId} {w : World} {a : Option Addr} {n cap : Nat} {l : List Int} (h : Owned k E w (.slice a n cap) l) : ∀ i, i < l.length → ∃ g, a = some ⟨g, 0, none⟩ := fun i hi => by
  obtain ⟨a', cap', h1, _, h2, h3⟩ := h.form
  simp only [Value.slice.injEq] at h1
  obtain ⟨rfl, _, rfl⟩ := h1
  cases a with
  | none => have := (h2 rfl).1; omega
  | some g => exact ⟨g.block, by rw [← (h3 g rfl).1]⟩

set_option maxRecDepth 100000 in
set_option maxHeartbeats 1600000 in
theorem rb_at (h : RM w c iv sv fv tv r) (x : Int) :
    Calls Try.prog 55 #[.pointer (some ⟨c, 0, none⟩), .int .i64 x] w fun e w' => w = w' ∧ ((e = .returned (.int .i64 (-1)) ∧ x ∉ r.ids) ∨ ∃ n : Nat, n < r.ids.length ∧ e = .returned (.int .i64 n) ∧ r.ids.getD n 0 = x) := by
  obtain ⟨c0, -, -, -⟩ := h.cells
  obtain ⟨ia, ic, hiv, i1, -, -⟩ := h.oi.form
  subst hiv
  have HI := Lib.hid (own_some h.oi)
  have HO := Lib.hid h.oi
  have hfew := h.ok.few
  clear h
  go_enter Try.func55, Try.ntmps55
  go_wp2_with fail
  go_loopg [5] r.ids.length (fun kx jv wr => ∃ (i : Nat), jv = .int .i64 (i : Int) ∧ i ≤ r.ids.length ∧ r.ids.length - i ≤ kx ∧ Hid (∀ j, j < i → r.ids.getD j 0 ≠ x) ∧ wr = w)
  case atStart => exact ⟨0, rfl, Nat.zero_le _, by omega, Lib.hid (fun j hj => by omega), rfl⟩
  case round =>
    obtain ⟨i, rfl, hi, hix, HN, rfl⟩ := hrel
    have q0 : (0 : Int) ≤ (i : Int) := by omega
    by_cases hlt : i < r.ids.length
    · have q1 : (i : Int) < (r.ids.length : Int) := by omega
      obtain ⟨g, rfl⟩ := HI.out i hlt
      have d1 := HO.out.at_ hlt
      have HE := Lib.hid (fun (e : r.ids.getD i 0 = x) => (⟨i, hlt, rfl, e⟩ : ∃ n : Nat, n < r.ids.length ∧ Ending.returned (.int .i64 (i : Int)) = .returned (.int .i64 (n : Int)) ∧ r.ids.getD n 0 = x))
      have HST := Lib.hid (fun (e : r.ids.getD i 0 ≠ x) => (fun j hj => by
        by_cases h : j = i
        · rw [h]; exact e
        · exact HN.out j (by omega) : ∀ j, j < i + 1 → r.ids.getD j 0 ≠ x))
      generalize r.ids.getD i 0 = y at *
      clear HN
      by_cases hyx : y = x
      · have hE := HE.out hyx
        have HE2 := Lib.hid hE
        have e1 : (y == x) = true := by simp [hyx]
        clear HE HST hyx hE
        go_wp2_with fail
        go_ret
        exact ⟨rfl, .inr HE2.out⟩
      · have HS2 := Lib.hid (HST.out hyx)
        have e1 : (y == x) = false := by simpa using hyx
        clear HE HST hyx
        go_wp2_with fail
        go_roundg (r.ids.length - (i + 1))
        case rel => exact ⟨i + 1, by go_num, by omega, by omega, HS2, rfl⟩
        case measure => omega
    · have HNO := Lib.hid (show x ∉ r.ids from fun hx => by
        obtain ⟨j, hj, e⟩ := mem_get hx
        exact HN.out j (by omega) e)
      clear HN
      go_wp2_with fail
      go_ret
      exact ⟨rfl, .inl ⟨rfl, HNO.out⟩⟩

set_option maxRecDepth 100000 in
set_option maxHeartbeats 1600000 in
theorem rb_state (h : RM w c iv sv fv tv r) (x : Int) :
    Calls Try.prog 29 #[.pointer (some ⟨c, 0, none⟩), .int .i64 x] w fun e w' => e = .returned (.int .i64 (r.stOf x)) ∧ w = w' := by
  obtain ⟨-, c1, -, -⟩ := h.cells
  have HA := Lib.hid (rb_at h x)
  obtain ⟨sa, sc, hsv, s1, -, -⟩ := h.os.form
  subst hsv
  have HI := Lib.hid (own_some h.os)
  have HO := Lib.hid h.os
  have HK := Lib.hid h.ok
  have hsl := h.ok.slen
  have hfew := h.ok.few
  have HSL := Lib.hid hsl
  clear h hsl
  go_enter Try.func29, Try.ntmps29
  go_wp2_with fail
  refine HA.out.mono ?_
  rintro e w' ⟨rfl, ⟨rfl, hno⟩ | ⟨n, hn, rfl, hx⟩⟩
  · have HNO := Lib.hid (lookS_out (ss := r.st) hno)
    clear hno HA
    go_wp2_with fail
    go_ret
    exact ⟨by rw [RS.stOf, HNO.out]; rfl, rfl⟩
  · have hls := lookS_at HK.out.nodup HK.out.slen hn hx
    have hns : n < r.st.length := by rw [HSL.out]; exact hn
    obtain ⟨g, rfl⟩ := HI.out n hns
    have d1 := HO.out.at_ hns
    rw [← hls] at d1
    have q0 : (0 : Int) ≤ (n : Int) := by omega
    have q1 : (n : Int) < (r.st.length : Int) := by omega
    clear hls HA hx
    go_wp2_with fail
    go_ret
    exact ⟨rfl, rfl⟩

/-- A bond that is told. -/
def RS.bond (r : RS) (x y : Int) : Prop := ∃ i, i < r.fr.length ∧ r.fr.getD i 0 = x ∧ r.tt.getD i 0 = y

set_option maxRecDepth 100000 in
set_option maxHeartbeats 3200000 in
theorem rb_waits (h : RM w c iv sv fv tv r) (x y : Int) :
    Calls Try.prog 56 #[.pointer (some ⟨c, 0, none⟩), .int .i64 x, .int .i64 y] w fun e w' => ∃ b, e = .returned (.bool b) ∧ (b = true ↔ r.bond x y ∧ r.stOf y ≠ 3) ∧ w = w' := by
  obtain ⟨-, -, c2, c3⟩ := h.cells
  have HA := Lib.hid (rb_state h y)
  obtain ⟨fa, fc, hfv, f1, -, -⟩ := h.of.form
  obtain ⟨ta, tc, htv, t1, -, -⟩ := h.ot.form
  subst hfv htv
  have HF := Lib.hid (own_some h.of)
  have HT := Lib.hid (own_some h.ot)
  have HFO := Lib.hid h.of
  have HTO := Lib.hid h.ot
  have HTL := Lib.hid h.ok.tlen
  have hsm := h.ok.small
  clear h
  go_enter Try.func56, Try.ntmps56
  go_wp2_with fail
  go_loopg [7] r.fr.length (fun kx jv wr => ∃ (i : Nat), jv = .int .i64 (i : Int) ∧ i ≤ r.fr.length ∧ r.fr.length - i ≤ kx ∧ Hid (∀ j, j < i → ¬ (r.fr.getD j 0 = x ∧ r.tt.getD j 0 = y ∧ r.stOf y ≠ 3)) ∧ wr = w)
  case atStart => exact ⟨0, rfl, Nat.zero_le _, by omega, Lib.hid (fun j hj => by omega), rfl⟩
  case round =>
    obtain ⟨i, rfl, hi, hix, HN, rfl⟩ := hrel
    have q0 : (0 : Int) ≤ (i : Int) := by omega
    by_cases hlt : i < r.fr.length
    · have q1 : (i : Int) < (r.fr.length : Int) := by omega
      have hlt2 : i < r.tt.length := by rw [HTL.out]; exact hlt
      have q2 : (i : Int) < (r.tt.length : Int) := by omega
      obtain ⟨g, rfl⟩ := HF.out i hlt
      obtain ⟨k, rfl⟩ := HT.out i hlt2
      have d1 := HFO.out.at_ hlt
      have d2 := HTO.out.at_ hlt2
      have HYES := Lib.hid (fun (e : r.fr.getD i 0 = x) (e2 : r.tt.getD i 0 = y) => (⟨i, hlt, e, e2⟩ : r.bond x y))
      have HST := Lib.hid (fun (e : ¬ (r.fr.getD i 0 = x ∧ r.tt.getD i 0 = y ∧ r.stOf y ≠ 3)) => (fun j hj => by
        by_cases h : j = i
        · rw [h]; exact e
        · exact HN.out j (by omega) : ∀ j, j < i + 1 → ¬ (r.fr.getD j 0 = x ∧ r.tt.getD j 0 = y ∧ r.stOf y ≠ 3)))
      generalize r.fr.getD i 0 = p at *
      generalize r.tt.getD i 0 = q at *
      clear HN hlt2
      by_cases e1 : p = x
      · have b1 : (p == x) = true := by simp [e1]
        by_cases e2 : q = y
        · have b2 : (q == y) = true := by simp [e2]
          by_cases e3 : r.stOf y = 3
          · have HS2 := Lib.hid (HST.out (fun h => h.2.2 e3))
            have hA := HA.out
            rw [e3] at hA
            have HA2 := Lib.hid hA
            clear HST HYES e1 e2 e3 hA
            go_wp2_with fail
            refine HA2.out.mono ?_
            rintro e w' ⟨rfl, rfl⟩
            go_wp2_with fail
            go_roundg (r.fr.length - (i + 1))
            case rel => exact ⟨i + 1, by go_num, by omega, by omega, HS2, rfl⟩
            case measure => omega
          · have b3 : (r.stOf y != 3) = true := by simpa using e3
            have HY := Lib.hid (And.intro (HYES.out e1 e2) e3)
            clear HST HYES e1 e2 e3
            go_wp2_with fail
            refine HA.out.mono ?_
            rintro e w' ⟨rfl, rfl⟩
            go_wp2_with fail
            go_ret
            exact ⟨true, rfl, ⟨fun _ => HY.out, fun _ => rfl⟩, rfl⟩
        · have b2 : (q == y) = false := by simpa using e2
          have HS2 := Lib.hid (HST.out (fun h => e2 h.2.1))
          clear HST HYES e1 e2
          go_wp2_with fail
          go_roundg (r.fr.length - (i + 1))
          case rel => exact ⟨i + 1, by go_num, by omega, by omega, HS2, rfl⟩
          case measure => omega
      · have b1 : (p == x) = false := by simpa using e1
        have HS2 := Lib.hid (HST.out (fun h => e1 h.1))
        clear HST HYES e1
        go_wp2_with fail
        go_roundg (r.fr.length - (i + 1))
        case rel => exact ⟨i + 1, by go_num, by omega, by omega, HS2, rfl⟩
        case measure => omega
    · have HNO := Lib.hid (show ¬ (r.bond x y ∧ r.stOf y ≠ 3) from fun ⟨⟨j, hj, e1, e2⟩, e3⟩ => HN.out j (by omega) ⟨e1, e2, e3⟩)
      clear HN
      go_wp2_with fail
      go_ret
      exact ⟨false, rfl, ⟨fun h => by simp at h, fun h => absurd h HNO.out⟩, rfl⟩
end
end Go.Proofs.Ytbihfjehlbaahaa
