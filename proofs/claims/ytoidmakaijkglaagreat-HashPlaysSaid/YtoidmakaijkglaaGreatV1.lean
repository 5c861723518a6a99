/- A store over time: the links that live, their versions. -/
import Derived.Test.YtoidmakaijkglaaGreatT5
import Derived.Test.YtoidmakaijkglaaGreatV0
namespace Go.Proofs.YtoidmakaijkglaaGreat
open Go.RowKit

/-- A store of n slots over time: the links that live, those that are gone, and what each that lives is. -/
structure RI (n : Nat) (k : Int) (s : RS) (live gone : List Int) (V : Int → Ver) : Prop where
  si : SI n k s.p.listed live gone
  ok : s.ok
  ver : ∀ a ∈ live, s.ver (slotOf a) = V a
section
variable {n : Nat} {k : Int} {s : RS} {live gone : List Int} {V : Int → Ver}
theorem RI.new (h0 : 1 ≤ n) (h1 : n ≤ 4096) (V : Int → Ver) : RI n 0 (RS.new n) [] [] V :=
  ⟨SI.new h0 h1, ⟨by simp [RS.new, PS.new], by simp [RS.new, PS.new]⟩, fun a ha => by simp at ha⟩
theorem listed_live (p : PS) (x : Int) : p.listed.live x = p.live x := by
  unfold PS.live PS.link PS.listed
  cases p.init <;> rfl
theorem RI.lives (h : RI n k s live gone V) {a : Int} (ha : a ∈ live) : s.p.live a = true := by
  rw [← listed_live]
  exact h.si.lv a ha
theorem RI.stale (h : RI n k s live gone V) (hn : n ≤ 4096) {a : Int} (ha : a ∈ gone) : s.p.live a = false := by
  rw [← listed_live]
  exact h.si.gone_stale hn ha
theorem RI.len (h : RI n k s live gone V) : s.p.sl.length = n := by
  have := h.si.len
  rwa [listed_sl] at this
theorem RI.cnt (h : RI n k s live gone V) : cnt s.p.sl = live.length := by
  have := h.si.cl
  rw [listed_sl] at this
  exact this.symm
theorem RI.mono (h : RI n k s live gone V) {k' : Int} (hk : k ≤ k') : RI n k' s live gone V := ⟨h.si.mono hk, h.ok, h.ver⟩
theorem RI.range (h : RI n k s live gone V) {a : Int} (ha : a ∈ live) : 1 ≤ a ∧ a ≤ 8589934591 := h.si.range ha
theorem RI.slot (h : RI n k s live gone V) {a : Int} (ha : a ∈ live) : slotOf a < n := by
  have := (slot_live (h.lives ha)).1
  rw [h.len] at this
  exact this
theorem RI.slot_ne (h : RI n k s live gone V) {a b : Int} (ha : a ∈ live) (hb : b ∈ live) (hne : ¬ a = b) : slotOf a ≠ slotOf b := by
  intro e
  have h1 := (slot_live (h.lives ha)).2.2.1
  have h2 := (slot_live (h.lives hb)).2.2.1
  rw [e, h2] at h1
  exact hne h1.symm
/-- Room, or not. -/
theorem RI.room (h : RI n k s live gone V) : (live.length = n ∧ s.p.listed.free = []) ∨ (live.length < n ∧ ∃ l i, s.p.listed.free = l ++ [((i : Nat) : Int)]) := by
  have hf := h.si.free
  rcases List.eq_nil_or_concat s.p.listed.free with e | ⟨l, z, e⟩
  · left
    rw [e] at hf
    exact ⟨by simpa using hf, e⟩
  · right
    rw [List.concat_eq_append] at e
    have hz := (h.si.ok.free z (by rw [e]; simp)).1
    refine ⟨by rw [e] at hf; simp at hf; omega, l, z.toNat, by rw [e, show ((z.toNat : Nat) : Int) = z by omega]⟩
theorem getD_set_ne {α : Type} {l : List α} {i j : Nat} {a d : α} (h : i ≠ j) : (l.set i a).getD j d = l.getD j d := by
  simp [List.getD_eq_getElem?_getD, List.getElem?_set_ne h]
theorem getD_set_same {α : Type} {l : List α} {i : Nat} {a d : α} (h : i < l.length) : (l.set i a).getD i d = a := by
  simp [List.getD_eq_getElem?_getD, h]
theorem make_ver_ne {l : List Int} {i j : Nat} {key v x y : Int} (h : i ≠ j) : (s.make l i key v x y).ver j = s.ver j := by
  unfold RS.ver RS.make
  simp only
  rw [getD_set_ne h, getD_set_ne (by omega), getD_set_ne (by omega), getD_set_ne (by omega), getD_set_ne (by omega), getD_set_ne (by omega), getD_set_ne (by omega), getD_set_ne (by omega), getD_set_ne (by omega), getD_set_ne (by omega)]
theorem make_ver_same (hs : s.ok) {l : List Int} {i : Nat} {key v x y : Int} (hi : i < s.p.sl.length) : (s.make l i key v x y).ver i = ⟨key, v, x, y, 0⟩ := by
  have h1 := hs.ws
  have h2 := hs.d
  unfold RS.ver RS.make
  simp only
  rw [getD_set_same (by omega), getD_set_ne (by omega), getD_set_ne (by omega), getD_set_same (by omega), getD_set_ne (by omega), getD_set_same (by simp; omega), getD_set_same (by simp; omega)]
/-- One is made. -/
theorem RI.make (h : RI n k s live gone V) {l : List Int} {i : Nat} (hl : s.p.listed.free = l ++ [(i : Int)]) (key v x y : Int) :
    ¬ s.p.listed.link i ∈ live ∧ ¬ s.p.listed.link i ∈ gone ∧ RI n k (s.make l i key v x y) (live ++ [s.p.listed.link i]) gone (fun a => if a = s.p.listed.link i then ⟨key, v, x, y, 0⟩ else V a) := by
  obtain ⟨h1, h2, h3⟩ := h.si.take hl
  have hf := h.si.ok.free i (by rw [hl]; simp)
  have hi : i < s.p.sl.length := by have := hf.2.1; rw [listed_sl] at this; omega
  have hso : slotOf (s.p.listed.link i) = i := by
    have := (link_range h.si.ok (i := i) (by rw [listed_sl]; exact hi)).2.2.1
    unfold slotOf
    omega
  have hini : (s.p.listed.take l i).init = true := listed_init s.p
  have hnl : ¬ s.p.listed.link i ∈ live := fun hm => h1 _ hm rfl
  refine ⟨hnl, fun hm => h2 _ hm rfl, ⟨?_, ⟨?_, ?_⟩, ?_⟩⟩
  · show SI n k (s.p.listed.take l i).listed _ _
    rw [listed_yes hini]
    exact h3
  · have := h.ok.ws
    simp [RS.make, take_len, this]
  · have := h.ok.d
    simp [RS.make, take_len, this]
  · intro a ha
    by_cases e : a = s.p.listed.link i
    · rw [if_pos e, e, hso, make_ver_same h.ok hi]
    · rw [if_neg e]
      have ha' : a ∈ live := by
        rcases List.mem_append.1 ha with h4 | h4
        · exact h4
        · simp at h4
          exact absurd h4 e
      rw [make_ver_ne, h.ver a ha']
      intro e2
      have h5 := (slot_live (h.lives ha'))
      have h6 : (s.p.sl.getD i slot0).taken = false := by
        have := hf.2.2
        rw [listed_sl] at this
        simpa using this
      rw [← e2] at h5
      rw [h5.2.2.2] at h6
      cases h6
theorem setw_ver_ne {i j q : Nat} {y : Int} (hq : q ≤ 2) (h : i ≠ j) : (s.setw (i * 3 + q) y).ver j = s.ver j := by
  unfold RS.ver RS.setw
  simp only
  rw [getD_set_ne (by omega), getD_set_ne (by omega), getD_set_ne (by omega)]
/-- A version's next one is set. -/
theorem RI.next (h : RI n k s live gone V) {a : Int} (ha : a ∈ live) (y : Int) : RI n k (s.setw (slotOf a * 3 + 2) y) live gone (fun b => if b = a then { V b with nx := y } else V b) := by
  refine ⟨h.si, ⟨by simp [RS.setw, h.ok.ws], h.ok.d⟩, ?_⟩
  intro b hb
  by_cases e : b = a
  · subst e
    have h1 := h.ver b hb
    have h2 := h.ok.ws
    have h3 := h.slot hb
    rw [if_pos rfl, ← h1]
    unfold RS.ver RS.setw
    simp only
    rw [getD_set_ne (by omega), getD_set_ne (by omega), getD_set_same (by rw [h2, h.len]; omega)]
  · rw [if_neg e, ← h.ver b hb]
    exact setw_ver_ne (by decide) (h.slot_ne ha hb (fun e2 => e e2.symm))
/-- One is given back. -/
theorem RI.free (h : RI n k s live gone V) (hk : k ≤ 100) {q : Nat} (hq : q < live.length) : RI n (k + 1) (s.free (live.getD q 0)) (live.take q ++ live.drop (q + 1)) (gone ++ [live.getD q 0]) V := by
  have hm : live.getD q 0 ∈ live := by simp [List.getD_eq_getElem?_getD, hq]
  obtain ⟨h1, h2, h3, h4⟩ := slot_live (h.lives hm)
  have hsi := h.si.give hk hq (i := slotOf (live.getD q 0)) (by rw [← h.len]; exact h1) (by rw [listed_sl]; exact h4) (by unfold PS.link; rw [listed_sl]; exact h3)
  have hini : s.p.init = true := by
    cases hin : s.p.init
    · have hc := h.si.ok
      have e : s.p.sl = s.p.listed.sl := (listed_sl s.p).symm
      have hcc := h.cnt
      have hpos := cnt_pos h1 h4
      have hz : Go.Proofs.YtoidmakaijkglaaGreat.cnt s.p.sl = 0 := by
        have h5 := h.si.free
        have h6 : s.p.listed.free.length = n := by
          unfold PS.listed
          rw [hin]
          simp [dn_len, h.len]
        rw [h6] at h5
        omega
      omega
    · rfl
  have hli : s.p.listed = s.p := listed_yes hini
  rw [hli] at hsi
  refine ⟨?_, ⟨?_, ?_⟩, ?_⟩
  · show SI n (k + 1) (s.p.give (slotOf (live.getD q 0))).listed _ _
    rw [listed_yes hsi.ini]
    exact hsi
  · show s.ws.length = (s.p.give _).sl.length * 3
    rw [give_len]
    exact h.ok.ws
  · show s.d.length = (s.p.give _).sl.length
    rw [give_len]
    exact h.ok.d
  · intro a ha
    have : a ∈ live := by
      rcases List.mem_append.1 ha with h5 | h5
      · exact List.mem_of_mem_take h5
      · exact List.mem_of_mem_drop h5
    exact h.ver a this
theorem RI.listed (h : RI n k s live gone V) : RI n k s.listed live gone V := by
  refine ⟨?_, ⟨?_, ?_⟩, h.ver⟩
  · show SI n k s.p.listed.listed live gone
    rw [listed_listed]
    exact h.si
  · show s.ws.length = s.p.listed.sl.length * 3
    rw [listed_sl]
    exact h.ok.ws
  · show s.d.length = s.p.listed.sl.length
    rw [listed_sl]
    exact h.ok.d
end
end Go.Proofs.YtoidmakaijkglaaGreat
