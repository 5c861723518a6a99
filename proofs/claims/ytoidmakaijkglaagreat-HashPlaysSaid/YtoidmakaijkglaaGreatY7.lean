/- A chain over time, with the links that live and those that are gone: what each call leaves. -/
import Derived.Test.YtoidmakaijkglaaGreatY6
namespace Go.Proofs.YtoidmakaijkglaaGreat
open Go.RowKit

/-- But for the word that leads on. -/
def SameVer (v u : Ver) : Prop := v.key = u.key ∧ v.val = u.val ∧ v.beg = u.beg ∧ v.en = u.en
theorem SameVer.refl (v : Ver) : SameVer v v := ⟨rfl, rfl, rfl, rfl⟩
theorem SameVer.nx {v u : Ver} (h : SameVer v u) {v' : Ver} {y : Int} (e : v' = { v with nx := y }) : SameVer v' u := by
  subst e
  exact h
theorem taken_bound : ∀ (l : List Slot) (is : List Nat), is.Nodup → (∀ i ∈ is, i < l.length ∧ (l.getD i slot0).taken = true) → is.length ≤ cnt l
  | _, [], _, _ => Nat.zero_le _
  | l, i :: r, hn, h => by
    rw [List.nodup_cons] at hn
    obtain ⟨h1, h2⟩ := h i (by simp)
    have h3 := taken_bound (l.set i ⟨0, false⟩) r hn.2 (fun j hj => by
      have hne : i ≠ j := fun e => hn.1 (e ▸ hj)
      rw [List.length_set]
      refine ⟨(h j (by simp [hj])).1, ?_⟩
      rw [List.getD_eq_getElem?_getD, List.getElem?_set_ne hne, ← List.getD_eq_getElem?_getD]
      exact (h j (by simp [hj])).2)
    have h4 : (l[i]).taken = true := by simpa [List.getD_eq_getElem?_getD, h1] using h2
    have h5 : 0 < cnt l := List.countP_pos_iff.2 ⟨l[i], List.getElem_mem h1, h4⟩
    have h6 : cnt (l.set i ⟨0, false⟩) = cnt l - 1 := by
      unfold cnt
      rw [List.countP_set h1]
      simp [h4]
    simp
    omega
structure CI (n : Nat) (k : Int) (s : RS) (ws L live gone : List Int) (V : Int → Ver) : Prop where
  si : SI n k s.p.listed live gone
  ok : s.ok
  ver : ∀ a ∈ live, SameVer (s.ver (slotOf a)) (V a)
  ch : Chn s ws 1 L
  sub : ∀ a ∈ L, a ∈ live
section
variable {n : Nat} {k : Int} {s : RS} {ws L live gone : List Int} {V : Int → Ver}
theorem CI.lives (h : CI n k s ws L live gone V) {a : Int} (ha : a ∈ live) : s.p.live a = true := by
  rw [← listed_live]
  exact h.si.lv a ha
theorem CI.stale (h : CI n k s ws L live gone V) (hn : n ≤ 4096) {a : Int} (ha : a ∈ gone) : s.p.live a = false := by
  rw [← listed_live]
  exact h.si.gone_stale hn ha
theorem CI.len (h : CI n k s ws L live gone V) : s.p.sl.length = n := by
  have := h.si.len
  rwa [listed_sl] at this
theorem CI.cnt (h : CI n k s ws L live gone V) : Go.Proofs.YtoidmakaijkglaaGreat.cnt s.p.sl = live.length := by
  have := h.si.cl
  rw [listed_sl] at this
  exact this.symm
theorem CI.range (h : CI n k s ws L live gone V) {a : Int} (ha : a ∈ live) : 1 ≤ a ∧ a ≤ 8589934591 := h.si.range ha
theorem CI.mono (h : CI n k s ws L live gone V) {k' : Int} (hk : k ≤ k') : CI n k' s ws L live gone V := ⟨h.si.mono hk, h.ok, h.ver, h.ch, h.sub⟩
/-- Who is not among them is none that lives. -/
theorem CI.dead (h : CI n k s ws L live gone V) {a : Int} (ha : ¬ a ∈ live) : s.p.live a = false := by
  cases hl : s.p.live a
  · rfl
  · exfalso
    apply ha
    rw [← listed_live] at hl
    have hnd : (live.map slotOf).Nodup := nodup_map_on (fun x hx y hy e => live_inj (h.si.lv x hx) (h.si.lv y hy) e) h.si.nd
    refine Decidable.byContradiction fun hna => ?_
    have h1 := h.si.cl
    have hall : ∀ x ∈ a :: live, s.p.listed.live x = true := fun x hx => by
      rcases List.mem_cons.1 hx with rfl | hx
      · exact hl
      · exact h.si.lv x hx
    have hnd2 : ((a :: live).map slotOf).Nodup := nodup_map_on (fun x hx y hy e => live_inj (hall x hx) (hall y hy) e) (List.nodup_cons.2 ⟨hna, h.si.nd⟩)
    have := taken_bound s.p.listed.sl ((a :: live).map slotOf) hnd2 (fun i hi => by
      obtain ⟨x, hx, rfl⟩ := List.mem_map.1 hi
      obtain ⟨q1, _, _, q2⟩ := slot_live (hall x hx)
      exact ⟨q1, q2⟩)
    simp at this
    omega
theorem CI.room (h : CI n k s ws L live gone V) : (live.length = n ∧ s.p.listed.free = []) ∨ (live.length < n ∧ ∃ l i, s.p.listed.free = l ++ [((i : Nat) : Int)]) := by
  have hf := h.si.free
  rcases List.eq_nil_or_concat s.p.listed.free with e | ⟨l, z, e⟩
  · left
    rw [e] at hf
    exact ⟨by simpa using hf, e⟩
  · right
    rw [List.concat_eq_append] at e
    have hz := (h.si.ok.free z (by rw [e]; simp)).1
    refine ⟨by rw [e] at hf; simp at hf; omega, l, z.toNat, by rw [e, show ((z.toNat : Nat) : Int) = z by omega]⟩
theorem CI.make (h : CI n k s ws L live gone V) {l : List Int} {i : Nat} (hl : s.p.listed.free = l ++ [(i : Int)]) (key v x y : Int) :
    ¬ s.p.listed.link i ∈ live ∧ ¬ s.p.listed.link i ∈ gone ∧ CI n k (s.make l i key v x y) ws L (live ++ [s.p.listed.link i]) gone (fun a => if a = s.p.listed.link i then ⟨key, v, x, y, 0⟩ else V a) := by
  obtain ⟨h1, h2, h3⟩ := h.si.take hl
  have hf := h.si.ok.free i (by rw [hl]; simp)
  have hi : i < s.p.sl.length := by have := hf.2.1; rw [listed_sl] at this; omega
  have hso : slotOf (s.p.listed.link i) = i := by
    have := (link_range h.si.ok (i := i) (by rw [listed_sl]; exact hi)).2.2.1
    unfold slotOf
    omega
  have hini : (s.p.listed.take l i).init = true := listed_init s.p
  have hnl : ¬ s.p.listed.link i ∈ live := fun hm => h1 _ hm rfl
  have hne : ∀ a ∈ live, i ≠ slotOf a := fun a ha e2 => by
    have h5 := slot_live (h.lives ha)
    have h6 : (s.p.sl.getD i slot0).taken = false := by
      have := hf.2.2
      rw [listed_sl] at this
      simpa using this
    rw [← e2] at h5
    rw [h5.2.2.2] at h6
    cases h6
  have hsi : SI n k (s.make l i key v x y).p.listed (live ++ [s.p.listed.link i]) gone := by
    show SI n k (s.p.listed.take l i).listed _ _
    rw [listed_yes hini]
    exact h3
  refine ⟨hnl, fun hm => h2 _ hm rfl, ⟨hsi, ⟨?_, ?_⟩, ?_, ⟨h.ch.ix, h.ch.head, fun a ha => ?_, h.ch.nd, fun j hj => ?_⟩, fun a ha => List.mem_append_left _ (h.sub a ha)⟩⟩
  · have := h.ok.ws
    simp [RS.make, take_len, this]
  · have := h.ok.d
    simp [RS.make, take_len, this]
  · intro a ha
    by_cases e : a = s.p.listed.link i
    · rw [if_pos e, e, hso, make_ver_same h.ok hi]
      exact SameVer.refl _
    · rw [if_neg e]
      have ha' : a ∈ live := by
        rcases List.mem_append.1 ha with h4 | h4
        · exact h4
        · simp at h4
          exact absurd h4 e
      rw [make_ver_ne (hne a ha')]
      exact h.ver a ha'
  · rw [← listed_live]
    exact hsi.lv a (List.mem_append_left _ (h.sub a ha))
  · rw [make_ver_ne (hne _ (h.sub _ (getD_mem hj)))]
    exact h.ch.next j hj
theorem CI.push (h : CI n k s ws L live gone V) {x : Int} (hx : x ∈ live) (hn : ¬ x ∈ L) : CI n k (pushS s L x) (ws.set 1 x) (x :: L) live gone V :=
  ⟨h.si, setw_ok h.ok _ _, fun a ha => by
    obtain ⟨y, hy⟩ := pushS_ver (L := L) h.ok (h.lives hx) (slotOf a)
    exact (h.ver a ha).nx hy, h.ch.push h.ok (h.lives hx) hn, fun a ha => by
    rcases List.mem_cons.1 ha with rfl | ha
    · exact hx
    · exact h.sub a ha⟩
theorem erase_at {L : List Int} (hn : L.Nodup) {j : Nat} (hj : j < L.length) {x : Int} (hx : L.getD j 0 = x) : L.eraseIdx j = L.erase x := by
  have e : L[j] = x := by simpa [List.getD_eq_getElem?_getD, hj] using hx
  rw [List.erase_eq_eraseIdx_of_idxOf]
  rw [← e]
  exact hn.idxOf_getElem j hj
theorem CI.cut (h : CI n k s ws L live gone V) {j : Nat} (hj : j < L.length) {x : Int} (hx : L.getD j 0 = x) : CI n k (cutS s L j) (cutW ws 1 L j) (L.erase x) live gone V := by
  rw [← erase_at h.ch.nd hj hx]
  exact ⟨by rw [cutS_p]; exact h.si, cutS_ok h.ok j, fun a ha => by
    obtain ⟨y, hy⟩ := cutS_ver h.ok h.ch.live hj (slotOf a)
    exact (h.ver a ha).nx hy, h.ch.cut h.ok hj, fun a ha => h.sub a (List.mem_of_mem_eraseIdx ha)⟩
theorem CI.free (h : CI n k s ws L live gone V) (hk : k ≤ 100) {x : Int} (hx : x ∈ live) (hn : ¬ x ∈ L) : CI n (k + 1) (s.free x) ws L (live.erase x) (gone ++ [x]) V := by
  obtain ⟨q, hq, hqx⟩ := List.getElem_of_mem hx
  have hqd : live.getD q 0 = x := by simp [List.getD_eq_getElem?_getD, hq, hqx]
  have hsub : ∀ a ∈ live.erase x, a ∈ live := fun a ha => List.mem_of_mem_erase ha
  obtain ⟨h1, h2, h3, h4⟩ := slot_live (h.lives hx)
  have hsi := h.si.give hk hq (i := slotOf x) (by rw [← h.len]; exact h1) (by rw [listed_sl]; exact h4) (by rw [hqd]; unfold PS.link; rw [listed_sl]; exact h3)
  rw [hqd, show live.take q ++ live.drop (q + 1) = live.erase x from by rw [← erase_at h.si.nd hq hqd, List.eraseIdx_eq_take_drop_succ]] at hsi
  have hini : s.p.init = true := by
    cases hin : s.p.init
    · have hcc := h.cnt
      have hpos := cnt_pos h1 h4
      have h5 := h.si.free
      have h6 : s.p.listed.free.length = n := by
        unfold PS.listed
        rw [hin]
        simp [dn_len, h.len]
      rw [h6] at h5
      omega
    · rfl
  have hli : s.p.listed = s.p := listed_yes hini
  rw [hli] at hsi
  have hlisted : (s.free x).p.listed = s.p.give (slotOf x) := by
    show (s.p.give (slotOf x)).listed = _
    exact listed_yes hsi.ini
  refine ⟨by rw [hlisted]; exact hsi, ⟨?_, ?_⟩, fun a ha => h.ver a (hsub a ha), ⟨h.ch.ix, h.ch.head, fun a ha => ?_, h.ch.nd, h.ch.next⟩, fun a ha => ?_⟩
  · show s.ws.length = (s.p.give _).sl.length * 3
    rw [give_len]
    exact h.ok.ws
  · show s.d.length = (s.p.give _).sl.length
    rw [give_len]
    exact h.ok.d
  · have hm : a ∈ live.erase x := (List.mem_erase_of_ne (fun e => by subst e; exact hn ha)).2 (h.sub a ha)
    rw [← listed_live, hlisted]
    exact hsi.lv a hm
  · exact (List.mem_erase_of_ne (fun e => by subst e; exact hn ha)).2 (h.sub a ha)
theorem CI.listed (h : CI n k s ws L live gone V) : CI n k s.listed ws L live gone V := by
  refine ⟨?_, ⟨?_, ?_⟩, h.ver, ⟨h.ch.ix, h.ch.head, fun a ha => ?_, h.ch.nd, h.ch.next⟩, h.sub⟩
  · show SI n k s.p.listed.listed live gone
    rw [listed_listed]
    exact h.si
  · show s.ws.length = s.p.listed.sl.length * 3
    rw [listed_sl]
    exact h.ok.ws
  · show s.d.length = s.p.listed.sl.length
    rw [listed_sl]
    exact h.ok.d
  · show s.p.listed.live a = true
    rw [listed_live]
    exact h.ch.live a ha
theorem CI.new (h0 : 1 ≤ n) (h1 : n ≤ 4096) (V : Int → Ver) : CI n 0 (RS.new n) [0, 0, 0] [] [] [] V :=
  ⟨SI.new h0 h1, ⟨by simp [RS.new, PS.new], by simp [RS.new, PS.new]⟩, fun a ha => by simp at ha, Chn.nil (by decide) rfl, fun a ha => by simp at ha⟩
end
end Go.Proofs.YtoidmakaijkglaaGreat
