/- MarkBag holds: as many leave as came, in whatever order; the lowest is never above any that lives. No condition. -/
import Derived.Test.YtfjoghbkfkbbdaaK10
namespace Go.Proofs.Ytfjoghbkfkbbdaa
open Go.RowKit Go.ChangeShapes

def rot (l : List Int) (n t : Nat) : List Int := (List.range n).map (fun k => l.getD ((k + t) % n) 0)
theorem rot_len (l : List Int) (n t : Nat) : (rot l n t).length = n := by simp [rot]
theorem rot_perm {l : List Int} {n : Nat} (t : Nat) (hn : n ≤ l.length) : (rot l n t).Perm (l.take n) := by
  by_cases h0 : n = 0
  · subst h0
    simp [rot]
  · have hs : t % n < n := Nat.mod_lt _ (by omega)
    have he : rot l n t = (l.take n).drop (t % n) ++ (l.take n).take (t % n) := by
      apply List.ext_getElem?
      intro j
      have hdl : ((l.take n).drop (t % n)).length = n - t % n := by rw [List.length_drop, List.length_take]; omega
      by_cases hj : j < n
      · have hm : (j + t) % n = (j + t % n) % n := by simp
        have h1 : (rot l n t)[j]? = some (l.getD ((j + t) % n) 0) := by simp [rot, hj]
        rw [h1, hm]
        by_cases h2 : j < n - t % n
        · rw [List.getElem?_append_left (by omega), List.getElem?_drop, List.getElem?_take_of_lt (by omega), Nat.mod_eq_of_lt (by omega), Nat.add_comm j]
          simp [List.getD_eq_getElem?_getD, show t % n + j < l.length by omega]
        · rw [List.getElem?_append_right (by omega), hdl, List.getElem?_take_of_lt (by omega), List.getElem?_take_of_lt (by omega)]
          have h3 : (j + t % n) % n = j - (n - t % n) := by
            rw [Nat.mod_eq_sub_mod (by omega), Nat.mod_eq_of_lt (by omega)]
            omega
          rw [h3]
          simp [List.getD_eq_getElem?_getD, show j - (n - t % n) < l.length by omega]
      · rw [List.getElem?_eq_none (by rw [rot_len]; omega), List.getElem?_eq_none (by rw [List.length_append, hdl, List.length_take, List.length_take]; omega)]
    rw [he]
    exact List.perm_append_comm.trans (by rw [List.take_append_drop])
theorem rot_drop {l : List Int} {n t i : Nat} (hi : i < n) : (rot l n t).drop i = l.getD ((i + t) % n) 0 :: (rot l n t).drop (i + 1) := by
  rw [List.drop_eq_getElem_cons (by rw [rot_len]; exact hi)]
  simp [rot]
theorem rot_mem {l : List Int} {n t i k : Nat} (hik : i ≤ k) (hk : k < n) : l.getD ((k + t) % n) 0 ∈ (rot l n t).drop i := by
  have h : ((rot l n t).drop i)[k - i]? = some (l.getD ((k + t) % n) 0) := by
    rw [List.getElem?_drop, show i + (k - i) = k by omega]
    simp [rot, hk]
  exact List.mem_of_getElem? h
theorem ins_perm (l : List Int) (x : Int) : (insS l x).Perm (x :: l) := by
  unfold insS
  refine List.perm_middle.trans (List.Perm.cons x ?_)
  exact List.filter_append_perm (fun y => decide (y < x)) l
theorem low_le {w0 W : World} {b : Nat} {l : List Int} {M : List Ob} (h : MF w0 b l M W) (now : Int) : ∀ y ∈ l, lowS l now ≤ y := by
  obtain ⟨es, v, hS, hg, rfl⟩ := h
  intro y hy
  obtain ⟨e, he, rfl⟩ := flat_mem hy
  obtain ⟨j, hj, rfl⟩ := List.getElem_of_mem he
  rw [flat_head hg.pos (by omega) now]
  have h1 : (es.getD 0 ent0).at_ ≤ es[j].at_ := by
    rcases Nat.eq_zero_or_pos j with rfl | hp
    · simp [List.getD_eq_getElem?_getD, hj]
    · have := hg.rise 0 j hp hj
      rw [show es.getD j ent0 = es[j] by simp [List.getD_eq_getElem?_getD, hj]] at this
      omega
  omega
theorem RowAt.cell_ {k : IntKind} {w : World} {a : Option Addr} {n cap : Nat} {l : List Int} (h : RowAt k w (.slice a n cap) l) {i : Nat} (hi : i < l.length) (_hn : n = l.length) : ∃ b off, a = some ⟨b, off, none⟩ ∧ b < w.heap.size ∧ ∀ j, j < l.length → w.cell? ⟨b, off + j, none⟩ = some (.int k (l.getD j 0)) := by
  rcases h with ⟨rfl, _⟩ | ⟨b, off, cap', hv, _, _, hb, hc⟩
  · simp at hi
  · simp only [Value.slice.injEq] at hv
    obtain ⟨rfl, _, _⟩ := hv
    exact ⟨b, off, rfl, hb, hc⟩
theorem ltake_more {l : List Int} {i : Nat} (h : i < l.length) : l.take (i + 1) = l.take i ++ [l.getD i 0] := by
  rw [List.take_add_one]
  simp [List.getD_eq_getElem?_getD, h]

set_option maxRecDepth 100000 in
set_option maxHeartbeats 6400000 in
theorem markBag_walk {a0 : Option Addr} {len0 cap0 : Nat} {a1 : Int} {l0 : List Int} {w : World} (n0 : l0.length = len0) (r0 : RowAt .u64 w (.slice a0 len0 cap0) l0) (_w0 : ∀ x ∈ l0, (Lit.int .u64 x).wf = true) (_w1 : (Lit.int .i64 a1).wf = true) :
    Calls Try.prog 12 #[.slice a0 len0 cap0, .int .i64 a1] w fun e w' => e = .returned (.bool true) ∧ Below w.heap.size w w' := by
  subst n0
  have m1 := i64_and255 a1
  obtain ⟨t, ht, ht2⟩ : ∃ t : Nat, a1 % 256 = t ∧ t < 256 := ⟨(a1 % 256).toNat, by omega, by omega⟩
  rw [ht] at m1
  clear ht
  obtain ⟨n, hn⟩ : ∃ n : Nat, n = min l0.length 30 := ⟨_, rfl⟩
  have hmin : min (l0.length : Int) 30 = (n : Int) := by omega
  have hn1 : n ≤ l0.length := by omega
  have hn2 : n ≤ 30 := by omega
  clear hn
  have HK := Lib.hid r0
  have HM := Lib.hid (mk_new (Sep.nil w))
  clear r0
  go_enter Try.func12, Try.ntmps12
  go_wp2_with fail
  refine HM.out.mono ?_
  rintro e w1 ⟨b, rfl, hW⟩
  have H1 := Lib.hid hW
  clear hW HM
  go_wp2_with fail
  go_loopw [7] (fun iv wr => ∃ (i : Nat) (L : List Int), i ≤ n ∧ iv = .int .i64 i ∧ MF w b L [] wr ∧ L.Perm (l0.take i)) (fun iv _ => n - (intOf iv).toNat)
  case atStart => exact ⟨0, [], Nat.zero_le _, rfl, H1.out, by simp⟩
  case round =>
    obtain ⟨i, L, hi, rfl, hW, hp⟩ := hrel
    have HW := Lib.hid hW
    have HP := Lib.hid hp
    have hLl : L.length = i := by rw [hp.length_eq, List.length_take]; omega
    clear hW hp H1
    by_cases hlt : i < n
    · obtain ⟨b0, o0, rfl, g0, c0⟩ := (HK.out.later HW.out.bel).cell_ (i := i) (by omega) rfl
      have d0 := c0 i (by omega)
      have hpx := Lib.hid (((ins_perm L (l0.getD i 0)).trans (HP.out.cons _)).trans (by rw [ltake_more (show i < l0.length by omega)]; exact (List.perm_append_singleton _ _).symm) : (insS L (l0.getD i 0)).Perm (l0.take (i + 1)))
      clear c0
      generalize l0.getD i 0 = x at *
      have p1 : (i : Int) < l0.length := by omega
      go_wp2_with fail
      refine (mk_enter HW.out (by omega) x).mono ?_
      rintro e w2 ⟨rfl, hW⟩
      have H2 := Lib.hid hW
      clear hW HW
      go_wp2_with fail
      go_roundw
      case rel => exact ⟨i + 1, _, by omega, by go_num, H2.out, hpx.out⟩
      case measure => simp [intOf]; omega
    · obtain rfl : i = n := by omega
      go_wp2_with fail
      go_loopw [8] (fun iv wr => ∃ (j : Nat) (L : List Int), j ≤ i ∧ iv = .int .i64 j ∧ MF w b L [] wr ∧ L.Perm ((rot l0 i t).drop j)) (fun iv _ => i - (intOf iv).toNat)
      case atStart => exact ⟨0, L, Nat.zero_le _, rfl, HW.out, HP.out.trans (rot_perm t hn1).symm⟩
      case round =>
        obtain ⟨j, L', hj, rfl, hW, hp⟩ := hrel
        have HW2 := Lib.hid hW
        have HP2 := Lib.hid hp
        have hLl2 : L'.length = i - j := by rw [hp.length_eq, List.length_drop, rot_len]
        clear hW hp HW
        by_cases hlt2 : j < i
        · have hidx : (j + t) % i < i := Nat.mod_lt _ (by omega)
          obtain ⟨b0, o0, rfl, g0, c0⟩ := (HK.out.later HW2.out.bel).cell_ (i := (j + t) % i) (by omega) rfl
          have HLow := Lib.hid (low_le HW2.out 18446744073709551615)
          have HLW := Lib.hid (mk_low HW2.out 18446744073709551615)
          clear c0
          obtain ⟨low, hlow⟩ : ∃ low, lowS L' 18446744073709551615 = low := ⟨_, rfl⟩
          rw [hlow] at HLow HLW
          clear hlow
          go_wp2_with fail
          refine HLW.out.mono ?_
          rintro e w3 ⟨rfl, rfl⟩
          go_wp2_with fail
          go_loopw [10] (fun kv wr => ∃ (k : Nat), j ≤ k ∧ k ≤ i ∧ kv = .int .i64 k ∧ MF w b L' [] wr) (fun kv _ => i - (intOf kv).toNat)
          case atStart => exact ⟨j, Nat.le_refl _, by omega, rfl, HW2.out⟩
          case round =>
            obtain ⟨k, hjk, hki, rfl, hW⟩ := hrel
            have HWk := Lib.hid hW
            clear hW
            obtain ⟨b0', o0', hbo, _, c0⟩ := (HK.out.later HWk.out.bel).cell_ (i := (j + t) % i) (by omega) rfl
            simp only [Option.some.injEq, Addr.mk.injEq, and_true] at hbo
            obtain ⟨rfl, rfl⟩ := hbo
            have HC := Lib.hid c0
            clear c0
            by_cases hlt3 : k < i
            · have hkidx : (k + t) % i < i := Nat.mod_lt _ (by omega)
              have dk := HC.out ((k + t) % i) (by omega)
              have hlk := HLow.out _ (HP2.out.mem_iff.2 (rot_mem hjk hlt3))
              have x1 : IntKind.i64.wrap ((k : Int) + t) = (k : Int) + t := IntWalk.i64_in _ (by omega)
              have hq : ((k : Int) + t) % i = (((k + t) % i : Nat) : Int) := by simp
              have p1 : (((k + t) % i : Nat) : Int) < l0.length := by omega
              generalize l0.getD ((k + t) % i) 0 = y at *
              generalize (k + t) % i = q at *
              have hng : ¬ y < low := by omega
              go_wp2_with fail
              go_roundw
              case rel => exact ⟨k + 1, by omega, by omega, by go_num, HWk.out⟩
              case measure => simp [intOf]; omega
            · obtain rfl : k = i := by omega
              have dj := HC.out ((j + t) % k) (by omega)
              have hmem : l0.getD ((j + t) % k) 0 ∈ L' := HP2.out.mem_iff.2 (by rw [rot_drop hlt2]; exact List.mem_cons_self)
              have HPE := Lib.hid (show (L'.erase (l0.getD ((j + t) % k) 0)).Perm ((rot l0 k t).drop (j + 1)) from by
                have h1 := HP2.out.erase (l0.getD ((j + t) % k) 0)
                rw [rot_drop hlt2, List.erase_cons_head] at h1
                exact h1)
              have hle := mk_leave HWk.out (by omega) (l0.getD ((j + t) % k) 0)
              rw [decide_eq_true hmem] at hle
              have HLE := Lib.hid hle
              have hel := List.length_erase_of_mem hmem
              have x1 : IntKind.i64.wrap ((j : Int) + t) = (j : Int) + t := IntWalk.i64_in _ (by omega)
              have hq : ((j : Int) + t) % k = (((j + t) % k : Nat) : Int) := by simp
              have p1 : (((j + t) % k : Nat) : Int) < l0.length := by omega
              clear hle hmem
              generalize l0.getD ((j + t) % k) 0 = y at *
              generalize (j + t) % k = q at *
              have HEL := Lib.hid hel
              go_wp2_with fail
              refine HLE.out.mono ?_
              rintro e w4 ⟨rfl, hW⟩
              have H4 := Lib.hid hW
              clear hW HLE
              go_wp2_with fail
              refine (mk_len H4.out (by omega)).mono ?_
              rintro e w5 ⟨rfl, hW⟩
              have H5 := Lib.hid hW
              clear hW H4
              have y1 : IntKind.i64.wrap ((k : Int) - 1) = (k : Int) - 1 := IntWalk.i64_in _ (by omega)
              have y2 : IntKind.i64.wrap ((k : Int) - 1 - j) = (k : Int) - 1 - j := IntWalk.i64_in _ (by omega)
              have y3 : (((L'.erase y).length : Int) != (k : Int) - 1 - j) = false := by simp; omega
              generalize (L'.erase y).length = el at *
              go_wp2_with fail
              go_roundw
              case rel => exact ⟨j + 1, L'.erase y, by omega, by go_num, H5.out, HPE.out⟩
              case measure => simp [intOf]; omega
        · obtain rfl : j = i := by omega
          obtain rfl : L' = [] := List.length_eq_zero_iff.1 (by omega)
          go_wp2_with fail
          go_loopw [11] (fun iv wr => ∃ (k : Nat), k ≤ j ∧ iv = .int .i64 k ∧ MF w b [] [] wr) (fun iv _ => j - (intOf iv).toNat)
          case atStart => exact ⟨0, Nat.zero_le _, rfl, HW2.out⟩
          case round =>
            obtain ⟨k, hk, rfl, hW⟩ := hrel
            have HW3 := Lib.hid hW
            clear hW HW2
            by_cases hlt4 : k < j
            · obtain ⟨b0, o0, rfl, g0, c0⟩ := (HK.out.later HW3.out.bel).cell_ (i := k) (by omega) rfl
              have dk := c0 k (by omega)
              clear c0
              have p1 : (k : Int) < l0.length := by omega
              generalize l0.getD k 0 = y at *
              have hle := mk_leave HW3.out (by decide) y
              rw [show decide (y ∈ ([] : List Int)) = false by simp, List.erase_nil] at hle
              have HLE := Lib.hid hle
              clear hle
              go_wp2_with fail
              refine HLE.out.mono ?_
              rintro e w4 ⟨rfl, hW⟩
              have H4 := Lib.hid hW
              clear hW HLE
              go_wp2_with fail
              go_roundw
              case rel => exact ⟨k + 1, by omega, by go_num, H4.out⟩
              case measure => simp [intOf]; omega
            · have hlow := mk_low HW3.out 7
              rw [show lowS [] 7 = 7 from rfl] at hlow
              have HLOW := Lib.hid hlow
              clear hlow
              go_wp2_with fail
              refine HLOW.out.mono ?_
              rintro e w4 ⟨rfl, rfl⟩
              go_wp2_with fail
              refine (mk_all HW3.out (by decide)).mono ?_
              rintro e w5 ⟨ra, rc, rfl, hW⟩
              have H5 := Lib.hid hW.bel
              clear hW
              go_wp2_with fail
              refine (awake17_any _).mono ?_
              rintro e w6 ⟨rfl, b6⟩
              go_wp2_with fail
              go_ret
              exact ⟨rfl, bl_next H5.out b6⟩
end Go.Proofs.Ytfjoghbkfkbbdaa
