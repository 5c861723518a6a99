/- awake: what the document fixes. -/
import Derived.Test.YtoidmakaijkglaaGreatHO
namespace Go.Proofs.YtoidmakaijkglaaGreat
open Go.RowKit
theorem Keyed.congr {n : Nat} {bs : List (List (Int × Nat))} {P Q : Int → Prop} (h : Keyed n bs P) (e : ∀ k, P k ↔ Q k) : Keyed n bs Q :=
  ⟨fun i hi k hk => by obtain ⟨a, b, c, d⟩ := h.ok i hi k hk; exact ⟨a, b, c, (e k).1 d⟩, h.nd, fun k hk => h.all k ((e k).2 hk), h.len⟩
theorem allKeys_few {n : Nat} {bs : List (List (Int × Nat))} {P : Int → Prop} (h : Keyed n bs P) : ∀ i, (allKeys bs i).length ≤ i * 64
  | 0 => Nat.le_refl _
  | i + 1 => by
    rw [allKeys_next, List.length_append]
    have := allKeys_few h i
    have h2 := h.few i
    have h3 : (keysOf bs i).length = (bs.getD i []).length := by simp [keysOf]
    omega
theorem keys_none {n : Nat} : ∀ i, allKeys (List.replicate n []) i = []
  | 0 => rfl
  | i + 1 => by
    rw [allKeys_next, keys_none i]
    by_cases h : i < n
    · simp [keysOf, List.getD_eq_getElem?_getD, h]
    · simp [keysOf, List.getD_eq_getElem?_getD, h]
theorem awake_keys {c : Nat} : (allKeys (putK 4 (List.replicate 4 []) 5 c) 4).length = 1 := by
  have hb : bucketOf 4 5 = (bkt 5 4).toNat := rfl
  have hv : bucketOf 4 5 = 0 ∨ bucketOf 4 5 = 1 ∨ bucketOf 4 5 = 2 ∨ bucketOf 4 5 = 3 := by
    have := bucketOf_lt (n := 4) (key := 5) (by decide)
    omega
  unfold allKeys putK
  rcases hv with e | e | e | e <;> rw [e] <;> rfl
set_option maxRecDepth 100000 in
set_option maxHeartbeats 3200000 in
theorem awake10_any (w : World) : Calls Tryz.prog 16 #[] w fun e w' => e = .returned (.bool true) ∧ Below w.heap.size w w' := by
  have HN := Lib.hid (store_new 4 w (by decide) (by decide))
  go_enter Tryz.func16, Tryz.ntmps16
  go_wp2_with fail
  refine HN.out.mono ?_
  rintro e w1 ⟨sb, Fs, rfl, p1, B1, f1⟩
  have S1 := Lib.hid ((Sep.nil w).new (A := obStore sb Fs (RS.new 4)) B1 p1 f1)
  clear p1 B1 f1 HN
  have hnx := hx_new S1.out sb (n := 4) (by decide) (by decide)
  have HNX := Lib.hid hnx
  clear hnx
  go_wp2_with fail
  refine HNX.out.mono ?_
  rintro e w2 ⟨xb, ab, Fa, rfl, h2, -⟩
  have HK0 := Lib.hid (Keyed.new 4)
  have hf := (Keyed.new 4).none (k := 5) (fun h => h) (by decide)
  have HP := Lib.hid (sx_put_new (key := 5) h2 (by decide) (by decide) (Keyed.new 4).small (by decide) (by simp) hf)
  clear h2 hf HNX
  go_wp2_with fail
  refine HP.out.mono ?_
  rintro e w3 ⟨cb, rfl, F3, h3⟩
  have hk1 := (Keyed.new 4).put (k := 5) cb (by decide) (by decide) (fun h => h)
  obtain ⟨c, hc, -⟩ := hk1.some (k := 5) (.inr rfl)
  have hno := hk1.none (k := 6) (fun h => by rcases h with h | h; exact h; exact absurd h (by decide)) (by decide)
  have hlen := awake_keys (c := cb)
  have hfs := sx_find h3 (by decide) (by decide) hk1.small 5
  have HCAST := Lib.hid (show ((5 : Nat) : Int) = 5 from rfl)
  change findK 4 (putK 4 (List.replicate 4 []) 5 cb) 5 = some c at hc
  have hfs2 := hfs
  rw [show findK 4 (putK 4 (List.replicate 4 []) ((5 : Nat) : Int) cb) 5 = some c from hc] at hfs2
  simp only [foundV] at hfs2
  have HF := Lib.hid hfs2
  have HK1 := Lib.hid hk1
  have HNO := Lib.hid hno
  have HLEN := Lib.hid hlen
  clear hfs hfs2 hc h3 HP hk1 hno hlen
  go_wp2_with fail
  refine HF.out.mono ?_
  rintro e w4 ⟨rfl, F4, h4⟩
  have hfs := sx_find h4 (by decide) (by decide) HK1.out.small 6
  rw [show findK 4 (putK 4 (List.replicate 4 []) ((5 : Nat) : Int) cb) 6 = none from HNO.out] at hfs
  simp only [foundV] at hfs
  have HF2 := Lib.hid hfs
  clear hfs h4 HF
  go_wp2_with fail
  refine HF2.out.mono ?_
  rintro e w5 ⟨rfl, F5, h5⟩
  have hks := sx_keys h5 (by decide) HK1.out.small (fun i hi => by
    have := allKeys_few HK1.out i
    have h2 : (allKeys (putK 4 (List.replicate 4 []) ((5 : Nat) : Int) cb) i).length ≤ i * 64 := this
    omega)
  have HKS := Lib.hid hks
  clear hks h5 HF2
  go_wp2_with fail
  refine HKS.out.mono ?_
  rintro e w6 ⟨sv, rfl, F6, h6⟩
  have hl : (sortI (allKeys (putK 4 (List.replicate 4 []) ((5 : Nat) : Int) cb) 4)).length = 1 := by rw [sortI_len]; exact HLEN.out
  have hsv : ∃ a m, sv = .slice a 1 m := by
    rcases h6.head with ⟨h0, _⟩ | ⟨b, off, cap, rfl, _⟩
    · rw [h0] at hl
      simp at hl
    · rw [hl]
      exact ⟨_, _, rfl⟩
  obtain ⟨a, m, rfl⟩ := hsv
  have HB := Lib.hid h6.bel
  clear h6 hl HKS
  go_wp2_with fail
  go_ret
  exact ⟨rfl, HB.out⟩
end Go.Proofs.YtoidmakaijkglaaGreat
