/- A chain over time: the calls. -/
import Derived.Test.YtoidmakaijkglaaGreatY7
namespace Go.Proofs.YtoidmakaijkglaaGreat
open Go.RowKit

/-- A chain over a store of n slots, made by vinculumlaw9.Made: its newest links first; other things beside it. -/
def CW (w0 : World) (cb sb ab n : Nat) (k : Int) (L live gone : List Int) (V : Int → Ver) (M : List Ob) (W : World) : Prop :=
  ∃ (Fs Fa : Nat → Prop) (s : RS) (ws : List Int), Sep w0 W (chL cb sb ab 1 Fs Fa s ws M) ∧ CI n k s ws L live gone V
section
variable {w0 W W' : World} {cb sb ab n : Nat} {k : Int} {L live gone : List Int} {V : Int → Ver} {M : List Ob} {A A' : Ob}
theorem CW.bel (h : CW w0 cb sb ab n k L live gone V M W) : Below w0.heap.size w0 W := by
  obtain ⟨Fs, Fa, s, ws, h, _⟩ := h
  exact h.bel
theorem CW.later (h : CW w0 cb sb ab n k L live gone V M W) (hb : Below W.heap.size W W') : CW w0 cb sb ab n k L live gone V M W' := by
  obtain ⟨Fs, Fa, s, ws, h, hc⟩ := h
  exact ⟨Fs, Fa, s, ws, h.below hb, hc⟩
theorem CW.drew (h : CW w0 cb sb ab n k L live gone V M W) : CW w0 cb sb ab n k L live gone V M W.drew := h.later (Below.drew (Below.refl _ _))
theorem CW.len (h : CW w0 cb sb ab n k L live gone V M W) : L.length ≤ n ∧ live.length ≤ n ∧ live.Nodup ∧ L.Nodup ∧ (∀ a ∈ L, a ∈ live) ∧ (∀ a ∈ live, 1 ≤ a ∧ a ≤ 8589934591) := by
  obtain ⟨Fs, Fa, s, ws, h, hc⟩ := h
  have h1 := hc.ch.len
  have h2 := hc.si.free
  rw [hc.len] at h1
  exact ⟨h1, by omega, hc.si.nd, hc.ch.nd, hc.sub, fun a ha => hc.range ha⟩
theorem CW.mono (h : CW w0 cb sb ab n k L live gone V M W) {k' : Int} (hk : k ≤ k') : CW w0 cb sb ab n k' L live gone V M W := by
  obtain ⟨Fs, Fa, s, ws, h, hc⟩ := h
  exact ⟨Fs, Fa, s, ws, h, hc.mono hk⟩
theorem CW.gone_range (h : CW w0 cb sb ab n k L live gone V M W) (hk : k ≤ 100) (hn : n ≤ 4096) : ∀ a ∈ gone, 1 ≤ a ∧ a ≤ 8589934591 := by
  obtain ⟨Fs, Fa, s, ws, h, hc⟩ := h
  exact fun a ha => hc.si.gone_range hk hn ha
theorem CW.apart (h : CW w0 cb sb ab n k L live gone V M W) (hn : n ≤ 4096) : ∀ a ∈ gone, ¬ a ∈ live := by
  obtain ⟨Fs, Fa, s, ws, h, hc⟩ := h
  intro a ha hl
  have h1 := hc.stale hn ha
  rw [hc.lives hl] at h1
  cases h1
/-- The other things, the first of them to the front. -/
theorem CW.front (h : CW w0 cb sb ab n k L live gone V (A :: M) W) : ∃ (Fs Fa : Nat → Prop) (s : RS) (ws : List Int), Sep w0 W (A :: chL cb sb ab 1 Fs Fa s ws M) ∧ CI n k s ws L live gone V := by
  obtain ⟨Fs, Fa, s, ws, h, hc⟩ := h
  exact ⟨Fs, Fa, s, ws, h.bring4, hc⟩
theorem CW.first (h : CW w0 cb sb ab n k L live gone V (A :: M) W) : A.P W := by
  obtain ⟨Fs, Fa, s, ws, h, hc⟩ := h.front
  exact h.head
theorem CW.turn (h : CW w0 cb sb ab n k L live gone V (A :: M) W) (hf : ∀ K, Sep w0 W (A :: K) → Sep w0 W' (A' :: K)) : CW w0 cb sb ab n k L live gone V (A' :: M) W' := by
  obtain ⟨Fs, Fa, s, ws, h, hc⟩ := h.front
  exact ⟨Fs, Fa, s, ws, (hf _ h).back4, hc⟩
theorem CW.add (h : CW w0 cb sb ab n k L live gone V M W) (hf : ∀ K, Sep w0 W K → Sep w0 W' (A :: K)) : CW w0 cb sb ab n k L live gone V (A :: M) W' := by
  obtain ⟨Fs, Fa, s, ws, h, hc⟩ := h
  exact ⟨Fs, Fa, s, ws, (hf _ h).back4, hc⟩
theorem CW.drop (h : CW w0 cb sb ab n k L live gone V (A :: M) W) : CW w0 cb sb ab n k L live gone V M W := by
  obtain ⟨Fs, Fa, s, ws, h, hc⟩ := h.front
  exact ⟨Fs, Fa, s, ws, h.tail, hc⟩
theorem CW.swap {B : Ob} (h : CW w0 cb sb ab n k L live gone V (A :: B :: M) W) : CW w0 cb sb ab n k L live gone V (B :: A :: M) W := by
  obtain ⟨Fs, Fa, s, ws, h, hc⟩ := h
  exact ⟨Fs, Fa, s, ws, h.perm ((((List.Perm.swap B A M).cons _).cons _).cons _), hc⟩
theorem CW.row_nil (h : CW w0 cb sb ab n k L live gone V M W) (kd : IntKind) (E : TypeId) : CW w0 cb sb ab n k L live gone V (obRow kd E (.slice none 0 0) [] :: M) W := h.add (fun _ h => h.row_nil kd E)

theorem cw_make (h : CW w0 cb sb ab n k L live gone V M W) (hlt : live.length < n) {key v x y : Int} (k0 : 0 ≤ key) (k1 : key ≤ 63) (v0 : 0 ≤ v) (v1 : v ≤ 65535) :
    Calls Tryz.prog 8 #[.pointer (some ⟨sb, 0, none⟩), .int .i64 key, .int .i64 v, .int .u64 x, .int .u64 y] W fun e w' => ∃ z, e = .returned (.tuple #[.int .u64 z, .int .i64 0]) ∧ ¬ z ∈ live ∧ ¬ z ∈ gone ∧ 1 ≤ z ∧ z ≤ 8589934591 ∧
      CW w0 cb sb ab n k L (live ++ [z]) gone (fun a => if a = z then ⟨key, v, x, y, 0⟩ else V a) M w' := by
  obtain ⟨Fs, Fa, s, ws, h, hc⟩ := h
  rcases hc.room with ⟨h1, _⟩ | ⟨_, l, i, hl⟩
  · omega
  · refine (make_ok sb Fs s l i key v x y W (chL_store h) k0 k1 v0 v1 hl).mono fun e w' r => ?_
    obtain ⟨Fs', hs⟩ := chL_stepS h r.2
    obtain ⟨m1, m2, m3⟩ := hc.make hl key v x y
    have hr := m3.range (a := s.p.listed.link i) (by simp)
    exact ⟨_, r.1, m1, m2, hr.1, hr.2, Fs', Fa, _, ws, hs, m3⟩
theorem cw_full (h : CW w0 cb sb ab n k L live gone V M W) (hlt : live.length = n) {key v x y : Int} (k0 : 0 ≤ key) (k1 : key ≤ 63) (v0 : 0 ≤ v) (v1 : v ≤ 65535) :
    Calls Tryz.prog 8 #[.pointer (some ⟨sb, 0, none⟩), .int .i64 key, .int .i64 v, .int .u64 x, .int .u64 y] W fun e w' => e = .returned (.tuple #[.int .u64 0, .int .i64 15]) ∧ CW w0 cb sb ab n k L live gone V M w' := by
  obtain ⟨Fs, Fa, s, ws, h, hc⟩ := h
  rcases hc.room with ⟨_, hl⟩ | ⟨h1, _⟩
  · refine (make_full sb Fs s key v x y W (chL_store h) k0 k1 v0 v1 hl).mono fun e w' r => ?_
    obtain ⟨Fs', hs⟩ := chL_stepS h r.2
    exact ⟨r.1, Fs', Fa, _, ws, hs, hc.listed⟩
  · omega
theorem cw_push (h : CW w0 cb sb ab n k L live gone V M W) {z : Int} (hz : z ∈ live) (hn : ¬ z ∈ L) :
    Calls Tryz.prog 9 #[.pointer (some ⟨cb, 0, none⟩), .int .u64 z] W fun e w' => e = .returned (.bool true) ∧ CW w0 cb sb ab n k (z :: L) live gone V M w' := by
  obtain ⟨Fs, Fa, s, ws, h, hc⟩ := h
  have hr := hc.range hz
  refine (chain_push hc.ch z (by omega) (by omega) W h).mono fun e w' r => ?_
  rcases r with ⟨r1, _⟩ | ⟨_, _, r3, r4, _⟩
  · rcases r1 with r1 | r1
    · rw [hc.lives hz] at r1
      cases r1
    · exact absurd r1 hn
  · exact ⟨r3, Fs, Fa, _, _, r4, hc.push hz hn⟩
theorem cw_push_no (h : CW w0 cb sb ab n k L live gone V M W) {z : Int} (h0 : 0 ≤ z) (h1 : z ≤ 18446744073709551615) (hz : z ∈ L ∨ ¬ z ∈ live) :
    Calls Tryz.prog 9 #[.pointer (some ⟨cb, 0, none⟩), .int .u64 z] W fun e w' => e = .returned (.bool false) ∧ CW w0 cb sb ab n k L live gone V M w' := by
  obtain ⟨Fs, Fa, s, ws, h, hc⟩ := h
  refine (chain_push hc.ch z h0 h1 W h).mono fun e w' r => ?_
  rcases r with ⟨_, r2, r3, _⟩ | ⟨r1, r2, _⟩
  · exact ⟨r2, Fs, Fa, _, _, r3, hc⟩
  · rcases hz with hz | hz
    · exact absurd hz r2
    · rw [hc.dead hz] at r1
      cases r1
theorem cw_cut (h : CW w0 cb sb ab n k L live gone V M W) {z : Int} (hz : z ∈ L) :
    Calls Tryz.prog 11 #[.pointer (some ⟨cb, 0, none⟩), .int .u64 z] W fun e w' => e = .returned (.bool true) ∧ CW w0 cb sb ab n k (L.erase z) live gone V M w' := by
  obtain ⟨Fs, Fa, s, ws, h, hc⟩ := h
  refine (chain_cut hc.ch z W h).mono fun e w' r => ?_
  rcases r with ⟨r1, _⟩ | ⟨r1, j, hj, hjz, r2, _⟩
  · exact absurd hz r1
  · exact ⟨r1, Fs, Fa, _, _, r2, hc.cut hj hjz⟩
theorem cw_cut_no (h : CW w0 cb sb ab n k L live gone V M W) {z : Int} (hz : ¬ z ∈ L) :
    Calls Tryz.prog 11 #[.pointer (some ⟨cb, 0, none⟩), .int .u64 z] W fun e w' => e = .returned (.bool false) ∧ CW w0 cb sb ab n k L live gone V M w' := by
  obtain ⟨Fs, Fa, s, ws, h, hc⟩ := h
  refine (chain_cut hc.ch z W h).mono fun e w' r => ?_
  rcases r with ⟨_, r1, r2, _⟩ | ⟨r1, j, hj, hjz, r2, _⟩
  · exact ⟨r1, Fs, Fa, _, _, r2, hc⟩
  · exact absurd (hjz ▸ getD_mem hj) hz
theorem cw_links (h : CW w0 cb sb ab n k L live gone V M W) :
    Calls Tryz.prog 39 #[.pointer (some ⟨cb, 0, none⟩)] W fun e w' => ∃ a cap, e = .returned (.slice a L.length cap) ∧ CW w0 cb sb ab n k L live gone V (obRow .u64 32 (.slice a L.length cap) L :: M) w' := by
  obtain ⟨Fs, Fa, s, ws, h, hc⟩ := h
  refine (chain_links hc.ch W h).mono fun e w' r => ?_
  obtain ⟨a, cap, r1, r2, _⟩ := r
  exact ⟨a, cap, r1, Fs, Fa, s, ws, r2.back4, hc⟩
theorem cw_len (h : CW w0 cb sb ab n k L live gone V M W) :
    Calls Tryz.prog 14 #[.pointer (some ⟨cb, 0, none⟩)] W fun e w' => e = .returned (.int .i64 L.length) ∧ CW w0 cb sb ab n k L live gone V M w' := by
  obtain ⟨Fs, Fa, s, ws, h, hc⟩ := h
  exact (chain_len hc.ch W h).mono fun e w' r => ⟨r.1, Fs, Fa, s, ws, r.2.1, hc⟩
theorem cw_head (h : CW w0 cb sb ab n k L live gone V M W) :
    Calls Tryz.prog 12 #[.pointer (some ⟨cb, 0, none⟩)] W fun e w' => e = .returned (.int .u64 (L.getD 0 0)) ∧ CW w0 cb sb ab n k L live gone V M w' := by
  obtain ⟨Fs, Fa, s, ws, h, hc⟩ := h
  exact (chain_head W h hc.ch.ix).mono fun e w' r => ⟨by rw [r.1, hc.ch.head], Fs, Fa, s, ws, r.2.1, hc⟩
theorem cw_get (h : CW w0 cb sb ab n k L live gone V M W) {z : Int} (hz : z ∈ live) :
    Calls Tryz.prog 56 #[.pointer (some ⟨sb, 0, none⟩), .int .u64 z] W fun e w' => ∃ v : Ver, SameVer v (V z) ∧ e = .returned (.tuple #[v.value, .bool true]) ∧ CW w0 cb sb ab n k L live gone V M w' := by
  obtain ⟨Fs, Fa, s, ws, h, hc⟩ := h
  have hr := hc.range hz
  refine (get_same sb Fs s z W (chL_store h) (by omega) (by omega) (hc.lives hz)).mono fun e w' r => ?_
  exact ⟨_, hc.ver z hz, r.1, Fs, Fa, s, ws, chL_sameS h r.2.1 r.2.2, hc⟩
end
end Go.Proofs.YtoidmakaijkglaaGreat
