/- What right, greatest and run of the chapter return. -/
import Derived.Test.YtdkpdpcecjcmcaaRdH1
import Derived.Test.YtdkpdpcecjcmcaaRd30
import Derived.Test.YtdkpdpcecjcmcaaRdS2
namespace Go.Proofs.Ytdkpdpcecjcmcaa
open Go.RowKit

def rightA (a : Au) : Bool := fewA a && validA a
set_option maxRecDepth 100000 in
set_option maxHeartbeats 4000000 in
theorem right_c (w : World) (v : Value) (a : Au) (ha : IsAuto w v a) : Calls Try.prog 23 #[v] w (Calm (.bool (rightA a)) w) := by
  obtain ⟨p2, q2, p3, q3, rfl⟩ := ha.shape
  obtain ⟨L, hL⟩ : ∃ n, n = a.letters := ⟨_, rfl⟩
  obtain ⟨S, hS⟩ : ∃ n, n = a.start := ⟨_, rfl⟩
  obtain ⟨n2, hn2⟩ : ∃ n, n = a.next.length := ⟨_, rfl⟩
  obtain ⟨n3, hn3⟩ : ∃ n, n = a.prio.length := ⟨_, rfl⟩
  rw [← hL, ← hS, ← hn2, ← hn3] at ha ⊢
  clear hL hS hn2 hn3
  go_enter Try.func23, Try.ntmps23
  go_upto_region 1 with (fail)
  obtain ⟨hx, hb, hB⟩ := box_new (w0 := w) (Below.refl _ _) (Nat.le_refl _) #[.int .i64 L, .int .i64 S, .slice p2 n2 q2, .slice p3 n3 q3] 24
  replace ha := ha.below hb
  generalize w.alloc (.cells #[.int .i64 L, .int .i64 S, .slice p2 n2 q2, .slice p3 n3 q3] 24) = w1 at *
  have HE : Hid (∀ W b, Below w1.heap.size w1 W → rightA a = b → Calm (.bool (rightA a)) w (.returned (.bool b)) W) := fun W b h e => ⟨by rw [e], hB.trans (h.mono hB.size)⟩
  clear hb hB
  generalize w.heap.size = zg at *
  have k0 := cell_of_row _ _ 0 _ _ _ hx
  have k1 := cell_of_row _ _ 1 _ _ _ hx
  have k2 := cell_of_row _ _ 2 _ _ _ hx
  have k3 := cell_of_row _ _ 3 _ _ _ hx
  go_wp2_with fail
  refine (Few_c _ _ a ha).mono ?_
  rintro e w2 ⟨rfl, hb⟩
  replace hx := (hb.block _ (Array.getElem?_eq_some_iff.1 hx).1).trans hx
  replace ha := ha.below hb
  clear k0 k1 k2 k3
  cases hs1 : fewA a
  · go_wp2_with fail
    go_ret
    exact HE.out _ _ hb (by unfold rightA; rw [hs1]; rfl)
  have k0 := cell_of_row _ _ 0 _ _ _ hx
  have k1 := cell_of_row _ _ 1 _ _ _ hx
  have k2 := cell_of_row _ _ 2 _ _ _ hx
  have k3 := cell_of_row _ _ 3 _ _ _ hx
  go_wp2_with fail
  refine (RPValid_c _ _ a ha).mono ?_
  rintro e w3 ⟨rfl, hb3⟩
  replace hb := hb.trans (hb3.mono hb.size)
  clear k0 k1 k2 k3 hb3
  cases hs2 : validA a
  · go_wp2_with fail
    go_ret
    exact HE.out _ _ hb (by unfold rightA; rw [hs1, hs2]; rfl)
  · go_wp2_with fail
    go_ret
    exact HE.out _ _ hb (by unfold rightA; rw [hs1, hs2]; rfl)

theorem right_v {a : Au} (h : rightA a = true) : AuV a a.letters.toNat ∧ a.next.length ≤ 14 := by
  simp only [rightA, fewA, Bool.and_eq_true, decide_eq_true_eq] at h
  exact ⟨AuV.of h.2, h.1.1.1.1.2⟩
/-! greatest -/
def grR (a : Au) (i : Nat) : Int := (a.prio.take i).foldl (fun m row => row.foldl max m) 0
def grX (a : Au) (i x : Nat) : Int := ((a.prio.getD i []).take x).foldl max (grR a i)
theorem grR_succ (a : Au) {i : Nat} (hi : i < a.prio.length) : grR a (i + 1) = grX a i (a.prio.getD i []).length := by
  unfold grX grR
  rw [List.take_length, List.take_succ_eq_append_getElem hi, List.foldl_append, getD_lt _ _ _ hi]; rfl
theorem grX_succ (a : Au) {i x : Nat} (hx : x < (a.prio.getD i []).length) : grX a i (x + 1) = max (grX a i x) ((a.prio.getD i []).getD x 0) := by
  unfold grX
  rw [List.take_succ_eq_append_getElem hx, List.foldl_append, getD_lt _ _ _ hx]; rfl
theorem grR_all (a : Au) : grR a a.prio.length = grA a := by unfold grR grA; rw [List.take_length]

set_option maxRecDepth 100000 in
set_option maxHeartbeats 4000000 in
theorem greatest_c (w : World) (v : Value) (a : Au) (ha : IsAuto w v a) : Calls Try.prog 27 #[v] w (Calm (.int .i64 (grA a)) w) := by
  obtain ⟨v2, v3, rfl, -, hv2, hv3⟩ := ha
  obtain ⟨V2, ⟨a2, s2, b2, o2, rfl, gA2⟩, rA2⟩ := hv2
  obtain ⟨V3, ⟨a3, s3, b3, o3, rfl, gA3⟩, rA3⟩ := hv3
  have hnA3 := gA3.nb
  obtain ⟨L, hL⟩ : ∃ n, n = a.letters := ⟨_, rfl⟩
  obtain ⟨S, hS⟩ : ∃ n, n = a.start := ⟨_, rfl⟩
  obtain ⟨n2, hn2⟩ : ∃ n, n = a.next.length := ⟨_, rfl⟩
  rw [← hL, ← hS, ← hn2]
  clear hL hS hn2 gA2 rA2
  have hB2 : Below w.heap.size w (w.alloc (.cells #[.int .i64 L, .int .i64 S, .slice a2 n2 s2, .slice a3 a.prio.length s3] 24)) := bel_box _
  have hx1 : (w.alloc (.cells #[.int .i64 L, .int .i64 S, .slice a2 n2 s2, .slice a3 a.prio.length s3] 24)).heap[w.heap.size]? = some (.cells #[.int .i64 L, .int .i64 S, .slice a2 n2 s2, .slice a3 a.prio.length s3] 24 (0, 0)) := heap_alloc_new _ _
  go_enter Try.func27, Try.ntmps27
  go_upto_region 1 with (fail)
  generalize (w.alloc (.cells #[.int .i64 L, .int .i64 S, .slice a2 n2 s2, .slice a3 a.prio.length s3] 24)) = w2 at *
  have d3 := cell_of_row _ _ 3 _ _ _ hx1
  clear hx1
  go_upto_region 3 with (fail)
  go_loopg [3, 4] a.prio.length (fun gh m i wr => ∃ k : Nat, gh = a.prio.length - k ∧ m = .int .i64 (grR a k) ∧ i = .int .i64 k ∧ k ≤ a.prio.length ∧ w2 = wr)
  case atStart => exact ⟨0, rfl, rfl, rfl, by omega, rfl⟩
  case round =>
    obtain ⟨k, hgk, rfl, rfl, hk, rfl⟩ := hrel
    have HGK := Lib.hid hgk
    clear hgk
    by_cases hlt : k < a.prio.length
    · as_aux_lemma =>
      have hk1 : (k : Int) < a.prio.length := by omega
      obtain rfl := gA3.ad (by omega)
      have k1 := cellB hB2 (gA3.el k hlt)
      have rA' := rA3 k hlt
      obtain ⟨⟨ax, sx, bx, ox, hvx, gx⟩, -⟩ := rA'
      have hgx := gx.nb
      rw [hvx] at k1
      have HN : Hid (grR a (k + 1) = grX a k (a.prio.getD k []).length) := grR_succ a hlt
      have HS := fun x hx => Lib.hid (grX_succ a (i := k) (x := x) hx)
      have HZ : Hid (grR a k = grX a k 0) := by show _ = _; unfold grX; rfl
      generalize hrow : a.prio.getD k [] = row at *
      clear hvx hrow
      go_upto_region 6 with (fail)
      go_loopg [3, 5] row.length (fun gh m i wr => ∃ x : Nat, gh = row.length - x ∧ m = .int .i64 (grX a k x) ∧ i = .int .i64 x ∧ x ≤ row.length ∧ w2 = wr)
      case atStart => exact ⟨0, rfl, by rw [HZ.out], rfl, by omega, rfl⟩
      case round =>
        obtain ⟨x, hgx2, rfl, rfl, hx, rfl⟩ := hrel
        have HGX := Lib.hid hgx2
        clear hgx2
        by_cases hltx : x < row.length
        · as_aux_lemma =>
          have hx1 : (x : Int) < row.length := by omega
          obtain rfl := gx.ad (by omega)
          have e1 := cellB hB2 (gx.el x hltx)
          have HS1 := HS x hltx
          clear HS
          unfold ivF at e1
          generalize grX a k x = m at *
          generalize row.getD x 0 = y at *
          go_wp2
          all_goals
            go_roundg (row.length - (x + 1))
            case measure => have := HGX.out; omega
            case rel => exact ⟨x + 1, rfl, by rw [HS1.out]; congr 1; first | omega | (simp; omega), by go_num, by omega, rfl⟩
        · as_aux_lemma =>
          obtain rfl : x = row.length := by omega
          have hx2 : ¬ (row.length : Int) < row.length := by omega
          go_wp2
          go_roundg (a.prio.length - (k + 1))
          case measure => have := HGK.out; omega
          case rel => exact ⟨k + 1, rfl, by rw [HN.out], by go_num, by omega, rfl⟩
    · as_aux_lemma =>
      obtain rfl : k = a.prio.length := by omega
      rw [grR_all]
      go_wp2
      go_ret
      exact ⟨rfl, hB2⟩
end Go.Proofs.Ytdkpdpcecjcmcaa
