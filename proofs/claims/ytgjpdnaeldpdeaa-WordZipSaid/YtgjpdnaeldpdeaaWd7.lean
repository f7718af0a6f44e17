/- What Ints, Equal, slices.Equal compute. -/
import Derived.Test.YtgjpdnaeldpdeaaWd5
namespace Go.Proofs.Ytgjpdnaeldpdeaa
open Go.RowKit

set_option maxHeartbeats 2000000 in
theorem Ints_c (w : World) (va vb : Value) (a b : List Int) (ha : IsInts w va a) (hb : IsInts w vb b) :
    Calls Try.prog 16 #[va, vb] w (Quiet (.bool (decide (a = b))) w) := by
  obtain ⟨⟨aa, ca, ba, oa, rfl, ha⟩, har⟩ := ha
  obtain ⟨⟨ab, cb, bb, ob, rfl, hb⟩, hbr⟩ := hb
  have hna := ha.nb
  have hnb := hb.nb
  clear har hbr
  by_cases hlen : a.length = b.length
  case neg =>
    have hne : ((a.length : Int) != b.length) = true := by simp; omega
    have HF : Hid (decide (a = b) = false) := decide_eq_false (fun e => hlen (by rw [e]))
    clear hlen
    go_enter Try.func16, Try.ntmps16
    go_wp2
    go_ret
    exact ⟨ret_bool (by rw [HF.out]), 0, rfl⟩
  have hne : ((a.length : Int) != b.length) = false := by simp; omega
  have HLN := Lib.hid hlen
  clear hlen
  go_enter Try.func16, Try.ntmps16
  go_wp2
  go_loopw [5] (fun i wr => ∃ (k m : Nat), i = .int .i64 k ∧ k ≤ a.length ∧ Hid (a.take k = b.take k) ∧ wr = w.drewN m) (fun i _ => a.length - (intOf i).toNat)
  case atStart => exact ⟨0, 0, rfl, by omega, by show _ = _; simp, rfl⟩
  case round =>
    obtain ⟨k, m, rfl, hk, HE, rfl⟩ := hrel
    by_cases hlt : k < a.length
    · have hltb : k < b.length := by rw [← HLN.out]; exact hlt
      obtain rfl := ha.ad (by omega)
      obtain rfl := hb.ad (by omega)
      have c1 := ha.el k hlt
      have c2 := hb.el k hltb
      unfold ivF at c1 c2
      rw [getD_lt _ _ _ hlt] at c1
      rw [getD_lt _ _ _ hltb] at c2
      by_cases hq : a[k] = b[k]
      · have hq2 : (a[k] != b[k]) = false := by simp [hq]
        have HE2 : Hid (a.take (k + 1) = b.take (k + 1)) := take_succ_eq hlt hltb HE.out hq
        clear hq
        go_wp2
        go_quiet (fail)
        go_wp2
        go_roundw
        case rel => exact ⟨k + 1, _, by go_num, by omega, HE2.out, rfl⟩
        case measure => simp [intOf]; omega
      · have hq2 : (a[k] != b[k]) = true := by simp [hq]
        have HF : Hid (decide (a = b) = false) := decide_eq_false (fun e => hq (by subst e; rfl))
        clear hq
        go_wp2
        go_quiet (fail)
        go_wp2
        go_ret
        exact ⟨ret_bool (by rw [HF.out]), m + nq, by simp [World.drewN, Nat.add_assoc]⟩
    · obtain rfl : k = a.length := by omega
      have HF : Hid (decide (a = b) = true) := decide_eq_true (by
        have := HE.out
        rw [List.take_length, HLN.out, List.take_length] at this
        exact this)
      go_wp2
      go_ret
      exact ⟨ret_bool (by rw [HF.out]), m, rfl⟩

set_option maxHeartbeats 2000000 in
theorem SEqual_c (w : World) (va vb : Value) (a b : List Int) (ha : IsInts w va a) (hb : IsInts w vb b) :
    Calls Try.prog 41 #[va, vb] w (Quiet (.bool (decide (a = b))) w) := by
  obtain ⟨⟨aa, ca, ba, oa, rfl, ha⟩, har⟩ := ha
  obtain ⟨⟨ab, cb, bb, ob, rfl, hb⟩, hbr⟩ := hb
  have hna := ha.nb
  have hnb := hb.nb
  clear har hbr
  by_cases hlen : a.length = b.length
  case neg =>
    have hne : ((a.length : Int) != b.length) = true := by simp; omega
    have HF : Hid (decide (a = b) = false) := decide_eq_false (fun e => hlen (by rw [e]))
    clear hlen
    go_enter Try.func41, Try.ntmps41
    go_wp2
    go_ret
    exact ⟨ret_bool (by rw [HF.out]), 0, rfl⟩
  have hne : ((a.length : Int) != b.length) = false := by simp; omega
  have HLN := Lib.hid hlen
  clear hlen
  go_enter Try.func41, Try.ntmps41
  go_wp2
  go_loopw [13] (fun i wr => ∃ (k m : Nat), i = .int .i64 k ∧ k ≤ a.length ∧ Hid (a.take k = b.take k) ∧ wr = w.drewN m) (fun i _ => a.length - (intOf i).toNat)
  case atStart => exact ⟨0, 0, rfl, by omega, by show _ = _; simp, rfl⟩
  case round =>
    obtain ⟨k, m, rfl, hk, HE, rfl⟩ := hrel
    by_cases hlt : k < a.length
    · have hltb : k < b.length := by rw [← HLN.out]; exact hlt
      obtain rfl := ha.ad (by omega)
      obtain rfl := hb.ad (by omega)
      have c1 := ha.el k hlt
      have c2 := hb.el k hltb
      unfold ivF at c1 c2
      rw [getD_lt _ _ _ hlt] at c1
      rw [getD_lt _ _ _ hltb] at c2
      by_cases hq : a[k] = b[k]
      · have hq2 : (a[k] != b[k]) = false := by simp [hq]
        have HE2 : Hid (a.take (k + 1) = b.take (k + 1)) := take_succ_eq hlt hltb HE.out hq
        clear hq
        go_wp2
        go_quiet (fail)
        go_wp2
        go_roundw
        case rel => exact ⟨k + 1, _, by go_num, by omega, HE2.out, rfl⟩
        case measure => simp [intOf]; omega
      · have hq2 : (a[k] != b[k]) = true := by simp [hq]
        have HF : Hid (decide (a = b) = false) := decide_eq_false (fun e => hq (by subst e; rfl))
        clear hq
        go_wp2
        go_quiet (fail)
        go_wp2
        go_ret
        exact ⟨ret_bool (by rw [HF.out]), m + nq, by simp [World.drewN, Nat.add_assoc]⟩
    · obtain rfl : k = a.length := by omega
      have HF : Hid (decide (a = b) = true) := decide_eq_true (by
        have := HE.out
        rw [List.take_length, HLN.out, List.take_length] at this
        exact this)
      go_wp2
      go_ret
      exact ⟨ret_bool (by rw [HF.out]), m, rfl⟩

set_option maxHeartbeats 2000000 in
theorem Equal_c (w : World) (va vb : Value) (a b : Ls) (ha : IsLs w va a) (hb : IsLs w vb b) :
    Calls Try.prog 19 #[va, vb] w (Calm (.bool (decide (a = b))) w) := by
  obtain ⟨x0, x1, rfl, h0, h1⟩ := ha
  obtain ⟨y0, y1, rfl, k0, k1⟩ := hb
  have H0 := Lib.hid (fun (W : World) (hW : Below w.heap.size w W) => Ints_c W x0 y0 a.stem b.stem (h0.below hW) (k0.below hW))
  have H1 := Lib.hid (fun (W : World) (hW : Below w.heap.size w W) => Ints_c W x1 y1 a.loop b.loop (h1.below hW) (k1.below hW))
  obtain ⟨⟨a0, c0, b0, o0, rfl, -⟩, -⟩ := h0
  obtain ⟨⟨a1, c1, b1, o1, rfl, -⟩, -⟩ := h1
  obtain ⟨⟨a2, c2, b2, o2, rfl, -⟩, -⟩ := k0
  obtain ⟨⟨a3, c3, b3, o3, rfl, -⟩, -⟩ := k1
  have HR : Hid (decide (a = b) = (decide (a.stem = b.stem) && decide (a.loop = b.loop))) := by
    show _ = _
    obtain ⟨a1, a2⟩ := a
    obtain ⟨b1, b2⟩ := b
    simp
  generalize decide (a.stem = b.stem) = r0 at *
  generalize decide (a.loop = b.loop) = r1 at *
  generalize decide (a = b) = r at *
  go_enter Try.func19, Try.ntmps19
  go_wp2_with fail
  refine (H0.out _ (by repeat (first | exact Below.refl _ _ | assumption | (refine belA ?_ _) | (refine belD ?_ _) | (refine Below.drew ?_)))).mono ?_
  rintro e w' ⟨rfl, n0, rfl⟩
  cases r0 with
  | false =>
    go_wp2
    go_ret
    exact ⟨ret_bool (by rw [HR.out]; rfl), (by repeat (first | exact Below.refl _ _ | assumption | (refine belA ?_ _) | (refine belD ?_ _) | (refine Below.drew ?_)))⟩
  | true =>
    go_wp2_with fail
    refine (H1.out _ (by repeat (first | exact Below.refl _ _ | assumption | (refine belA ?_ _) | (refine belD ?_ _) | (refine Below.drew ?_)))).mono ?_
    rintro e w' ⟨rfl, n1, rfl⟩
    go_wp2
    go_ret
    exact ⟨ret_bool (by rw [HR.out]; rfl), (by repeat (first | exact Below.refl _ _ | assumption | (refine belA ?_ _) | (refine belD ?_ _) | (refine Below.drew ?_)))⟩

end Go.Proofs.Ytgjpdnaeldpdeaa
