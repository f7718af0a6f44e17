/- Equality of games, of places. -/
import Derived.Test.YtjadeffdcbchnaaDoorAr18
namespace Go.Proofs.YtjadeffdcbchnaaDoor
open Go.RowKit

theorem IntsQ (w : World) (va vb : Value) (a b : List Int) (ha : IsInts w va a) (hb : IsInts w vb b) (q : Bool) (hq : decide (a = b) = q) : Hid (∀ W, Below w.heap.size w W → Calls Tryd.prog 23 #[va, vb] W (Quiet (.bool q) W)) := fun W h => by
  have := Ints_c W va vb a b (ha.below h) (hb.below h)
  rwa [hq] at this

set_option maxHeartbeats 4000000 in
theorem Same_c (w : World) (va vb : Value) (a b : Gm) (ha : IsGame w va a) (hb : IsGame w vb b) : Calls Tryd.prog 17 #[va, vb] w (Calm (.bool (decide (a = b))) w) := by
  obtain ⟨v0, v1, v2, rfl, hv0, hv1, hv2⟩ := ha
  obtain ⟨u0, u1, u2, rfl, hu0, hu1, hu2⟩ := hb
  have H0 := fun q hq => IntsQ w v0 u0 a.owner b.owner hv0 hu0 q hq
  have H1 := fun q hq => IntsQ w v1 u1 a.prio b.prio hv1 hu1 q hq
  obtain ⟨⟨a0, s0, -, -, rfl, -⟩, -⟩ := hv0
  obtain ⟨⟨a1, s1, -, -, rfl, -⟩, -⟩ := hv1
  obtain ⟨V, ⟨a2, s2, b2, o2, rfl, gA⟩, rA⟩ := hv2
  obtain ⟨⟨e0, t0, -, -, rfl, -⟩, -⟩ := hu0
  obtain ⟨⟨e1, t1, -, -, rfl, -⟩, -⟩ := hu1
  obtain ⟨U, ⟨e2, t2, c2, p2, rfl, gB⟩, rB⟩ := hu2
  have hnA := gA.nb
  have hnB := gB.nb
  have hB2 : Below w.heap.size w ((w.alloc (.cells #[.slice a0 a.owner.length s0, .slice a1 a.prio.length s1, .slice a2 a.succ.length s2] 28)).alloc (.cells #[.slice e0 b.owner.length t0, .slice e1 b.prio.length t1, .slice e2 b.succ.length t2] 28)) := (by repeat (first | exact Below.refl _ _ | assumption | (refine belA ?_ _) | (refine belD ?_ _)))
  have hx1 : ((w.alloc (.cells #[.slice a0 a.owner.length s0, .slice a1 a.prio.length s1, .slice a2 a.succ.length s2] 28)).alloc (.cells #[.slice e0 b.owner.length t0, .slice e1 b.prio.length t1, .slice e2 b.succ.length t2] 28)).heap[w.heap.size]? = some (.cells #[.slice a0 a.owner.length s0, .slice a1 a.prio.length s1, .slice a2 a.succ.length s2] 28 (0, 0)) := (by (repeat (rw [alloc_get]; first | rw [if_pos (by first | (simp; done) | (simp; omega))] | rw [if_neg (by first | (simp; done) | (simp; omega))])); (try rfl))
  have hx2 : ((w.alloc (.cells #[.slice a0 a.owner.length s0, .slice a1 a.prio.length s1, .slice a2 a.succ.length s2] 28)).alloc (.cells #[.slice e0 b.owner.length t0, .slice e1 b.prio.length t1, .slice e2 b.succ.length t2] 28)).heap[w.heap.size + 1]? = some (.cells #[.slice e0 b.owner.length t0, .slice e1 b.prio.length t1, .slice e2 b.succ.length t2] 28 (0, 0)) := (by (repeat (rw [alloc_get]; first | rw [if_pos (by first | (simp; done) | (simp; omega))] | rw [if_neg (by first | (simp; done) | (simp; omega))])); (try rfl))
  by_cases q0 : a.owner = b.owner
  case neg =>
    have HO := H0 false (decide_eq_false q0)
    have HF : Hid (decide (a = b) = false) := decide_eq_false fun e => q0 (by rw [e])
    clear H0 H1 q0
    go_enter Tryd.func17, Tryd.ntmps17
    go_upto_region 1 with (fail)
    generalize (w.alloc (.cells #[.slice a0 a.owner.length s0, .slice a1 a.prio.length s1, .slice a2 a.succ.length s2] 28)).alloc (.cells #[.slice e0 b.owner.length t0, .slice e1 b.prio.length t1, .slice e2 b.succ.length t2] 28) = w2 at *
    have d0 := cell_of_row _ _ 0 _ _ _ hx1
    have f0 := cell_of_row _ _ 0 _ _ _ hx2
    go_wp2_with fail
    refine (HO.out _ hB2).mono ?_
    rintro e w3 ⟨rfl, n1, rfl⟩
    go_wp2_with fail
    go_ret
    exact ⟨ret_bool (by rw [HF.out]), hB2.trans (below_draws _ _ _)⟩
  have HO := H0 true (decide_eq_true q0)
  have HQ0 := Lib.hid q0
  clear H0 q0
  by_cases q1 : a.prio = b.prio
  case neg =>
    have HP := H1 false (decide_eq_false q1)
    have HF : Hid (decide (a = b) = false) := decide_eq_false fun e => q1 (by rw [e])
    clear H1 q1
    go_enter Tryd.func17, Tryd.ntmps17
    go_upto_region 1 with (fail)
    generalize (w.alloc (.cells #[.slice a0 a.owner.length s0, .slice a1 a.prio.length s1, .slice a2 a.succ.length s2] 28)).alloc (.cells #[.slice e0 b.owner.length t0, .slice e1 b.prio.length t1, .slice e2 b.succ.length t2] 28) = w2 at *
    have d0 := cell_of_row _ _ 0 _ _ _ hx1
    have f0 := cell_of_row _ _ 0 _ _ _ hx2
    have d1 := cell_of_row _ _ 1 _ _ _ hx1
    have f1 := cell_of_row _ _ 1 _ _ _ hx2
    go_wp2_with fail
    refine (HO.out _ hB2).mono ?_
    rintro e w3 ⟨rfl, n1, rfl⟩
    go_wp2_with fail
    refine (HP.out _ (hB2.trans (below_draws _ _ _))).mono ?_
    rintro e w3 ⟨rfl, n2, rfl⟩
    go_wp2_with fail
    go_ret
    exact ⟨ret_bool (by rw [HF.out]), hB2.trans (below_draws _ _ _)⟩
  have HP := H1 true (decide_eq_true q1)
  have HQ1 := Lib.hid q1
  clear H1 q1
  by_cases q2 : a.succ.length = b.succ.length
  case neg =>
    have hne : ((a.succ.length : Int) != b.succ.length) = true := by simp; omega
    have HF : Hid (decide (a = b) = false) := decide_eq_false fun e => q2 (by rw [e])
    clear q2
    go_enter Tryd.func17, Tryd.ntmps17
    go_upto_region 1 with (fail)
    generalize (w.alloc (.cells #[.slice a0 a.owner.length s0, .slice a1 a.prio.length s1, .slice a2 a.succ.length s2] 28)).alloc (.cells #[.slice e0 b.owner.length t0, .slice e1 b.prio.length t1, .slice e2 b.succ.length t2] 28) = w2 at *
    have d0 := cell_of_row _ _ 0 _ _ _ hx1
    have f0 := cell_of_row _ _ 0 _ _ _ hx2
    have d1 := cell_of_row _ _ 1 _ _ _ hx1
    have f1 := cell_of_row _ _ 1 _ _ _ hx2
    have d2 := cell_of_row _ _ 2 _ _ _ hx1
    have f2 := cell_of_row _ _ 2 _ _ _ hx2
    go_wp2_with fail
    refine (HO.out _ hB2).mono ?_
    rintro e w3 ⟨rfl, n1, rfl⟩
    go_wp2_with fail
    refine (HP.out _ (hB2.trans (below_draws _ _ _))).mono ?_
    rintro e w3 ⟨rfl, n2, rfl⟩
    go_wp2_with fail
    go_ret
    exact ⟨ret_bool (by rw [HF.out]), hB2.trans (below_draws _ _ _)⟩
  have hne : ((a.succ.length : Int) != b.succ.length) = false := by simp; omega
  have HQ2 := Lib.hid q2
  clear q2
  have HEQ : Hid (a.succ = b.succ → decide (a = b) = true) := fun h => decide_eq_true (by
    obtain ⟨x, y, z⟩ := a
    obtain ⟨x', y', z'⟩ := b
    have h1 := HQ0.out
    have h2 := HQ1.out
    simp only at h1 h2 h
    rw [h1, h2, h])
  have HNE : Hid (∀ k, a.succ.getD k [] ≠ b.succ.getD k [] → decide (a = b) = false) := fun k h => decide_eq_false fun e => h (by rw [e])
  go_enter Tryd.func17, Tryd.ntmps17
  go_upto_region 1 with (fail)
  generalize (w.alloc (.cells #[.slice a0 a.owner.length s0, .slice a1 a.prio.length s1, .slice a2 a.succ.length s2] 28)).alloc (.cells #[.slice e0 b.owner.length t0, .slice e1 b.prio.length t1, .slice e2 b.succ.length t2] 28) = w2 at *
  have d0 := cell_of_row _ _ 0 _ _ _ hx1
  have f0 := cell_of_row _ _ 0 _ _ _ hx2
  have d1 := cell_of_row _ _ 1 _ _ _ hx1
  have f1 := cell_of_row _ _ 1 _ _ _ hx2
  have d2 := cell_of_row _ _ 2 _ _ _ hx1
  have f2 := cell_of_row _ _ 2 _ _ _ hx2
  go_wp2_with fail
  refine (HO.out _ hB2).mono ?_
  rintro e w3 ⟨rfl, n1, rfl⟩
  go_wp2_with fail
  refine (HP.out _ (hB2.trans (below_draws _ _ _))).mono ?_
  rintro e w3 ⟨rfl, n2, rfl⟩
  go_wp2_with fail
  clear d0 f0 d1 f1 hx1 hx2 HO HP
  go_loopg [5] a.succ.length (fun gh i wr => ∃ (k m : Nat), gh = a.succ.length - k ∧ i = .int .i64 k ∧ k ≤ a.succ.length ∧ Hid (a.succ.take k = b.succ.take k) ∧ w2.drewN m = wr)
  case atStart => exact ⟨0, n1 + n2, by omega, rfl, by omega, by show _ = _; simp, rfl⟩
  case round =>
    obtain ⟨k, m, rfl, rfl, hk, HE, rfl⟩ := hrel
    by_cases hlt : k < a.succ.length
    · have hltb : k < b.succ.length := by rw [← HQ2.out]; exact hlt
      obtain rfl := gA.ad (by omega)
      obtain rfl := gB.ad (by omega)
      have k1 := cellB hB2 (gA.el k hlt)
      have k2 := cellB hB2 (gB.el k hltb)
      have rA' := rA k hlt
      have rB' := rB k hltb
      obtain ⟨q, hq⟩ : ∃ q, decide (a.succ.getD k [] = b.succ.getD k []) = q := ⟨_, rfl⟩
      have HI := IntsQ w (V k) (U k) _ _ rA' rB' q hq
      have HQ := Lib.hid hq
      obtain ⟨⟨ax, sx, -, -, hvx, -⟩, -⟩ := rA'
      obtain ⟨⟨ay, sy, -, -, hvy, -⟩, -⟩ := rB'
      rw [hvx, hvy] at HI
      rw [hvx] at k1
      rw [hvy] at k2
      clear hvx hvy hq
      generalize (a.succ.getD k []).length = lx at *
      generalize (b.succ.getD k []).length = ly at *
      go_wp2
      go_quiet ((go_at_call 23; refine (HI.out _ (by repeat (first | exact hB2 | (refine belD ?_ _)))).mono ?_; rintro e w' ⟨rfl, n, rfl⟩; exact ⟨rfl, _, by rw [World.drewN_drewN, Nat.add_assoc]⟩))
      cases q
      · go_wp2
        go_ret
        exact ⟨ret_bool (by rw [HNE.out k (of_decide_eq_false HQ.out)]), (hB2.trans (below_draws _ _ _)).trans (below_draws _ _ _)⟩
      · go_wp2
        go_roundg (a.succ.length - (k + 1))
        case rel => exact ⟨k + 1, m + nq, rfl, by go_num, by omega, take_succ_eq hlt hltb HE.out (by have := of_decide_eq_true HQ.out; rwa [getD_lt _ _ _ hlt, getD_lt _ _ _ hltb] at this), by simp [World.drewN, Nat.add_assoc]⟩
        case measure => omega
    · obtain rfl : k = a.succ.length := by omega
      have HS : Hid (a.succ = b.succ) := by
        have := HE.out
        rwa [List.take_length, HQ2.out, List.take_length] at this
      go_wp2
      go_ret
      exact ⟨ret_bool (by rw [HEQ.out HS.out]), hB2.trans (below_draws _ _ _)⟩


end Go.Proofs.YtjadeffdcbchnaaDoor
