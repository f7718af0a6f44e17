/- Equality of automata, their sizes. -/
import Derived.Test.YtdkpdpcecjcmcaaQRd18
namespace Go.Proofs.Ytdkpdpcecjcmcaa
open Go.RowKit

theorem IntsQ (w : World) (va vb : Value) (a b : List Int) (ha : IsInts w va a) (hb : IsInts w vb b) (q : Bool) (hq : decide (a = b) = q) : Hid (∀ W, Below w.heap.size w W → Calls Try.prog 38 #[va, vb] W (Quiet (.bool q) W)) := fun W h => by
  have := Ints_c W va vb a b (ha.below h) (hb.below h)
  rwa [hq] at this

set_option maxRecDepth 100000 in
set_option maxHeartbeats 4000000 in
theorem Same_c (w : World) (va vb : Value) (a b : Au) (ha : IsAuto w va a) (hb : IsAuto w vb b) : Calls Try.prog 18 #[va, vb] w (Calm (.bool (decide (a = b))) w) := by
  obtain ⟨v2, v3, rfl, -, hv2, hv3⟩ := ha
  obtain ⟨u2, u3, rfl, -, hu2, hu3⟩ := hb
  obtain ⟨V2, ⟨a2, s2, b2, o2, rfl, gA2⟩, rA2⟩ := hv2
  obtain ⟨V3, ⟨a3, s3, b3, o3, rfl, gA3⟩, rA3⟩ := hv3
  obtain ⟨U2, ⟨e2, t2, c2, p2, rfl, gB2⟩, rB2⟩ := hu2
  obtain ⟨U3, ⟨e3, t3, c3, p3, rfl, gB3⟩, rB3⟩ := hu3
  have hnA2 := gA2.nb
  have hnA3 := gA3.nb
  have hnB2 := gB2.nb
  have hnB3 := gB3.nb
  have hB2 : Below w.heap.size w ((w.alloc (.cells #[.int .i64 a.letters, .int .i64 a.start, .slice a2 a.next.length s2, .slice a3 a.prio.length s3] 24)).alloc (.cells #[.int .i64 b.letters, .int .i64 b.start, .slice e2 b.next.length t2, .slice e3 b.prio.length t3] 24)) := (by repeat (first | exact Below.refl _ _ | assumption | (refine belA ?_ _) | (refine belD ?_ _)))
  have hx1 : ((w.alloc (.cells #[.int .i64 a.letters, .int .i64 a.start, .slice a2 a.next.length s2, .slice a3 a.prio.length s3] 24)).alloc (.cells #[.int .i64 b.letters, .int .i64 b.start, .slice e2 b.next.length t2, .slice e3 b.prio.length t3] 24)).heap[w.heap.size]? = some (.cells #[.int .i64 a.letters, .int .i64 a.start, .slice a2 a.next.length s2, .slice a3 a.prio.length s3] 24 (0, 0)) := (by (repeat (rw [alloc_get]; first | rw [if_pos (by first | (simp; done) | (simp; omega))] | rw [if_neg (by first | (simp; done) | (simp; omega))])); (try rfl))
  have hx2 : ((w.alloc (.cells #[.int .i64 a.letters, .int .i64 a.start, .slice a2 a.next.length s2, .slice a3 a.prio.length s3] 24)).alloc (.cells #[.int .i64 b.letters, .int .i64 b.start, .slice e2 b.next.length t2, .slice e3 b.prio.length t3] 24)).heap[w.heap.size + 1]? = some (.cells #[.int .i64 b.letters, .int .i64 b.start, .slice e2 b.next.length t2, .slice e3 b.prio.length t3] 24 (0, 0)) := (by (repeat (rw [alloc_get]; first | rw [if_pos (by first | (simp; done) | (simp; omega))] | rw [if_neg (by first | (simp; done) | (simp; omega))])); (try rfl))
  by_cases q0 : a.letters = b.letters
  case neg =>
    have hne0 : (a.letters != b.letters) = true := by simp; omega
    have HF : Hid (decide (a = b) = false) := decide_eq_false fun e => q0 (by rw [e])
    clear q0
    go_enter Try.func18, Try.ntmps18
    go_upto_region 1 with (fail)
    generalize ((w.alloc (.cells #[.int .i64 a.letters, .int .i64 a.start, .slice a2 a.next.length s2, .slice a3 a.prio.length s3] 24)).alloc (.cells #[.int .i64 b.letters, .int .i64 b.start, .slice e2 b.next.length t2, .slice e3 b.prio.length t3] 24)) = w2 at *
    have d0 := cell_of_row _ _ 0 _ _ _ hx1
    have f0 := cell_of_row _ _ 0 _ _ _ hx2
    go_wp2
    go_ret
    exact ⟨by rw [HF.out]; rfl, hB2⟩
  have hne0 : (a.letters != b.letters) = false := by simp; omega
  have HQ0 := Lib.hid q0
  clear q0
  by_cases q1 : a.start = b.start
  case neg =>
    have hne1 : (a.start != b.start) = true := by simp; omega
    have HF : Hid (decide (a = b) = false) := decide_eq_false fun e => q1 (by rw [e])
    clear q1
    go_enter Try.func18, Try.ntmps18
    go_upto_region 1 with (fail)
    generalize ((w.alloc (.cells #[.int .i64 a.letters, .int .i64 a.start, .slice a2 a.next.length s2, .slice a3 a.prio.length s3] 24)).alloc (.cells #[.int .i64 b.letters, .int .i64 b.start, .slice e2 b.next.length t2, .slice e3 b.prio.length t3] 24)) = w2 at *
    have d0 := cell_of_row _ _ 0 _ _ _ hx1
    have f0 := cell_of_row _ _ 0 _ _ _ hx2
    have d1 := cell_of_row _ _ 1 _ _ _ hx1
    have f1 := cell_of_row _ _ 1 _ _ _ hx2
    go_wp2
    go_ret
    exact ⟨by rw [HF.out]; rfl, hB2⟩
  have hne1 : (a.start != b.start) = false := by simp; omega
  have HQ1 := Lib.hid q1
  clear q1
  by_cases q2 : a.next.length = b.next.length
  case neg =>
    have hne2 : ((a.next.length : Int) != (b.next.length : Int)) = true := by simp; omega
    have HF : Hid (decide (a = b) = false) := decide_eq_false fun e => q2 (by rw [e])
    clear q2
    go_enter Try.func18, Try.ntmps18
    go_upto_region 1 with (fail)
    generalize ((w.alloc (.cells #[.int .i64 a.letters, .int .i64 a.start, .slice a2 a.next.length s2, .slice a3 a.prio.length s3] 24)).alloc (.cells #[.int .i64 b.letters, .int .i64 b.start, .slice e2 b.next.length t2, .slice e3 b.prio.length t3] 24)) = w2 at *
    have d0 := cell_of_row _ _ 0 _ _ _ hx1
    have f0 := cell_of_row _ _ 0 _ _ _ hx2
    have d1 := cell_of_row _ _ 1 _ _ _ hx1
    have f1 := cell_of_row _ _ 1 _ _ _ hx2
    have d2 := cell_of_row _ _ 2 _ _ _ hx1
    have f2 := cell_of_row _ _ 2 _ _ _ hx2
    go_wp2
    go_ret
    exact ⟨by rw [HF.out]; rfl, hB2⟩
  have hne2 : ((a.next.length : Int) != (b.next.length : Int)) = false := by simp; omega
  have HQ2 := Lib.hid q2
  clear q2
  by_cases q3 : a.prio.length = b.prio.length
  case neg =>
    have hne3 : ((a.prio.length : Int) != (b.prio.length : Int)) = true := by simp; omega
    have HF : Hid (decide (a = b) = false) := decide_eq_false fun e => q3 (by rw [e])
    clear q3
    go_enter Try.func18, Try.ntmps18
    go_upto_region 1 with (fail)
    generalize ((w.alloc (.cells #[.int .i64 a.letters, .int .i64 a.start, .slice a2 a.next.length s2, .slice a3 a.prio.length s3] 24)).alloc (.cells #[.int .i64 b.letters, .int .i64 b.start, .slice e2 b.next.length t2, .slice e3 b.prio.length t3] 24)) = w2 at *
    have d0 := cell_of_row _ _ 0 _ _ _ hx1
    have f0 := cell_of_row _ _ 0 _ _ _ hx2
    have d1 := cell_of_row _ _ 1 _ _ _ hx1
    have f1 := cell_of_row _ _ 1 _ _ _ hx2
    have d2 := cell_of_row _ _ 2 _ _ _ hx1
    have f2 := cell_of_row _ _ 2 _ _ _ hx2
    have d3 := cell_of_row _ _ 3 _ _ _ hx1
    have f3 := cell_of_row _ _ 3 _ _ _ hx2
    go_wp2
    go_ret
    exact ⟨by rw [HF.out]; rfl, hB2⟩
  have hne3 : ((a.prio.length : Int) != (b.prio.length : Int)) = false := by simp; omega
  have HQ3 := Lib.hid q3
  clear q3
  have HEQ : Hid (a.next = b.next → a.prio = b.prio → decide (a = b) = true) := fun h h' => decide_eq_true (by
    obtain ⟨x, y, z, u⟩ := a
    obtain ⟨x', y', z', u'⟩ := b
    have h1 := HQ0.out
    have h2 := HQ1.out
    simp only at h1 h2 h h'
    rw [h1, h2, h, h'])
  have HNE : Hid (∀ k, a.next.getD k [] ≠ b.next.getD k [] → decide (a = b) = false) := fun k h => decide_eq_false fun e => h (by rw [e])
  have HNE2 : Hid (∀ k, a.prio.getD k [] ≠ b.prio.getD k [] → decide (a = b) = false) := fun k h => decide_eq_false fun e => h (by rw [e])
  go_enter Try.func18, Try.ntmps18
  go_upto_region 1 with (fail)
  generalize ((w.alloc (.cells #[.int .i64 a.letters, .int .i64 a.start, .slice a2 a.next.length s2, .slice a3 a.prio.length s3] 24)).alloc (.cells #[.int .i64 b.letters, .int .i64 b.start, .slice e2 b.next.length t2, .slice e3 b.prio.length t3] 24)) = w2 at *
  have d0 := cell_of_row _ _ 0 _ _ _ hx1
  have f0 := cell_of_row _ _ 0 _ _ _ hx2
  have d1 := cell_of_row _ _ 1 _ _ _ hx1
  have f1 := cell_of_row _ _ 1 _ _ _ hx2
  have d2 := cell_of_row _ _ 2 _ _ _ hx1
  have f2 := cell_of_row _ _ 2 _ _ _ hx2
  have d3 := cell_of_row _ _ 3 _ _ _ hx1
  have f3 := cell_of_row _ _ 3 _ _ _ hx2
  have HX1 := Lib.hid hx1
  have HX2 := Lib.hid hx2
  go_wp2
  clear d0 d1 d2 d3 f0 f1 f2 f3 hx1 hx2
  go_loopg [5] a.next.length (fun gh i wr => ∃ (k m : Nat), gh = a.next.length - k ∧ i = .int .i64 k ∧ k ≤ a.next.length ∧ Hid (a.next.take k = b.next.take k) ∧ w2.drewN m = wr)
  case atStart => exact ⟨0, 0, by omega, rfl, by omega, by show _ = _; simp, by rfl⟩
  case round =>
    obtain ⟨k, m, hgk, rfl, hk, HE, rfl⟩ := hrel
    have HGK := Lib.hid hgk
    clear hgk
    have e1 : (w2.drewN m).cell? ⟨w.heap.size, 2, none⟩ = _ := cell_of_row w2 _ 2 _ _ _ HX1.out
    have e2' : (w2.drewN m).cell? ⟨w.heap.size + 1, 2, none⟩ = _ := cell_of_row w2 _ 2 _ _ _ HX2.out
    by_cases hlt : k < a.next.length
    · as_aux_lemma =>
      have hltb : k < b.next.length := by have := HQ2.out; omega
      have hk1 : (k : Int) < a.next.length := by omega
      have hk2 : (k : Int) < b.next.length := by omega
      obtain rfl := gA2.ad (by omega)
      obtain rfl := gB2.ad (by omega)
      have k1 := cellB hB2 (gA2.el k hlt)
      have k2 := cellB hB2 (gB2.el k hltb)
      have rA' := rA2 k hlt
      have rB' := rB2 k hltb
      obtain ⟨q, hq⟩ : ∃ q, decide (a.next.getD k [] = b.next.getD k []) = q := ⟨_, rfl⟩
      have HI := IntsQ w (V2 k) (U2 k) _ _ rA' rB' q hq
      have HQ := Lib.hid hq
      obtain ⟨⟨ax, sx, -, -, hvx, -⟩, -⟩ := rA'
      obtain ⟨⟨ay, sy, -, -, hvy, -⟩, -⟩ := rB'
      rw [hvx, hvy] at HI
      rw [hvx] at k1
      rw [hvy] at k2
      have e3 : w2.cell? ⟨w.heap.size, 2, none⟩ = _ := cell_of_row w2 _ 2 _ _ _ HX1.out
      have e4 : w2.cell? ⟨w.heap.size + 1, 2, none⟩ = _ := cell_of_row w2 _ 2 _ _ _ HX2.out
      clear hvx hvy hq
      generalize (a.next.getD k []).length = lx at *
      generalize (b.next.getD k []).length = ly at *
      go_wp2
      go_quiet ((go_at_call 38; refine (HI.out _ (by repeat (first | exact hB2 | (refine belD ?_ _)))).mono ?_; rintro e w' ⟨rfl, n, rfl⟩; exact ⟨rfl, _, by rw [World.drewN_drewN, Nat.add_assoc]⟩))
      cases q
      · go_wp2
        go_ret
        exact ⟨ret_false (HNE.out k (of_decide_eq_false HQ.out)), (hB2.trans (below_draws _ _ _)).trans (below_draws _ _ _)⟩
      · go_wp2
        go_roundg (a.next.length - (k + 1))
        case measure => have := HGK.out; omega
        case rel => exact ⟨k + 1, _, rfl, by go_num, by omega, by
          have h := of_decide_eq_true HQ.out
          rw [getD_lt _ _ _ hlt, getD_lt _ _ _ hltb] at h
          exact take_succ_eq hlt hltb HE.out h, rfl⟩
    · as_aux_lemma =>
      obtain rfl : k = a.next.length := by omega
      have HEn : Hid (a.next = b.next) := by
        have h := HE.out
        rw [List.take_length, List.take_of_length_le (by have := HQ2.out; omega)] at h
        exact h
      clear HE
      go_wp2
      clear e1 e2'
      go_loopg [6] a.prio.length (fun gh i wr => ∃ (k m : Nat), gh = a.prio.length - k ∧ i = .int .i64 k ∧ k ≤ a.prio.length ∧ Hid (a.prio.take k = b.prio.take k) ∧ w2.drewN m = wr)
      case atStart => exact ⟨0, m, by omega, rfl, by omega, by show _ = _; simp, by rfl⟩
      case round =>
        obtain ⟨k, m, hgk, rfl, hk, HE, rfl⟩ := hrel
        have HGK := Lib.hid hgk
        clear hgk
        have e1 : (w2.drewN m).cell? ⟨w.heap.size, 3, none⟩ = _ := cell_of_row w2 _ 3 _ _ _ HX1.out
        have e2' : (w2.drewN m).cell? ⟨w.heap.size + 1, 3, none⟩ = _ := cell_of_row w2 _ 3 _ _ _ HX2.out
        by_cases hlt : k < a.prio.length
        · as_aux_lemma =>
          have hltb : k < b.prio.length := by have := HQ3.out; omega
          have hk1 : (k : Int) < a.prio.length := by omega
          have hk2 : (k : Int) < b.prio.length := by omega
          obtain rfl := gA3.ad (by omega)
          obtain rfl := gB3.ad (by omega)
          have k1 := cellB hB2 (gA3.el k hlt)
          have k2 := cellB hB2 (gB3.el k hltb)
          have rA' := rA3 k hlt
          have rB' := rB3 k hltb
          obtain ⟨q, hq⟩ : ∃ q, decide (a.prio.getD k [] = b.prio.getD k []) = q := ⟨_, rfl⟩
          have HI := IntsQ w (V3 k) (U3 k) _ _ rA' rB' q hq
          have HQ := Lib.hid hq
          obtain ⟨⟨ax, sx, -, -, hvx, -⟩, -⟩ := rA'
          obtain ⟨⟨ay, sy, -, -, hvy, -⟩, -⟩ := rB'
          rw [hvx, hvy] at HI
          rw [hvx] at k1
          rw [hvy] at k2
          have e3 : w2.cell? ⟨w.heap.size, 3, none⟩ = _ := cell_of_row w2 _ 3 _ _ _ HX1.out
          have e4 : w2.cell? ⟨w.heap.size + 1, 3, none⟩ = _ := cell_of_row w2 _ 3 _ _ _ HX2.out
          clear hvx hvy hq
          generalize (a.prio.getD k []).length = lx at *
          generalize (b.prio.getD k []).length = ly at *
          go_wp2
          go_quiet ((go_at_call 38; refine (HI.out _ (by repeat (first | exact hB2 | (refine belD ?_ _)))).mono ?_; rintro e w' ⟨rfl, n, rfl⟩; exact ⟨rfl, _, by rw [World.drewN_drewN, Nat.add_assoc]⟩))
          cases q
          · go_wp2
            go_ret
            exact ⟨ret_false (HNE2.out k (of_decide_eq_false HQ.out)), (hB2.trans (below_draws _ _ _)).trans (below_draws _ _ _)⟩
          · go_wp2
            go_roundg (a.prio.length - (k + 1))
            case measure => have := HGK.out; omega
            case rel => exact ⟨k + 1, _, rfl, by go_num, by omega, by
              have h := of_decide_eq_true HQ.out
              rw [getD_lt _ _ _ hlt, getD_lt _ _ _ hltb] at h
              exact take_succ_eq hlt hltb HE.out h, rfl⟩
        · as_aux_lemma =>
          obtain rfl : k = a.prio.length := by omega
          have HEp : Hid (a.prio = b.prio) := by
            have h := HE.out
            rw [List.take_length, List.take_of_length_le (by have := HQ3.out; omega)] at h
            exact h
          go_wp2
          go_ret
          exact ⟨ret_true (HEQ.out HEn.out HEp.out), hB2.trans (below_draws _ _ _)⟩

end Go.Proofs.Ytdkpdpcecjcmcaa
