/- What Closed computes; the example. -/
import Derived.Test.YtjppebbeobgmoaaC15
import Derived.Deep.RegionHeld3
namespace Go.Proofs.Ytjppebbeobgmoaa
open Go.RowKit

theorem attQ_ok (g : Gm) (p : Int) (t : List Bool) (hS : ∀ i, (g.succ.getD i []).length ≤ 1000) : AttOK t.length (1000 + t.length * (1000 * t.length)) (attQ g p t) := by
  have h0 := begSt_ok g t t.length hS t.length (Nat.le_refl _)
  exact attIter_ok h0.1 (fun j => ⟨begSt_row g t t.length hS t.length j, h0.2.2 j⟩) _

/-- What Closed returns. -/
def closedQ (g : Gm) (p : Int) (s : List Bool) : List Bool := notL (attQ g (1 - p) (notL s)).inn

set_option maxHeartbeats 4000000 in
theorem Closed_c (w : World) (vg vs : Value) (g : Gm) (p : Int) (s : List Bool) (hg : IsGame w vg g) (hs : IsBools w vs s) (hS : ∀ i, (g.succ.getD i []).length ≤ 1000) :
    Calls Try.prog 17 #[vg, .int .i64 p, vs] w (SetOr (fitsB g p s.length) (closedQ g p s) w) := by
  have hgx := hg
  have hsx := hs
  obtain ⟨v0, v1, v2, rfl, ⟨⟨ao0, cap0, b0, off0, rfl, g0⟩, _⟩, ⟨⟨ao1, cap1, b1, off1, rfl, g1⟩, _⟩, ⟨V, ⟨ao2, cap2, b2, off2, rfl, g2⟩, hr⟩⟩ := hg
  obtain ⟨aos, caps, bs, offs, rfl, hs⟩ := hs
  have hns := hs.nb
  clear hs g0 g1 g2 hr
  cases hf : fitsB g p s.length
  · go_enter Try.func17, Try.ntmps17
    go_wp2_with fail
    refine (fits_c _ _ g p _ _ _ (hgx.below (by repeat (first | exact Below.refl _ _ | assumption | (refine belA ?_ _) | (refine belD ?_ _))))).mono ?_
    rintro e w1 ⟨rfl, hb1⟩
    rw [hf]
    go_wp2
    go_ret
    exact ⟨_, rfl, OB_nil _ _, (Boxed.start hb1).bl, fun _ => rfl⟩
  have F := fits_of hf
  have hle := F.le
  have hp : 0 ≤ p ∧ p ≤ 1 := by have := F.pl; omega
  have hf2 : fitsB g (1 - p) (notL s).length = true := by
    have h1 := hf
    simp only [fitsB, Bool.and_eq_true, Bool.or_eq_true, decide_eq_true_eq, notL, List.length_map] at h1 ⊢
    exact ⟨⟨by omega, h1.1.2⟩, h1.2⟩
  go_enter Try.func17, Try.ntmps17
  go_wp2_with fail
  refine (fits_c _ _ g p _ _ _ (hgx.below (by repeat (first | exact Below.refl _ _ | assumption | (refine belA ?_ _) | (refine belD ?_ _))))).mono ?_
  rintro e w1 ⟨rfl, hb1⟩
  have hbx := Boxed.start hb1
  clear hb1
  rw [hf]
  have d0 : w1.cell? ⟨w.heap.size, 0, none⟩ = some (Value.slice ao0 g.owner.length cap0) := hbx.cell 0 rfl
  have d1 : w1.cell? ⟨w.heap.size, 1, none⟩ = some (Value.slice ao1 g.prio.length cap1) := hbx.cell 1 rfl
  have d2 : w1.cell? ⟨w.heap.size, 2, none⟩ = some (Value.slice ao2 g.succ.length cap2) := hbx.cell 2 rfl
  have hsub : IntKind.i64.wrap (1 - p) = 1 - p := IntWalk.i64_in _ (by omega)
  go_wp2_with fail
  have hA : Hid (∀ (W : World) (v : Value), Below w.heap.size w W → IsBools W v (notL s) → Calls Try.prog 11 #[.agg #[Value.slice ao0 g.owner.length cap0, Value.slice ao1 g.prio.length cap1, Value.slice ao2 g.succ.length cap2], .int .i64 (1 - p), v] W (TwoOr true (attQ g (1 - p) (notL s)).inn (attQ g (1 - p) (notL s)).mv W)) := fun W v hW hv => by
    have := Attract_c W _ v g (1 - p) (notL s) (hgx.below hW) hv hS
    rwa [hf2] at this
  have hnl : (notL s).length ≤ maxN := by simp [notL]; exact hns
  go_upto_region 3 with (fail)
  go_cut [7] (fun s7 wx => OB wx w.heap.size s7 (attQ g (1 - p) (notL s)).inn ∧ Below w.heap.size w wx)
  case first =>
    go_region_with (first | (go_at_call 35; refine (rest_c _ _ s (hsx.below (hbx.bl.drew))).mono ?_; rintro e w2 ⟨v2, rfl, ho2, hb2⟩; have hb3 := hbx.bl.trans ((Below.drew (Below.refl _ _)).trans (hb2.mono hbx.bl.size)); have e0 := cellB hb2 d0; have e1 := cellB hb2 d1; have e2 := cellB hb2 d2) | (go_at_call 11; refine (hA.out _ _ hb3 (ho2.is hnl)).mono ?_; rintro e w4 ⟨x1, x2, rfl, hx1, hx2, hb5⟩))
    all_goals go_wp2_with fail
    all_goals
      go_meet
      case rel => exact ⟨hx1.base hb3.size, hb3.trans (hb5.mono hb3.size)⟩
  case rest =>
    obtain ⟨ho, hb⟩ := hcut
    have hlen := (attQ_ok g (1 - p) (notL s) hS).li
    go_wp2_with fail
    refine (rest_c _ _ _ (ho.is (by rw [hlen]; exact hnl))).mono ?_
    rintro e w5 ⟨v5, rfl, ho5, hb5⟩
    go_wp2
    go_ret
    exact ⟨_, rfl, ho5.base hb.size, hb.trans (hb5.mono hb.size), fun h => by cases h⟩

def exG : Gm := ⟨[0, 1, 0, 1], [0, 1, 2, 3], [[1, 2], [0, 3], [2], [2, 3]]⟩

/-- A game in new memory. -/
def NewGame (g : Gm) (w : World) (e : Ending) (w' : World) : Prop := ∃ v, e = .returned v ∧ IsGame w' v g ∧ Below w.heap.size w w'

theorem ints_block {w : World} {b : Nat} {t : TypeId} (l : List Int) (h : w.heap[b]? = some (.cells (l.map (Value.int .i64)).toArray t (0, 0))) (hl : l.length ≤ 1000) (hr : ∀ x ∈ l, I64 x) : IsInts w (.slice (some ⟨b, 0, none⟩) l.length l.length) l := by
  refine ⟨⟨_, _, b, 0, rfl, Nat.le_refl _, by simp only [maxLen]; omega, by simp only [maxN]; omega, (fun h => by cases h), fun _ => rfl, fun j hj => ?_⟩, hr⟩
  rw [Nat.zero_add, cell_of_row _ _ j _ _ _ h]
  simp [ivF, hj]
theorem bools_block {w : World} {b : Nat} {t : TypeId} (l : List Bool) (h : w.heap[b]? = some (.cells (l.map Value.bool).toArray t (0, 0))) (hl : l.length ≤ 1000) : IsBools w (.slice (some ⟨b, 0, none⟩) l.length l.length) l := by
  refine ⟨_, _, b, 0, rfl, Nat.le_refl _, by simp only [maxLen]; omega, by simp only [maxN]; omega, (fun h => by cases h), fun _ => rfl, fun j hj => ?_⟩
  rw [Nat.zero_add, cell_of_row _ _ j _ _ _ h]
  simp [bvF, hj]

theorem Example_c (w : World) : Calls Try.prog 24 #[] w (NewGame exG w) := by
  go_enter Try.func24, Try.ntmps24
  go_wp2
  refine bodyPost_ret (v := .agg #[.slice (some ⟨w.heap.size + 1, 0, none⟩) 4 4, .slice (some ⟨w.heap.size + 1 + 1, 0, none⟩) 4 4, .slice (some ⟨w.heap.size + 1 + 1 + 1 + 1 + 1 + 1 + 1, 0, none⟩) 4 4]) (by simp [results, Try.results24, go_sem]) rfl ⟨_, rfl, ⟨_, _, _, rfl, ints_block exG.owner (by (repeat (rw [alloc_get]; first | rw [if_pos (by first | (simp; done) | (simp; omega))] | rw [if_neg (by first | (simp; done) | (simp; omega))])); (try rfl)) (by decide) (by simp [exG, I64]), ints_block exG.prio (by (repeat (rw [alloc_get]; first | rw [if_pos (by first | (simp; done) | (simp; omega))] | rw [if_neg (by first | (simp; done) | (simp; omega))])); (try rfl)) (by decide) (by simp [exG, I64]), ?_⟩, (by repeat (first | exact Below.refl _ _ | assumption | (refine belA ?_ _) | (refine belD ?_ _)))⟩
  refine ⟨fun j => [Value.slice (some ⟨w.heap.size + 1 + 1 + 1, 0, none⟩) 2 2, .slice (some ⟨w.heap.size + 1 + 1 + 1 + 1, 0, none⟩) 2 2, .slice (some ⟨w.heap.size + 1 + 1 + 1 + 1 + 1, 0, none⟩) 1 1, .slice (some ⟨w.heap.size + 1 + 1 + 1 + 1 + 1 + 1, 0, none⟩) 2 2].getD j undef, ⟨_, _, w.heap.size + 1 + 1 + 1 + 1 + 1 + 1 + 1, 0, rfl, Nat.le_refl _, by simp [maxLen], by simp [maxN, exG], (fun h => by cases h), fun _ => rfl, ?_⟩, ?_⟩
  · intro j hj
    rw [Nat.zero_add, cell_of_row _ _ j _ 22 (0, 0) (by (repeat (rw [alloc_get]; first | rw [if_pos (by first | (simp; done) | (simp; omega))] | rw [if_neg (by first | (simp; done) | (simp; omega))])); (try rfl))]
    match j, hj with
    | 0, _ => rfl
    | 1, _ => rfl
    | 2, _ => rfl
    | 3, _ => rfl
  · intro j hj
    match j, hj with
    | 0, _ => exact ints_block [1, 2] (by (repeat (rw [alloc_get]; first | rw [if_pos (by first | (simp; done) | (simp; omega))] | rw [if_neg (by first | (simp; done) | (simp; omega))])); (try rfl)) (by decide) (by simp [I64])
    | 1, _ => exact ints_block [0, 3] (by (repeat (rw [alloc_get]; first | rw [if_pos (by first | (simp; done) | (simp; omega))] | rw [if_neg (by first | (simp; done) | (simp; omega))])); (try rfl)) (by decide) (by simp [I64])
    | 2, _ => exact ints_block [2] (by (repeat (rw [alloc_get]; first | rw [if_pos (by first | (simp; done) | (simp; omega))] | rw [if_neg (by first | (simp; done) | (simp; omega))])); (try rfl)) (by decide) (by simp [I64])
    | 3, _ => exact ints_block [2, 3] (by (repeat (rw [alloc_get]; first | rw [if_pos (by first | (simp; done) | (simp; omega))] | rw [if_neg (by first | (simp; done) | (simp; omega))])); (try rfl)) (by decide) (by simp [I64])

end Go.Proofs.Ytjppebbeobgmoaa
