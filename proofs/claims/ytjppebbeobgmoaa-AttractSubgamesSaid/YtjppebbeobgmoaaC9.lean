/- What the reference's Trap, Closed and Attract compute. -/
import Derived.Test.YtjppebbeobgmoaaC5
import Derived.Test.YtjppebbeobgmoaaC7
import Derived.Test.YtjppebbeobgmoaaC8
namespace Go.Proofs.Ytjppebbeobgmoaa
open Go.RowKit

structure Fits (g : Gm) (p : Int) (n : Nat) : Prop where
  pl : p = 0 ∨ p = 1
  le : n ≤ 3000
  on : g.owner.length = n
  pn : g.prio.length = n
  sn : g.succ.length = n
  ow : ∀ i, i < n → 0 ≤ g.owner.getD i 0 ∧ g.owner.getD i 0 ≤ 1
  ne : ∀ i, i < n → g.succ.getD i [] ≠ []
  rg : ∀ i, i < n → ∀ x ∈ g.succ.getD i [], 0 ≤ x ∧ x < n

theorem valid_lens {g : Gm} (h : validB g = true) : g.owner.length ≤ 3000 ∧ g.prio.length = g.owner.length ∧ g.succ.length = g.owner.length := by
  simp only [validB, Bool.and_eq_true, decide_eq_true_eq] at h
  exact ⟨h.1.1.1.1.1.1, h.1.1.1.1.1.2, h.1.1.1.1.2⟩

theorem fits_of {g : Gm} {p : Int} {n : Nat} (h : fitsB g p n = true) : Fits g p n := by
  simp only [fitsB, Bool.and_eq_true, Bool.or_eq_true, decide_eq_true_eq] at h
  obtain ⟨⟨h1, h2⟩, rfl⟩ := h
  obtain ⟨a, b, c⟩ := valid_lens h2
  have hv := (validB_iff g a b c).1 h2
  simp only [okB, Bool.and_eq_true, decide_eq_true_eq, inB, List.all_eq_true] at hv
  refine ⟨h1, a, rfl, b, c, fun i hi => (hv i hi).1.1.1, fun i hi he => ?_, fun i hi x hx => ?_⟩
  · have := (hv i hi).1.2
    rw [he] at this; simp at this
  · have := (hv i hi).2 x hx
    omega

def trapB (g : Gm) (p : Int) (s : List Bool) : Bool := (List.range s.length).all fun i => !s.getD i false || canB g (1 - p) s i

/-- Behind the box of a game: what a world holds of it. -/
structure Boxed (w wr : World) (cs : Array Value) : Prop where
  bl : Below w.heap.size w wr
  bx : wr.heap[w.heap.size]? = some (.cells cs 25 (0, 0))

theorem Boxed.start {w w1 : World} {cs : Array Value} (hb : Below (w.alloc (.cells cs 25)).heap.size (w.alloc (.cells cs 25)) w1) : Boxed w w1 cs :=
  ⟨Below.trans (bel_box _) (hb.mono (by simp)), (hb.block _ (by simp)).trans (heap_alloc_new _ _)⟩
theorem Boxed.cell {w wr : World} {cs : Array Value} (h : Boxed w wr cs) (k : Nat) {v : Value} (hv : cs[k]? = some v) : wr.cell? ⟨w.heap.size, k, none⟩ = some v :=
  (cell_of_row _ _ k _ _ _ h.bx).trans hv
theorem Boxed.lt {w wr : World} {cs : Array Value} (h : Boxed w wr cs) : w.heap.size < wr.heap.size := (Array.getElem?_eq_some_iff.1 h.bx).1
theorem Boxed.step {w wr w1 : World} {cs : Array Value} (h : Boxed w wr cs) (hb : Below wr.heap.size wr w1) : Boxed w w1 cs :=
  ⟨h.bl.trans (hb.mono h.bl.size), (hb.block _ h.lt).trans h.bx⟩
theorem Boxed.stepB {w wr w1 : World} {cs : Array Value} (h : Boxed w wr cs) (hb : Below (w.heap.size + 1) wr w1) : Boxed w w1 cs :=
  ⟨h.bl.trans (hb.mono (by omega)), (hb.block _ (by omega)).trans h.bx⟩

set_option maxHeartbeats 2000000 in
theorem RTrap_c (w : World) (vg vs : Value) (g : Gm) (p : Int) (s : List Bool) (hg : IsGame w vg g) (hs : IsBools w vs s) :
    Calls Try.prog 16 #[vg, .int .i64 p, vs] w (Calm (.bool (fitsB g p s.length && trapB g p s)) w) := by
  have hgx := hg
  have hsx := hs
  obtain ⟨v0, v1, v2, rfl, ⟨⟨ao0, cap0, b0, off0, rfl, g0⟩, _⟩, ⟨⟨ao1, cap1, b1, off1, rfl, g1⟩, _⟩, ⟨V, ⟨ao2, cap2, b2, off2, rfl, g2⟩, hr⟩⟩ := hg
  clear g0 g1 g2 hr
  obtain ⟨aos, caps, bs, offs, rfl, hs⟩ := hs
  have hns := hs.nb
  cases hf : fitsB g p s.length
  · go_enter Try.func16, Try.ntmps16
    go_wp2_with fail
    refine (rightR_c _ _ g p _ _ _ (hgx.below (by repeat (first | exact Below.refl _ _ | assumption | (refine belA ?_ _) | (refine belD ?_ _))))).mono ?_
    rintro e w1 ⟨rfl, hb1⟩
    rw [hf]
    go_wp2
    go_ret
    exact ⟨rfl, (Boxed.start hb1).bl⟩
  have F := fits_of hf
  have hp2 : 0 ≤ p ∧ p ≤ 1 := by have := F.pl; omega
  go_enter Try.func16, Try.ntmps16
  go_wp2_with fail
  refine (rightR_c _ _ g p _ _ _ (hgx.below (by repeat (first | exact Below.refl _ _ | assumption | (refine belA ?_ _) | (refine belD ?_ _))))).mono ?_
  rintro e w1 ⟨rfl, hb1⟩
  have hbx := Boxed.start hb1
  clear hb1
  rw [hf]
  go_wp2
  go_loopg [6, 7] s.length (fun gh r i wr => ∃ k : Nat, gh = s.length - k ∧ i = .int .i64 k ∧ r = .bool false ∧ k ≤ s.length ∧ Boxed w wr #[Value.slice ao0 g.owner.length cap0, Value.slice ao1 g.prio.length cap1, Value.slice ao2 g.succ.length cap2] ∧ Hid ((List.range k).all (fun i => !s.getD i false || canB g (1 - p) s i) = true))
  case atStart => exact ⟨0, rfl, rfl, rfl, by omega, hbx, by simp [Hid]⟩
  case round =>
    obtain ⟨k, hgk, rfl, rfl, hk, hB, HE⟩ := hrel
    have HG := Lib.hid hgk
    clear hgk hbx
    have d0 := hB.cell 0 rfl
    have d1 := hB.cell 1 rfl
    have d2 := hB.cell 2 rfl
    by_cases hlt : k < s.length
    · obtain rfl := hs.ad (by omega)
      have c1 := cellB hB.bl (hs.el k hlt)
      unfold bvF at c1
      rw [getD_lt _ _ _ hlt] at c1
      have A : Hid (s.getD k false = s[k]) := getD_lt _ _ _ hlt
      cases hq : s[k]
      · rw [hq] at c1
        go_wp2
        go_roundg (s.length - (k + 1))
        case measure => have := HG.out; omega
        case rel => exact ⟨k + 1, rfl, by go_num, rfl, by omega, hB, by show _ = _; rw [range_all_succ, HE.out, A.out, hq]; rfl⟩
      · rw [hq] at c1
        have HC : Hid (∀ W : World, Below w.heap.size w W → Calls Try.prog 32 #[.agg #[Value.slice ao0 g.owner.length cap0, Value.slice ao1 g.prio.length cap1, Value.slice ao2 g.succ.length cap2], .int .i64 (1 - p), Value.slice (some ⟨bs, offs, none⟩) s.length caps, .int .i64 k] W (Calm (.bool (canB g (1 - p) s k)) W)) :=
          fun W hW => can_c W _ _ g (1 - p) s k (hgx.below hW) (hsx.below hW) (by rw [F.on]; exact hlt) (by rw [F.sn]; exact hlt) (F.rg k hlt)
        cases hc : canB g (1 - p) s k
        · go_wp2_with fail
          refine (HC.out _ hB.bl).mono ?_
          rintro e w2 ⟨rfl, hb2⟩
          rw [hc]
          go_wp2
          go_ret
          refine ⟨ret_bool ?_, (hB.step hb2).bl⟩
          rw [trapB, range_all_false _ _ k hlt (by rw [A.out, hq, hc]; rfl)]; rfl
        · go_wp2_with fail
          refine (HC.out _ hB.bl).mono ?_
          rintro e w2 ⟨rfl, hb2⟩
          rw [hc]
          go_wp2
          go_roundg (s.length - (k + 1))
          case measure => have := HG.out; omega
          case rel => exact ⟨k + 1, rfl, by go_num, rfl, by omega, hB.step hb2, by show _ = _; rw [range_all_succ, HE.out, A.out, hq, hc]; rfl⟩
    · go_wp2
      go_ret
      refine ⟨ret_bool ?_, hB.bl⟩
      have h3 := HE.out
      obtain rfl : k = s.length := by omega
      rw [trapB, h3]; rfl

end Go.Proofs.Ytjppebbeobgmoaa
