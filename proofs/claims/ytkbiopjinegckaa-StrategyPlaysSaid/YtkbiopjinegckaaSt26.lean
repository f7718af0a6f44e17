/- What right, player and play of the chapter return. -/
import Derived.Test.YtkbiopjinegckaaSt24
import Derived.Test.YtkbiopjinegckaaSt21
namespace Go.Proofs.Ytkbiopjinegckaa
open Go.RowKit

def rightB (g : Gm) (set : List Bool) (s : List Int) : Bool := smallB g 16 && validB g && decide (set.length = g.owner.length) && decide (s.length = g.owner.length)
theorem IsInts.off {W : World} {v : Value} {l : List Int} (h : IsInts W v l) {z k : Nat} (hz : W.cell? ⟨z, k, none⟩ = some (.slice none 0 0)) (u : Value) : IsInts (W.setCell ⟨z, k, none⟩ u) v l := by
  obtain ⟨⟨ao, cap, b, off, rfl, h1, h2, h3, h4, h5, h6⟩, hI⟩ := h
  refine ⟨⟨ao, cap, b, off, rfl, h1, h2, h3, h4, h5, fun j hj => ?_⟩, hI⟩
  rw [World.cell?_setCell_other _ _ _ _ (fun e => ?_)]
  · exact h6 j hj
  · have h7 := h6 j hj
    have e2 : (⟨b, off + j, none⟩ : Addr) = ⟨z, k, none⟩ := by first | exact e | exact e.symm
    rw [e2, hz] at h7
    simp [ivF] at h7

set_option maxRecDepth 100000 in
set_option maxHeartbeats 4000000 in
theorem right_c (w : World) (vg vs vt : Value) (g : Gm) (set : List Bool) (s : List Int) (hg : IsGame w vg g) (hs : IsBools w vs set) (ht : IsInts w vt s) :
    Calls Try.prog 20 #[vg, vs, vt] w (Calm (.bool (rightB g set s)) w) := by
  obtain ⟨a0, c0, a1, c1, a2, c2, rfl⟩ := hg.shape
  obtain ⟨aS, cS, rfl⟩ := hs.shape
  obtain ⟨aT, cT, rfl⟩ := ht.shape
  clear hs ht
  obtain ⟨n0, hn0⟩ : ∃ n, n = g.owner.length := ⟨_, rfl⟩
  obtain ⟨ls, hls⟩ : ∃ n, n = set.length := ⟨_, rfl⟩
  obtain ⟨lt, hlt⟩ : ∃ n, n = s.length := ⟨_, rfl⟩
  rw [← hn0] at hg ⊢
  rw [← hls, ← hlt]
  generalize hn1 : g.prio.length = n1 at *
  generalize hn2 : g.succ.length = n2 at *
  have HQ : Hid (rightB g set s = (smallB g 16 && validB g && decide (ls = n0) && decide (lt = n0))) := (by subst hn0 hls hlt; rfl : rightB g set s = (smallB g 16 && validB g && decide (ls = n0) && decide (lt = n0)))
  clear hn0 hls hlt hn1 hn2
  go_enter Try.func20, Try.ntmps20
  go_upto_region 1 with (fail)
  obtain ⟨hx, hb, hB⟩ := box_new (w0 := w) (Below.refl _ _) (Nat.le_refl _) #[.slice a0 n0 c0, .slice a1 n1 c1, .slice a2 n2 c2] 25
  replace hg := hg.below hb
  generalize w.alloc (.cells #[.slice a0 n0 c0, .slice a1 n1 c1, .slice a2 n2 c2] 25) = w1 at *
  have HE : Hid (∀ W b, Below w1.heap.size w1 W → rightB g set s = b → Calm (.bool (rightB g set s)) w (.returned (.bool b)) W) := fun W b h e => ⟨by rw [e], hB.trans (h.mono hB.size)⟩
  clear hb hB
  generalize w.heap.size = zg at *
  have k0 := cell_of_row _ _ 0 _ _ _ hx
  have k1 := cell_of_row _ _ 1 _ _ _ hx
  have k2 := cell_of_row _ _ 2 _ _ _ hx
  go_wp2_with fail
  refine (Small_c _ _ g 16 hg).mono ?_
  rintro e w2 ⟨rfl, hb⟩
  replace hx := (hb.block _ (Array.getElem?_eq_some_iff.1 hx).1).trans hx
  replace hg := hg.below hb
  clear k0 k1 k2
  cases hs1 : smallB g 16
  · go_wp2_with fail
    go_ret
    exact HE.out _ _ hb (by rw [HQ.out, hs1]; rfl)
  have k0 := cell_of_row _ _ 0 _ _ _ hx
  have k1 := cell_of_row _ _ 1 _ _ _ hx
  have k2 := cell_of_row _ _ 2 _ _ _ hx
  go_wp2_with fail
  refine (RValid_c _ _ g hg).mono ?_
  rintro e w3 ⟨rfl, hb3⟩
  replace hx := (hb3.block _ (Array.getElem?_eq_some_iff.1 hx).1).trans hx
  replace hb := hb.trans (hb3.mono hb.size)
  clear k0 k1 k2 hb3 hg
  have k0 := cell_of_row _ _ 0 _ _ _ hx
  cases hs2 : validB g
  · go_wp2_with fail
    go_ret
    exact HE.out _ _ hb (by rw [HQ.out, hs1, hs2]; rfl)
  cases h1 : ((ls : Int) == (n0 : Int))
  · go_wp2_with fail
    go_ret
    exact HE.out _ _ hb (by rw [HQ.out, hs1, hs2, decide_eq_false (by intro h; simp [h] at h1)]; rfl)
  cases h2 : ((lt : Int) == (n0 : Int))
  · go_wp2_with fail
    go_ret
    exact HE.out _ _ hb (by rw [HQ.out, hs1, hs2, decide_eq_false (p := lt = n0) (by intro h; simp [h] at h2)]; simp)
  · go_wp2_with fail
    go_ret
    have e1 : ls = n0 := by have := h1; simp at this; omega
    have e2 : lt = n0 := by have := h2; simp at this; omega
    exact HE.out _ _ hb (by rw [HQ.out, hs1, hs2, decide_eq_true e1, decide_eq_true e2]; rfl)

def plI (b : Bool) : Int := if b then 1 else 0
theorem player_c (w : World) (b : Bool) : Calls Try.prog 21 #[.bool b] w (Calm (.int .i64 (plI b)) w) := by
  cases b
  all_goals
    go_enter Try.func21, Try.ntmps21
    go_wp2_with fail
    go_ret
    exact ⟨rfl, Below.refl _ _⟩

/-- The play of a strategy of a player and one of the other one. -/
def plyR (g : Gm) (p : Int) (own other : List Int) (x : Int) : Ph := if p = 0 then playR g own other x else playR g other own x
set_option maxRecDepth 100000 in
set_option maxHeartbeats 4000000 in
theorem play_c (w : World) (vg va vb : Value) (g : Gm) (p : Int) (a b : List Int) (x : Int) (hg : IsGame w vg g) (ha : IsInts w va a) (hb : IsInts w vb b) :
    Calls Try.prog 22 #[vg, .int .i64 p, va, vb, .int .i64 x] w (NewPath (plyR g p a b x) w) := by
  obtain ⟨a0, c0, a1, c1, a2, c2, rfl⟩ := hg.shape
  have hbx : Below w.heap.size w ((w.alloc (.cells #[.slice a0 g.owner.length c0, .slice a1 g.prio.length c1, .slice a2 g.succ.length c2] 25)).alloc (.cells #[.slice none 0 0, .slice none 0 0] 28)) := (by repeat (first | exact Below.refl _ _ | assumption | (refine belA ?_ _) | (refine belD ?_ _)))
  have hx : ((w.alloc (.cells #[.slice a0 g.owner.length c0, .slice a1 g.prio.length c1, .slice a2 g.succ.length c2] 25)).alloc (.cells #[.slice none 0 0, .slice none 0 0] 28)).heap[w.heap.size]? = some (.cells #[.slice a0 g.owner.length c0, .slice a1 g.prio.length c1, .slice a2 g.succ.length c2] 25 (0, 0)) := (by (repeat (rw [alloc_get]; first | rw [if_pos (by first | (simp; done) | (simp; omega))] | rw [if_neg (by first | (simp; done) | (simp; omega))])); (try rfl))
  have hz : ((w.alloc (.cells #[.slice a0 g.owner.length c0, .slice a1 g.prio.length c1, .slice a2 g.succ.length c2] 25)).alloc (.cells #[.slice none 0 0, .slice none 0 0] 28)).heap[w.heap.size + 1]? = some (.cells #[.slice none 0 0, .slice none 0 0] 28 (0, 0)) := (by (repeat (rw [alloc_get]; first | rw [if_pos (by first | (simp; done) | (simp; omega))] | rw [if_neg (by first | (simp; done) | (simp; omega))])); (try rfl))
  have HEND : Hid (∀ W v0 v1 P, W.heap[w.heap.size + 1]? = some (.cells #[.slice none 0 0, .slice none 0 0] 28 (0, 0)) → Below w.heap.size w W → IsInts W v0 P.stem → IsInts W v1 P.loop → NewPath P w (.returned (.agg #[v0, v1])) ((W.setCell ⟨w.heap.size + 1, 0, none⟩ v0).setCell ⟨w.heap.size + 1, 1, none⟩ v1)) := fun W v0 v1 P hz hB h0 h1 => by
    have k0 := cell_of_row _ _ 0 _ _ _ hz
    have k1 : (W.setCell ⟨w.heap.size + 1, 0, none⟩ v0).cell? ⟨w.heap.size + 1, 1, none⟩ = some (.slice none 0 0) := by
      rw [World.cell?_setCell_other _ _ _ _ (fun e => by rw [Addr.mk.injEq] at e; omega)]
      exact cell_of_row _ _ 1 _ _ _ hz
    exact ⟨_, rfl, ⟨_, _, rfl, (h0.off k0 _).off k1 _, (h1.off k0 _).off k1 _⟩, (hB.setCell (show w.heap.size ≤ w.heap.size + 1 by omega) _).setCell (show w.heap.size ≤ w.heap.size + 1 by omega) _⟩
  have HG := Lib.hid (hg.below (hbx.mono (Nat.le_refl _)))
  have HA := Lib.hid (ha.below hbx)
  have HBB := Lib.hid (hb.below hbx)
  clear hg ha hb
  cases h0 : (p == 0)
  · have HQ : Hid (plyR g p a b x = playR g b a x) := (by unfold plyR; simp only [show p ≠ 0 from by simpa using h0, if_false] : plyR g p a b x = playR g b a x)
    go_enter Try.func22, Try.ntmps22
    go_wp2_with fail
    refine (Play_c _ _ _ _ g b a x HG.out HBB.out HA.out).mono ?_
    rw [← HQ.out]
    rintro e w1 ⟨vr, rfl, hr, hb1⟩
    obtain ⟨d0, y0, d1, y1, rfl, h2, h3⟩ := hr.shape
    have hz1 := (hb1.block _ (Array.getElem?_eq_some_iff.1 hz).1).trans hz
    have HB1 := Lib.hid (hbx.trans (hb1.mono hbx.size))
    clear hb1 hr hx hz hbx
    have f0 := frozen_of_row _ _ 0 _ _ hz1
    have f1 := frozen_of_row _ _ 1 _ _ hz1
    have k0 := cell_of_row _ _ 0 _ _ _ hz1
    have k1 := cell_of_row _ _ 1 _ _ _ hz1
    have HS := Lib.hid (two_set (c := .slice d0 (plyR g p a b x).stem.length y0) (d := .slice d1 (plyR g p a b x).loop.length y1) hz1)
    have HZ := Lib.hid hz1
    clear hz1
    generalize plyR g p a b x = R at *
    go_wp2_with fail
    have m0 := cell_of_row _ _ 0 _ _ _ HS.out
    have m1 := cell_of_row _ _ 1 _ _ _ HS.out
    exact bodyPost_ret (v := .agg #[_, _]) (by simp [results, Try.results22, go_sem, m0, m1]) rfl (HEND.out _ _ _ R HZ.out HB1.out h2 h3)
  · have HQ : Hid (plyR g p a b x = playR g a b x) := (by unfold plyR; simp only [show p = 0 from by simpa using h0, if_true] : plyR g p a b x = playR g a b x)
    go_enter Try.func22, Try.ntmps22
    go_wp2_with fail
    refine (Play_c _ _ _ _ g a b x HG.out HA.out HBB.out).mono ?_
    rw [← HQ.out]
    rintro e w1 ⟨vr, rfl, hr, hb1⟩
    obtain ⟨d0, y0, d1, y1, rfl, h2, h3⟩ := hr.shape
    have hz1 := (hb1.block _ (Array.getElem?_eq_some_iff.1 hz).1).trans hz
    have HB1 := Lib.hid (hbx.trans (hb1.mono hbx.size))
    clear hb1 hr hx hz hbx
    have f0 := frozen_of_row _ _ 0 _ _ hz1
    have f1 := frozen_of_row _ _ 1 _ _ hz1
    have k0 := cell_of_row _ _ 0 _ _ _ hz1
    have k1 := cell_of_row _ _ 1 _ _ _ hz1
    have HS := Lib.hid (two_set (c := .slice d0 (plyR g p a b x).stem.length y0) (d := .slice d1 (plyR g p a b x).loop.length y1) hz1)
    have HZ := Lib.hid hz1
    clear hz1
    generalize plyR g p a b x = R at *
    go_wp2_with fail
    have m0 := cell_of_row _ _ 0 _ _ _ HS.out
    have m1 := cell_of_row _ _ 1 _ _ _ HS.out
    exact bodyPost_ret (v := .agg #[_, _]) (by simp [results, Try.results22, go_sem, m0, m1]) rfl (HEND.out _ _ _ R HZ.out HB1.out h2 h3)
end Go.Proofs.Ytkbiopjinegckaa
