/- What head computes: true. -/
import Derived.Test.YtjadeffdcbchnaaDoorAr28
namespace Go.Proofs.YtjadeffdcbchnaaDoor
open Go.RowKit

theorem IsGame.shape {w : World} {v : Value} {g : Gm} (h : IsGame w v g) : ∃ a0 n0 c0 a1 n1 c1 a2 n2 c2, v = .agg #[.slice a0 n0 c0, .slice a1 n1 c1, .slice a2 n2 c2] := by
  obtain ⟨v0, v1, v2, rfl, ⟨⟨a0, c0, -, -, rfl, -⟩, -⟩, ⟨⟨a1, c1, -, -, rfl, -⟩, -⟩, ⟨V, ⟨a2, c2, -, -, rfl, -⟩, -⟩⟩ := h
  exact ⟨_, _, _, _, _, _, _, _, _, rfl⟩
theorem ex_len : ∀ i, (exG.succ.getD i []).length ≤ 1000 := fun i => by
  match i with
  | 0 => decide
  | 1 => decide
  | 2 => decide
  | 3 => decide
  | q + 4 => simp [exG, List.getD]
theorem IsGame.shape0 {w : World} {v : Value} (h : IsGame w v ⟨[], [], []⟩) : ∃ a0 c0 a1 c1 a2 c2, v = .agg #[.slice a0 0 c0, .slice a1 0 c1, .slice a2 0 c2] := by
  obtain ⟨v0, v1, v2, rfl, ⟨⟨a0, c0, -, -, rfl, -⟩, -⟩, ⟨⟨a1, c1, -, -, rfl, -⟩, -⟩, ⟨V, ⟨a2, c2, -, -, rfl, -⟩, -⟩⟩ := h
  exact ⟨_, _, _, _, _, _, rfl⟩
theorem IsGame.parts {w : World} {v0 v1 v2 : Value} {g : Gm} (h : IsGame w (.agg #[v0, v1, v2]) g) : IsInts w v0 g.owner ∧ IsInts w v1 g.prio ∧ IsRows w v2 g.succ := by
  obtain ⟨u0, u1, u2, e, h0, h1, h2⟩ := h
  simp only [Value.agg.injEq, Array.mk.injEq, List.cons.injEq, and_true] at e
  obtain ⟨rfl, rfl, rfl⟩ := e
  exact ⟨h0, h1, h2⟩
theorem ex_wf : ∀ y ∈ exP, WfP y := by simp [exP, WfP, I64]
/-- A box in new memory. -/
theorem box_new {w0 w : World} {B : Nat} (hb : Below B w0 w) (hB : B ≤ w.heap.size) (cs : Array Value) (t : TypeId) : (w.alloc (.cells cs t)).heap[w.heap.size]? = some (.cells cs t (0, 0)) ∧ Below w.heap.size w (w.alloc (.cells cs t)) ∧ Below B w0 (w.alloc (.cells cs t)) :=
  ⟨heap_alloc_new _ _, bel_box _, hb.trans ((bel_box _).mono hB)⟩

def R5h (bl b2 b3 B : Nat) (ix : Nat) (u : Value) (W : World) : Prop :=
  match ix with
  | 0 => u = .slice (some ⟨bl, 0, none⟩) 2 2
  | 1 => u = .slice (some ⟨bl, 0, none⟩) 1 2
  | 2 => u = .agg #[.int .i64 4, .int .i64 0, .slice (some ⟨b2, 0, none⟩) 1 1, .slice (some ⟨b3, 0, none⟩) 1 1]
  | 3 => ∃ a0 n0 c0 a1 n1 c1 a2 n2 c2 vp, u = .tuple #[.agg #[.slice a0 n0 c0, .slice a1 n1 c1, .slice a2 n2 c2], vp, .int .i64 1]
  | 4 => ∃ a0 n0 c0 a1 n1 c1 a2 n2 c2 vp, u = .tuple #[.agg #[.slice a0 n0 c0, .slice a1 n1 c1, .slice a2 n2 c2], vp, .int .i64 1]
  | 5 => ∃ a0 n0 c0 a1 n1 c1 a2 n2 c2, u = .agg #[.slice a0 n0 c0, .slice a1 n1 c1, .slice a2 n2 c2]
  | 7 => u = .int .i64 1
  | 8 => ∃ z, u = .pointer (some ⟨z, 0, none⟩) ∧ B ≤ z ∧ ∃ x y q, W.heap[z]? = some (.cells #[x, y, q] 28 (0, 0))
  | 11 => u = .int .i64 1
  | _ => True
theorem R5h.below {bl b2 b3 B : Nat} {ix : Nat} {u : Value} {W W' : World} (h : R5h bl b2 b3 B ix u W) (hb : Below W.heap.size W W') : R5h bl b2 b3 B ix u W' := by
  unfold R5h at *
  split at h <;> first | exact h | trivial | skip
  obtain ⟨z, h1, h2, x, y, q, h3⟩ := h
  exact ⟨z, h1, h2, x, y, q, (hb.block z (Array.getElem?_eq_some_iff.1 h3).1).trans h3⟩
theorem R5h.set {bl b2 b3 B : Nat} {ix : Nat} {u : Value} {W : World} (h : R5h bl b2 b3 B ix u W) {z : Nat} {x0 y0 q0 : Value} (hz : W.heap[z]? = some (.cells #[x0, y0, q0] 28 (0, 0))) (a b c : Value) : R5h bl b2 b3 B ix u (((W.setCell ⟨z, 0, none⟩ a).setCell ⟨z, 1, none⟩ b).setCell ⟨z, 2, none⟩ c) := by
  unfold R5h at *
  split at h <;> first | exact h | trivial | skip
  obtain ⟨z', h1, h2, x, y, q, h3⟩ := h
  by_cases e : z' = z
  · subst e
    exact ⟨z', h1, h2, a, b, c, three_set hz⟩
  · exact ⟨z', h1, h2, x, y, q, by rw [heap_set_ne _ _ _ _ _ e, heap_set_ne _ _ _ _ _ e, heap_set_ne _ _ _ _ _ e]; exact h3⟩

set_option maxRecDepth 100000 in
set_option maxHeartbeats 8000000 in
theorem head_c (w : World) (hK : Keys w) : Calls Tryd.prog 9 #[] w (Calm (.bool true) w) := by
  have hmx : Tryd.prog.follows .mixedOrders = true := by kernel_rfl
  go_enter Tryd.func9, Tryd.ntmps9
  go_wp2_with fail
  refine (Example_c _).mono ?_
  rintro e w1 ⟨bl, b2, b3, rfl, hl, ha, hb1⟩
  go_upto_region 2 with (fail)
  obtain ⟨hx, hb, hB⟩ := box_new hb1 hb1.size #[.int .i64 4, .int .i64 0, .slice (some ⟨b2, 0, none⟩) 1 1, .slice (some ⟨b3, 0, none⟩) 1 1] 25
  replace hl := hl.below hb
  replace ha := ha.below hb
  generalize w1.alloc (.cells #[.int .i64 4, .int .i64 0, .slice (some ⟨b2, 0, none⟩) 1 1, .slice (some ⟨b3, 0, none⟩) 1 1] 25) = w2 at *
  generalize w1.heap.size = zp at *
  clear hb hb1
  have c0 := cell_of_row _ _ 0 _ _ _ hx
  have c1 := cell_of_row _ _ 1 _ _ _ hx
  have c2 := cell_of_row _ _ 2 _ _ _ hx
  have c3 := cell_of_row _ _ 3 _ _ _ hx
  have HBD : Hid (∀ W m r, Below w2.heap.size w2 W → buildE exA exL m = r → Calls Tryd.prog 13 #[.slice (some ⟨bl, 0, none⟩) 2 2, .agg #[.int .i64 4, .int .i64 0, .slice (some ⟨b2, 0, none⟩) 1 1, .slice (some ⟨b3, 0, none⟩) 1 1], .int .i64 m] W (GPE r W)) := fun W m r hW hr => by
    rw [← hr]
    exact Build_c W _ _ exL exA m (hK.below (hB.trans (hW.mono hB.size))) ⟨_, _, _, _, rfl, hl.below hW⟩ (ha.below hW)
  go_wp2_with fail
  refine (HBD.out w2 10 _ (Below.refl _ _) ex_b1).mono ?_
  rintro e w3 ⟨vg, vp, rfl, hg3, hp3, hb3⟩
  obtain ⟨a0, n0, k0, a1, n1, k1, a2, n2, k2, rfl⟩ := hg3.shape
  replace hx := (hb3.block _ (Array.getElem?_eq_some_iff.1 hx).1).trans hx
  have hBx : Below w2.heap.size w2 w3 := hb3
  clear c0 c1 c2 c3 hb3
  go_upto_region 3 with (fail)
  obtain ⟨hx3, hb, hBx⟩ := box_new hBx hBx.size #[.slice a0 n0 k0, .slice a1 n1 k1, .slice a2 n2 k2] 28
  replace hg3 := hg3.below hb
  replace hp3 := hp3.below hb
  replace hx := (hb.block _ (Array.getElem?_eq_some_iff.1 hx).1).trans hx
  generalize w3.alloc (.cells #[.slice a0 n0 k0, .slice a1 n1 k1, .slice a2 n2 k2] 28) = w4 at *
  generalize w3.heap.size = z3 at *
  clear hb
  go_upto_region 4 with (fail)
  have hb : Below w4.heap.size w4 ((((((((w4.alloc (.cells #[.int .i64 1, .int .i64 0, .int .i64 0, .int .i64 1] 3)).alloc (.cells #[.int .i64 1, .int .i64 1, .int .i64 1, .int .i64 0] 3)).alloc (.cells #[.int .i64 1, .int .i64 2] 3)).alloc (.cells #[.int .i64 3, .int .i64 0] 3)).alloc (.cells #[.int .i64 0, .int .i64 3] 3)).alloc (.cells #[.int .i64 1, .int .i64 2] 3)).alloc (.cells #[.slice (some ⟨w4.heap.size + 1 + 1, 0, none⟩) 2 2, .slice (some ⟨w4.heap.size + 1 + 1 + 1, 0, none⟩) 2 2, .slice (some ⟨w4.heap.size + 1 + 1 + 1 + 1, 0, none⟩) 2 2, .slice (some ⟨w4.heap.size + 1 + 1 + 1 + 1 + 1, 0, none⟩) 2 2] 26)).alloc (.cells #[.slice (some ⟨w4.heap.size, 0, none⟩) 4 4, .slice (some ⟨w4.heap.size + 1, 0, none⟩) 4 4, .slice (some ⟨w4.heap.size + 1 + 1 + 1 + 1 + 1 + 1, 0, none⟩) 4 4] 28)) := (by repeat (first | exact Below.refl _ _ | assumption | (refine belA ?_ _) | (refine belD ?_ _)))
  have y0 : ((((((((w4.alloc (.cells #[.int .i64 1, .int .i64 0, .int .i64 0, .int .i64 1] 3)).alloc (.cells #[.int .i64 1, .int .i64 1, .int .i64 1, .int .i64 0] 3)).alloc (.cells #[.int .i64 1, .int .i64 2] 3)).alloc (.cells #[.int .i64 3, .int .i64 0] 3)).alloc (.cells #[.int .i64 0, .int .i64 3] 3)).alloc (.cells #[.int .i64 1, .int .i64 2] 3)).alloc (.cells #[.slice (some ⟨w4.heap.size + 1 + 1, 0, none⟩) 2 2, .slice (some ⟨w4.heap.size + 1 + 1 + 1, 0, none⟩) 2 2, .slice (some ⟨w4.heap.size + 1 + 1 + 1 + 1, 0, none⟩) 2 2, .slice (some ⟨w4.heap.size + 1 + 1 + 1 + 1 + 1, 0, none⟩) 2 2] 26)).alloc (.cells #[.slice (some ⟨w4.heap.size, 0, none⟩) 4 4, .slice (some ⟨w4.heap.size + 1, 0, none⟩) 4 4, .slice (some ⟨w4.heap.size + 1 + 1 + 1 + 1 + 1 + 1, 0, none⟩) 4 4] 28)).heap[w4.heap.size]? = some (.cells #[.int .i64 1, .int .i64 0, .int .i64 0, .int .i64 1] 3 (0, 0)) := (by (repeat (rw [alloc_get]; first | rw [if_pos (by first | (simp; done) | (simp; omega))] | rw [if_neg (by first | (simp; done) | (simp; omega))])); (try rfl))
  have y1 : ((((((((w4.alloc (.cells #[.int .i64 1, .int .i64 0, .int .i64 0, .int .i64 1] 3)).alloc (.cells #[.int .i64 1, .int .i64 1, .int .i64 1, .int .i64 0] 3)).alloc (.cells #[.int .i64 1, .int .i64 2] 3)).alloc (.cells #[.int .i64 3, .int .i64 0] 3)).alloc (.cells #[.int .i64 0, .int .i64 3] 3)).alloc (.cells #[.int .i64 1, .int .i64 2] 3)).alloc (.cells #[.slice (some ⟨w4.heap.size + 1 + 1, 0, none⟩) 2 2, .slice (some ⟨w4.heap.size + 1 + 1 + 1, 0, none⟩) 2 2, .slice (some ⟨w4.heap.size + 1 + 1 + 1 + 1, 0, none⟩) 2 2, .slice (some ⟨w4.heap.size + 1 + 1 + 1 + 1 + 1, 0, none⟩) 2 2] 26)).alloc (.cells #[.slice (some ⟨w4.heap.size, 0, none⟩) 4 4, .slice (some ⟨w4.heap.size + 1, 0, none⟩) 4 4, .slice (some ⟨w4.heap.size + 1 + 1 + 1 + 1 + 1 + 1, 0, none⟩) 4 4] 28)).heap[w4.heap.size + 1]? = some (.cells #[.int .i64 1, .int .i64 1, .int .i64 1, .int .i64 0] 3 (0, 0)) := (by (repeat (rw [alloc_get]; first | rw [if_pos (by first | (simp; done) | (simp; omega))] | rw [if_neg (by first | (simp; done) | (simp; omega))])); (try rfl))
  have y2 : ((((((((w4.alloc (.cells #[.int .i64 1, .int .i64 0, .int .i64 0, .int .i64 1] 3)).alloc (.cells #[.int .i64 1, .int .i64 1, .int .i64 1, .int .i64 0] 3)).alloc (.cells #[.int .i64 1, .int .i64 2] 3)).alloc (.cells #[.int .i64 3, .int .i64 0] 3)).alloc (.cells #[.int .i64 0, .int .i64 3] 3)).alloc (.cells #[.int .i64 1, .int .i64 2] 3)).alloc (.cells #[.slice (some ⟨w4.heap.size + 1 + 1, 0, none⟩) 2 2, .slice (some ⟨w4.heap.size + 1 + 1 + 1, 0, none⟩) 2 2, .slice (some ⟨w4.heap.size + 1 + 1 + 1 + 1, 0, none⟩) 2 2, .slice (some ⟨w4.heap.size + 1 + 1 + 1 + 1 + 1, 0, none⟩) 2 2] 26)).alloc (.cells #[.slice (some ⟨w4.heap.size, 0, none⟩) 4 4, .slice (some ⟨w4.heap.size + 1, 0, none⟩) 4 4, .slice (some ⟨w4.heap.size + 1 + 1 + 1 + 1 + 1 + 1, 0, none⟩) 4 4] 28)).heap[w4.heap.size + 1 + 1]? = some (.cells #[.int .i64 1, .int .i64 2] 3 (0, 0)) := (by (repeat (rw [alloc_get]; first | rw [if_pos (by first | (simp; done) | (simp; omega))] | rw [if_neg (by first | (simp; done) | (simp; omega))])); (try rfl))
  have y3 : ((((((((w4.alloc (.cells #[.int .i64 1, .int .i64 0, .int .i64 0, .int .i64 1] 3)).alloc (.cells #[.int .i64 1, .int .i64 1, .int .i64 1, .int .i64 0] 3)).alloc (.cells #[.int .i64 1, .int .i64 2] 3)).alloc (.cells #[.int .i64 3, .int .i64 0] 3)).alloc (.cells #[.int .i64 0, .int .i64 3] 3)).alloc (.cells #[.int .i64 1, .int .i64 2] 3)).alloc (.cells #[.slice (some ⟨w4.heap.size + 1 + 1, 0, none⟩) 2 2, .slice (some ⟨w4.heap.size + 1 + 1 + 1, 0, none⟩) 2 2, .slice (some ⟨w4.heap.size + 1 + 1 + 1 + 1, 0, none⟩) 2 2, .slice (some ⟨w4.heap.size + 1 + 1 + 1 + 1 + 1, 0, none⟩) 2 2] 26)).alloc (.cells #[.slice (some ⟨w4.heap.size, 0, none⟩) 4 4, .slice (some ⟨w4.heap.size + 1, 0, none⟩) 4 4, .slice (some ⟨w4.heap.size + 1 + 1 + 1 + 1 + 1 + 1, 0, none⟩) 4 4] 28)).heap[w4.heap.size + 1 + 1 + 1]? = some (.cells #[.int .i64 3, .int .i64 0] 3 (0, 0)) := (by (repeat (rw [alloc_get]; first | rw [if_pos (by first | (simp; done) | (simp; omega))] | rw [if_neg (by first | (simp; done) | (simp; omega))])); (try rfl))
  have y4 : ((((((((w4.alloc (.cells #[.int .i64 1, .int .i64 0, .int .i64 0, .int .i64 1] 3)).alloc (.cells #[.int .i64 1, .int .i64 1, .int .i64 1, .int .i64 0] 3)).alloc (.cells #[.int .i64 1, .int .i64 2] 3)).alloc (.cells #[.int .i64 3, .int .i64 0] 3)).alloc (.cells #[.int .i64 0, .int .i64 3] 3)).alloc (.cells #[.int .i64 1, .int .i64 2] 3)).alloc (.cells #[.slice (some ⟨w4.heap.size + 1 + 1, 0, none⟩) 2 2, .slice (some ⟨w4.heap.size + 1 + 1 + 1, 0, none⟩) 2 2, .slice (some ⟨w4.heap.size + 1 + 1 + 1 + 1, 0, none⟩) 2 2, .slice (some ⟨w4.heap.size + 1 + 1 + 1 + 1 + 1, 0, none⟩) 2 2] 26)).alloc (.cells #[.slice (some ⟨w4.heap.size, 0, none⟩) 4 4, .slice (some ⟨w4.heap.size + 1, 0, none⟩) 4 4, .slice (some ⟨w4.heap.size + 1 + 1 + 1 + 1 + 1 + 1, 0, none⟩) 4 4] 28)).heap[w4.heap.size + 1 + 1 + 1 + 1]? = some (.cells #[.int .i64 0, .int .i64 3] 3 (0, 0)) := (by (repeat (rw [alloc_get]; first | rw [if_pos (by first | (simp; done) | (simp; omega))] | rw [if_neg (by first | (simp; done) | (simp; omega))])); (try rfl))
  have y5 : ((((((((w4.alloc (.cells #[.int .i64 1, .int .i64 0, .int .i64 0, .int .i64 1] 3)).alloc (.cells #[.int .i64 1, .int .i64 1, .int .i64 1, .int .i64 0] 3)).alloc (.cells #[.int .i64 1, .int .i64 2] 3)).alloc (.cells #[.int .i64 3, .int .i64 0] 3)).alloc (.cells #[.int .i64 0, .int .i64 3] 3)).alloc (.cells #[.int .i64 1, .int .i64 2] 3)).alloc (.cells #[.slice (some ⟨w4.heap.size + 1 + 1, 0, none⟩) 2 2, .slice (some ⟨w4.heap.size + 1 + 1 + 1, 0, none⟩) 2 2, .slice (some ⟨w4.heap.size + 1 + 1 + 1 + 1, 0, none⟩) 2 2, .slice (some ⟨w4.heap.size + 1 + 1 + 1 + 1 + 1, 0, none⟩) 2 2] 26)).alloc (.cells #[.slice (some ⟨w4.heap.size, 0, none⟩) 4 4, .slice (some ⟨w4.heap.size + 1, 0, none⟩) 4 4, .slice (some ⟨w4.heap.size + 1 + 1 + 1 + 1 + 1 + 1, 0, none⟩) 4 4] 28)).heap[w4.heap.size + 1 + 1 + 1 + 1 + 1]? = some (.cells #[.int .i64 1, .int .i64 2] 3 (0, 0)) := (by (repeat (rw [alloc_get]; first | rw [if_pos (by first | (simp; done) | (simp; omega))] | rw [if_neg (by first | (simp; done) | (simp; omega))])); (try rfl))
  have y6 : ((((((((w4.alloc (.cells #[.int .i64 1, .int .i64 0, .int .i64 0, .int .i64 1] 3)).alloc (.cells #[.int .i64 1, .int .i64 1, .int .i64 1, .int .i64 0] 3)).alloc (.cells #[.int .i64 1, .int .i64 2] 3)).alloc (.cells #[.int .i64 3, .int .i64 0] 3)).alloc (.cells #[.int .i64 0, .int .i64 3] 3)).alloc (.cells #[.int .i64 1, .int .i64 2] 3)).alloc (.cells #[.slice (some ⟨w4.heap.size + 1 + 1, 0, none⟩) 2 2, .slice (some ⟨w4.heap.size + 1 + 1 + 1, 0, none⟩) 2 2, .slice (some ⟨w4.heap.size + 1 + 1 + 1 + 1, 0, none⟩) 2 2, .slice (some ⟨w4.heap.size + 1 + 1 + 1 + 1 + 1, 0, none⟩) 2 2] 26)).alloc (.cells #[.slice (some ⟨w4.heap.size, 0, none⟩) 4 4, .slice (some ⟨w4.heap.size + 1, 0, none⟩) 4 4, .slice (some ⟨w4.heap.size + 1 + 1 + 1 + 1 + 1 + 1, 0, none⟩) 4 4] 28)).heap[w4.heap.size + 1 + 1 + 1 + 1 + 1 + 1]? = some (.cells #[.slice (some ⟨w4.heap.size + 1 + 1, 0, none⟩) 2 2, .slice (some ⟨w4.heap.size + 1 + 1 + 1, 0, none⟩) 2 2, .slice (some ⟨w4.heap.size + 1 + 1 + 1 + 1, 0, none⟩) 2 2, .slice (some ⟨w4.heap.size + 1 + 1 + 1 + 1 + 1, 0, none⟩) 2 2] 26 (0, 0)) := (by (repeat (rw [alloc_get]; first | rw [if_pos (by first | (simp; done) | (simp; omega))] | rw [if_neg (by first | (simp; done) | (simp; omega))])); (try rfl))
  have y7 : ((((((((w4.alloc (.cells #[.int .i64 1, .int .i64 0, .int .i64 0, .int .i64 1] 3)).alloc (.cells #[.int .i64 1, .int .i64 1, .int .i64 1, .int .i64 0] 3)).alloc (.cells #[.int .i64 1, .int .i64 2] 3)).alloc (.cells #[.int .i64 3, .int .i64 0] 3)).alloc (.cells #[.int .i64 0, .int .i64 3] 3)).alloc (.cells #[.int .i64 1, .int .i64 2] 3)).alloc (.cells #[.slice (some ⟨w4.heap.size + 1 + 1, 0, none⟩) 2 2, .slice (some ⟨w4.heap.size + 1 + 1 + 1, 0, none⟩) 2 2, .slice (some ⟨w4.heap.size + 1 + 1 + 1 + 1, 0, none⟩) 2 2, .slice (some ⟨w4.heap.size + 1 + 1 + 1 + 1 + 1, 0, none⟩) 2 2] 26)).alloc (.cells #[.slice (some ⟨w4.heap.size, 0, none⟩) 4 4, .slice (some ⟨w4.heap.size + 1, 0, none⟩) 4 4, .slice (some ⟨w4.heap.size + 1 + 1 + 1 + 1 + 1 + 1, 0, none⟩) 4 4] 28)).heap[w4.heap.size + 1 + 1 + 1 + 1 + 1 + 1 + 1]? = some (.cells #[.slice (some ⟨w4.heap.size, 0, none⟩) 4 4, .slice (some ⟨w4.heap.size + 1, 0, none⟩) 4 4, .slice (some ⟨w4.heap.size + 1 + 1 + 1 + 1 + 1 + 1, 0, none⟩) 4 4] 28 (0, 0)) := (by (repeat (rw [alloc_get]; first | rw [if_pos (by first | (simp; done) | (simp; omega))] | rw [if_neg (by first | (simp; done) | (simp; omega))])); (try rfl))
  generalize ((((((((w4.alloc (.cells #[.int .i64 1, .int .i64 0, .int .i64 0, .int .i64 1] 3)).alloc (.cells #[.int .i64 1, .int .i64 1, .int .i64 1, .int .i64 0] 3)).alloc (.cells #[.int .i64 1, .int .i64 2] 3)).alloc (.cells #[.int .i64 3, .int .i64 0] 3)).alloc (.cells #[.int .i64 0, .int .i64 3] 3)).alloc (.cells #[.int .i64 1, .int .i64 2] 3)).alloc (.cells #[.slice (some ⟨w4.heap.size + 1 + 1, 0, none⟩) 2 2, .slice (some ⟨w4.heap.size + 1 + 1 + 1, 0, none⟩) 2 2, .slice (some ⟨w4.heap.size + 1 + 1 + 1 + 1, 0, none⟩) 2 2, .slice (some ⟨w4.heap.size + 1 + 1 + 1 + 1 + 1, 0, none⟩) 2 2] 26)).alloc (.cells #[.slice (some ⟨w4.heap.size, 0, none⟩) 4 4, .slice (some ⟨w4.heap.size + 1, 0, none⟩) 4 4, .slice (some ⟨w4.heap.size + 1 + 1 + 1 + 1 + 1 + 1, 0, none⟩) 4 4] 28)) = w5 at *
  replace hx := (hb.block _ (Array.getElem?_eq_some_iff.1 hx).1).trans hx
  replace hx3 := (hb.block _ (Array.getElem?_eq_some_iff.1 hx3).1).trans hx3
  replace hg3 := hg3.below hb
  replace hp3 := hp3.below hb
  replace hBx := hBx.trans (hb.mono hBx.size)
  have hG : IsGame w5 (.agg #[.slice (some ⟨w4.heap.size, 0, none⟩) 4 4, .slice (some ⟨w4.heap.size + 1, 0, none⟩) 4 4, .slice (some ⟨w4.heap.size + 1 + 1 + 1 + 1 + 1 + 1, 0, none⟩) 4 4]) exG := by
    have r2 := ints_lit [1, 2] y2 (by decide) (by simp [I64])
    have r3 := ints_lit [3, 0] y3 (by decide) (by simp [I64])
    have r4 := ints_lit [0, 3] y4 (by decide) (by simp [I64])
    have r5 := ints_lit [1, 2] y5 (by decide) (by simp [I64])
    refine ⟨_, _, _, rfl, ints_lit [1, 0, 0, 1] y0 (by decide) (by simp [I64]), ints_lit [1, 1, 1, 0] y1 (by decide) (by simp [I64]), rows_lit [[1, 2], [3, 0], [0, 3], [1, 2]] [.slice (some ⟨w4.heap.size + 1 + 1, 0, none⟩) 2 2, .slice (some ⟨w4.heap.size + 1 + 1 + 1, 0, none⟩) 2 2, .slice (some ⟨w4.heap.size + 1 + 1 + 1 + 1, 0, none⟩) 2 2, .slice (some ⟨w4.heap.size + 1 + 1 + 1 + 1 + 1, 0, none⟩) 2 2] y6 rfl (by decide) (fun j hj => ?_)⟩
    match j, hj with
    | 0, _ => exact r2
    | 1, _ => exact r3
    | 2, _ => exact r4
    | 3, _ => exact r5
    | q + 4, h => exact absurd h (by simp)
  clear y0 y1 y2 y3 y4 y5 y6 hb
  generalize w4.heap.size + 1 + 1 + 1 + 1 + 1 + 1 + 1 = z6 at *
  generalize w4.heap.size + 1 + 1 + 1 + 1 + 1 + 1 = g2 at *
  generalize w4.heap.size + 1 = g1 at *
  generalize w4.heap.size = g0 at *
  have c0 := cell_of_row _ _ 0 _ _ _ hx
  have c1 := cell_of_row _ _ 1 _ _ _ hx
  have c2 := cell_of_row _ _ 2 _ _ _ hx
  have c3 := cell_of_row _ _ 3 _ _ _ hx
  go_wp2_with fail
  refine (HBD.out w5 3 _ hBx ex_b2).mono ?_
  rintro e w6 ⟨vg, vp4, rfl, hg4, -, hb⟩
  obtain ⟨d0, m0, j0, d1, m1, j1, d2, m2, j2, rfl⟩ := hg4.shape
  replace hx := (hb.block _ (Array.getElem?_eq_some_iff.1 hx).1).trans hx
  replace hx3 := (hb.block _ (Array.getElem?_eq_some_iff.1 hx3).1).trans hx3
  replace y7 := (hb.block _ (Array.getElem?_eq_some_iff.1 y7).1).trans y7
  replace hg3 := hg3.below hb
  replace hp3 := hp3.below hb
  replace hG := hG.below hb
  replace hBx := hBx.trans (hb.mono hBx.size)
  clear c0 c1 c2 c3 hb hg4
  go_upto_region 5 with (fail)
  obtain ⟨-, hb, hBx⟩ := box_new hBx hBx.size #[.slice d0 m0 j0, .slice d1 m1 j1, .slice d2 m2 j2] 28
  replace hx := (hb.block _ (Array.getElem?_eq_some_iff.1 hx).1).trans hx
  replace hx3 := (hb.block _ (Array.getElem?_eq_some_iff.1 hx3).1).trans hx3
  replace y7 := (hb.block _ (Array.getElem?_eq_some_iff.1 y7).1).trans y7
  replace hg3 := hg3.below hb
  replace hp3 := hp3.below hb
  replace hG := hG.below hb
  generalize w6.alloc (.cells #[.slice d0 m0 j0, .slice d1 m1 j1, .slice d2 m2 j2] 28) = w7 at *
  generalize w6.heap.size = z7 at *
  clear hb
  have HX := Lib.hid (fun (W : World) (h : Below w7.heap.size w7 W) => (show W.cell? ⟨zp, 0, none⟩ = some (.int .i64 4) ∧ W.cell? ⟨zp, 1, none⟩ = some (.int .i64 0) ∧ W.cell? ⟨zp, 2, none⟩ = some (.slice (some ⟨b2, 0, none⟩) 1 1) ∧ W.cell? ⟨zp, 3, none⟩ = some (.slice (some ⟨b3, 0, none⟩) 1 1) from by
    have k := (h.block _ (Array.getElem?_eq_some_iff.1 hx).1).trans hx
    exact ⟨cell_of_row _ _ 0 _ _ _ k, cell_of_row _ _ 1 _ _ _ k, cell_of_row _ _ 2 _ _ _ k, cell_of_row _ _ 3 _ _ _ k⟩))
  have HB3 : Hid (∀ W, Below w7.heap.size w7 W → Calls Tryd.prog 13 #[.slice (some ⟨bl, 0, none⟩) 1 2, .agg #[.int .i64 4, .int .i64 0, .slice (some ⟨b2, 0, none⟩) 1 1, .slice (some ⟨b3, 0, none⟩) 1 1], .int .i64 10] W (GPE (⟨[], [], []⟩, [], 1) W)) := fun W hW => by
    rw [← ex_b3]
    have h1 : Below w2.heap.size w2 W := hBx.trans (hW.mono hBx.size)
    have hl' := hl.below h1
    refine Build_c W _ _ (exL.take 1) exA 10 (hK.below (hB.trans (h1.mono hB.size))) ⟨some ⟨bl, 0, none⟩, 2, bl, 0, rfl, by decide, by decide, by decide, fun _ => rfl, fun j hj => ?_, fun j hj => ?_, fun j hj => ?_, by simp [exL, I64], by decide⟩ (ha.below h1)
    all_goals
      obtain rfl : j = 0 := by simp [exL] at hj; omega
    · exact hl'.nn 0 (by decide)
    · exact hl'.ni 0 (by decide)
    · exact hl'.nz 0 (by decide)
  have hr7 : Below w7.heap.size w7 w7.drew := Below.drew (Below.refl _ _)
  refine wpIn_wide.1 (region_freeIn (F := Fence.wide) (n := 5) hmx (R5h bl b2 b3 w7.heap.size) (fun W => Below w7.heap.size w7 W) (fun vs => { tmps := (_ :: _ :: _ :: _ :: _ :: _ :: _ :: _ :: _ :: _ :: vs 8 :: vs 10 :: vs 11 :: _ :: _ :: _ :: _ :: _ :: _ :: _ :: _ :: _ :: _ :: _ :: _ :: _ :: _ :: _ :: _ :: _ :: _ :: _ :: _ :: _ :: _ :: _ :: _ :: _ :: _ :: _ :: _ :: _ :: _ :: _ :: _ :: _ :: vs 4 :: vs 0 :: vs 1 :: vs 2 :: vs 3 :: vs 5 :: vs 6 :: vs 7 :: _ :: _ :: _ :: _ :: _ :: _ :: _ :: _ :: _ :: _ :: _ :: _ :: _ :: _ :: _ :: _ :: _ :: _ :: _ :: _ :: _ :: _ :: _ :: _ :: _ :: _ :: _ :: _ :: _ :: _ :: _ :: _ :: _ :: _ :: _ :: _ :: _ :: _ :: _ :: _ :: _ :: _ :: _ :: _ :: _ :: _ :: _ :: _ :: _ :: _ :: _ :: _ :: _ :: _ :: _ :: _ :: _ :: _ :: _ :: _ :: _ :: _ :: _ :: _ :: _ :: _ :: _ :: _ :: _ :: _ :: _ :: _ :: _ :: _ :: _ :: _ :: _ :: _ :: _ :: _ :: _ :: _ :: _ :: _ :: _ :: _ :: _ :: _ :: _ :: _ :: _ :: _ :: _ :: _ :: _ :: _ :: _ :: _ :: _ :: _ :: []).toArray, defers := _ }) (fun _ => undef) rfl (by kernel_rfl) hr7 ?step5 ?fin5)
  case step5 =>
    clear hx hx3 y7 hg3 hp3 hG hB hBx hl ha hr7
    intro ix o ho
    match ix, ho with
    | 0, ho =>
        obtain rfl := Option.some.inj ho
        intro vs W K hB0 hD hK
        have HK := Lib.hid hK
        have HB := Lib.hid hB0
        clear hK hD ho hB0
        dsimp only
        go_simp
        have h := HK.out _ W HB.out (fun _ _ _ h => h) rfl
        simp only [upd, Nat.reduceEqDiff, reduceIte] at h
        exact h
    | 1, ho =>
        obtain rfl := Option.some.inj ho
        intro vs W K hB0 hD hK
        have HK := Lib.hid hK
        have e0 : vs 0 = .slice (some ⟨bl, 0, none⟩) 2 2 := dep_of hD 0 (by rfl)
        have HB := Lib.hid hB0
        clear hK hD ho hB0
        dsimp only
        go_simp
        have h := HK.out _ W HB.out (fun _ _ _ h => h) rfl
        simp only [upd, Nat.reduceEqDiff, reduceIte, e0] at h
        exact h
    | 2, ho =>
        obtain rfl := Option.some.inj ho
        intro vs W K hB0 hD hK
        have HK := Lib.hid hK
        obtain ⟨p0, p1, p2, p3⟩ := HX.out W hB0
        have HB := Lib.hid hB0
        clear hK hD ho hB0
        dsimp only
        go_simp
        have h := HK.out _ W HB.out (fun _ _ _ h => h) rfl
        simp only [upd, Nat.reduceEqDiff, reduceIte] at h
        exact h
    | 3, ho =>
        obtain rfl := Option.some.inj ho
        intro vs W K hB0 hD hK
        have HK := Lib.hid hK
        have e1 : vs 1 = .slice (some ⟨bl, 0, none⟩) 1 2 := dep_of hD 1 (by rfl)
        have e2 : vs 2 = .agg #[.int .i64 4, .int .i64 0, .slice (some ⟨b2, 0, none⟩) 1 1, .slice (some ⟨b3, 0, none⟩) 1 1] := dep_of hD 2 (by rfl)
        have HB := Lib.hid hB0
        clear hK hD ho hB0
        dsimp only
        go_simp
        refine ⟨trivial, ?_⟩
        refine (callsIn_wide.2 (HB3.out W HB.out)).mono ?_
        rintro e W' ⟨vg, vp', rfl, hg', -, hb'⟩
        obtain ⟨a0', n0', c0', a1', n1', c1', a2', n2', c2', rfl⟩ := hg'.shape
        have h := HK.out (.tuple #[(.agg #[.slice a0' n0' c0', .slice a1' n1' c1', .slice a2' n2' c2']), vp', .int .i64 1]) W' (HB.out.trans (hb'.mono HB.out.size)) (fun _ _ _ h => h.below hb') ⟨_, _, _, _, _, _, _, _, _, _, rfl⟩
        simp only [upd, Nat.reduceEqDiff, reduceIte, e1, e2] at h
        exact h
    | 4, ho =>
        obtain rfl := Option.some.inj ho
        intro vs W K hB0 hD hK
        have HK := Lib.hid hK
        obtain ⟨a0', n0', c0', a1', n1', c1', a2', n2', c2', vp', e3⟩ := dep_of (R := R5h bl b2 b3 w7.heap.size) hD 3 (by rfl)
        have HB := Lib.hid hB0
        clear hK hD ho hB0
        dsimp only
        go_simp
        have h := HK.out (.tuple #[(.agg #[.slice a0' n0' c0', .slice a1' n1' c1', .slice a2' n2' c2']), vp', .int .i64 1]) W HB.out (fun _ _ _ h => h) ⟨_, _, _, _, _, _, _, _, _, _, rfl⟩
        simp only [upd, Nat.reduceEqDiff, reduceIte, e3] at h
        exact h
    | 5, ho =>
        obtain rfl := Option.some.inj ho
        intro vs W K hB0 hD hK
        have HK := Lib.hid hK
        obtain ⟨a0', n0', c0', a1', n1', c1', a2', n2', c2', vp', e4⟩ := dep_of (R := R5h bl b2 b3 w7.heap.size) hD 4 (by rfl)
        have HB := Lib.hid hB0
        clear hK hD ho hB0
        dsimp only
        go_simp
        have h := HK.out (.agg #[.slice a0' n0' c0', .slice a1' n1' c1', .slice a2' n2' c2']) W HB.out (fun _ _ _ h => h) ⟨_, _, _, _, _, _, _, _, _, rfl⟩
        simp only [upd, Nat.reduceEqDiff, reduceIte, e4] at h
        exact h
    | 6, ho =>
        obtain rfl := Option.some.inj ho
        intro vs W K hB0 hD hK
        have HK := Lib.hid hK
        obtain ⟨a0', n0', c0', a1', n1', c1', a2', n2', c2', vp', e4⟩ := dep_of (R := R5h bl b2 b3 w7.heap.size) hD 4 (by rfl)
        have HB := Lib.hid hB0
        clear hK hD ho hB0
        dsimp only
        go_simp
        have h := HK.out vp' W HB.out (fun _ _ _ h => h) trivial
        simp only [upd, Nat.reduceEqDiff, reduceIte, e4] at h
        exact h
    | 7, ho =>
        obtain rfl := Option.some.inj ho
        intro vs W K hB0 hD hK
        have HK := Lib.hid hK
        obtain ⟨a0', n0', c0', a1', n1', c1', a2', n2', c2', vp', e4⟩ := dep_of (R := R5h bl b2 b3 w7.heap.size) hD 4 (by rfl)
        have HB := Lib.hid hB0
        clear hK hD ho hB0
        dsimp only
        go_simp
        have h := HK.out _ W HB.out (fun _ _ _ h => h) rfl
        simp only [upd, Nat.reduceEqDiff, reduceIte, e4] at h
        exact h
    | 8, ho =>
        obtain rfl := Option.some.inj ho
        intro vs W K hB0 hD hK
        have HK := Lib.hid hK
        have HB := Lib.hid hB0
        clear hK hD ho hB0
        dsimp only
        go_simp
        have h := HK.out _ _ (HB.out.trans ((bel_box (.cells #[.slice none 0 0, .slice none 0 0, .slice none 0 0] 28)).mono HB.out.size)) (fun _ _ _ h => h.below (bel_box _)) ⟨W.heap.size, rfl, HB.out.size, _, _, _, heap_alloc_new _ _⟩
        simp only [upd, Nat.reduceEqDiff, reduceIte] at h
        exact h
    | 9, ho =>
        obtain rfl := Option.some.inj ho
        intro vs W K hB0 hD hK
        have HK := Lib.hid hK
        obtain ⟨a0', n0', c0', a1', n1', c1', a2', n2', c2', e5⟩ := dep_of (R := R5h bl b2 b3 w7.heap.size) hD 5 (by rfl)
        obtain ⟨zq, e8, hzq, x0', y0', q0', hcq⟩ := dep_of (R := R5h bl b2 b3 w7.heap.size) hD 8 (by rfl)
        have r0 := cell_of_row _ _ 0 _ _ _ hcq
        have r1 := cell_of_row _ _ 1 _ _ _ hcq
        have r2 := cell_of_row _ _ 2 _ _ _ hcq
        have f0 := frozen_of_row _ _ 0 _ _ hcq
        have f1 := frozen_of_row _ _ 1 _ _ hcq
        have f2 := frozen_of_row _ _ 2 _ _ hcq
        have HB := Lib.hid hB0
        clear hK hD ho hB0
        dsimp only
        go_simp
        have h := HK.out undef _ (((HB.out.setCell (p := ⟨zq, 0, none⟩) hzq _).setCell (p := ⟨zq, 1, none⟩) hzq _).setCell (p := ⟨zq, 2, none⟩) hzq _) (fun _ _ _ h => h.set hcq (.slice a0' n0' c0') (.slice a1' n1' c1') (.slice a2' n2' c2')) trivial
        simp only [upd, Nat.reduceEqDiff, reduceIte, e5, e8] at h
        exact h
    | 10, ho =>
        obtain rfl := Option.some.inj ho
        intro vs W K hB0 hD hK
        have HK := Lib.hid hK
        obtain ⟨v6, e6⟩ : ∃ v6, vs 6 = v6 := ⟨_, rfl⟩
        have HB := Lib.hid hB0
        clear hK hD ho hB0
        dsimp only
        go_simp
        have h := HK.out v6 W HB.out (fun _ _ _ h => h) trivial
        simp only [upd, Nat.reduceEqDiff, reduceIte, e6] at h
        exact h
    | 11, ho =>
        obtain rfl := Option.some.inj ho
        intro vs W K hB0 hD hK
        have HK := Lib.hid hK
        have e7 : vs 7 = .int .i64 1 := dep_of hD 7 (by rfl)
        have HB := Lib.hid hB0
        clear hK hD ho hB0
        dsimp only
        go_simp
        have h := HK.out _ W HB.out (fun _ _ _ h => h) rfl
        simp only [upd, Nat.reduceEqDiff, reduceIte, e7] at h
        exact h
    | q + 12, ho => exact absurd ho (by simp)
  case fin5 =>
    intro vs w8 hb hall
    have e11 : vs 11 = .int .i64 1 := hall 11 (by decide)
    rw [e11]
    generalize vs 0 = q0
    generalize vs 1 = q1
    generalize vs 2 = q2
    generalize vs 3 = q3
    generalize vs 4 = q4
    generalize vs 5 = q5
    generalize vs 6 = q6
    generalize vs 7 = q7
    generalize vs 8 = q8
    generalize vs 10 = q10
    clear vs hall e11 HX HB3
    replace hx := (hb.block _ (Array.getElem?_eq_some_iff.1 hx).1).trans hx
    replace hx3 := (hb.block _ (Array.getElem?_eq_some_iff.1 hx3).1).trans hx3
    replace y7 := (hb.block _ (Array.getElem?_eq_some_iff.1 y7).1).trans y7
    replace hg3 := hg3.below hb
    replace hp3 := hp3.below hb
    replace hG := hG.below hb
    replace hBx := hBx.trans (hb.mono hBx.size)
    clear hb
    go_upto_region 6 with (fail)
    obtain ⟨G, hGv⟩ : ∃ G, G = Value.agg #[.slice (some ⟨g0, 0, none⟩) 4 4, .slice (some ⟨g1, 0, none⟩) 4 4, .slice (some ⟨g2, 0, none⟩) 4 4] := ⟨_, rfl⟩
    have c0 := cell_of_row _ _ 0 _ _ _ y7
    have c1 := cell_of_row _ _ 1 _ _ _ y7
    have c2 := cell_of_row _ _ 2 _ _ _ y7
    clear hGv G
    go_wp2_with fail
    refine (Swap_c _ _ exG hG ex_len).mono ?_
    rw [ex_sw]
    rintro e w9 ⟨vs9, rfl, hS9, hb⟩
    obtain ⟨d0, m0, j0, d1, m1, j1, d2, m2, j2, rfl⟩ := hS9.shape
    replace hx := (hb.block _ (Array.getElem?_eq_some_iff.1 hx).1).trans hx
    replace hx3 := (hb.block _ (Array.getElem?_eq_some_iff.1 hx3).1).trans hx3
    replace y7 := (hb.block _ (Array.getElem?_eq_some_iff.1 y7).1).trans y7
    replace hg3 := hg3.below hb
    replace hp3 := hp3.below hb
    replace hG := hG.below hb
    replace hBx := hBx.trans (hb.mono hBx.size)
    clear c0 c1 c2 hb
    go_upto_region 7 with (fail)
    obtain ⟨x13, hb, hBx⟩ := box_new hBx hBx.size #[.slice d0 m0 j0, .slice d1 m1 j1, .slice d2 m2 j2] 28
    replace hx := (hb.block _ (Array.getElem?_eq_some_iff.1 hx).1).trans hx
    replace hx3 := (hb.block _ (Array.getElem?_eq_some_iff.1 hx3).1).trans hx3
    replace y7 := (hb.block _ (Array.getElem?_eq_some_iff.1 y7).1).trans y7
    replace hg3 := hg3.below hb
    replace hp3 := hp3.below hb
    replace hG := hG.below hb
    replace hS9 := hS9.below hb
    generalize w9.alloc (.cells #[.slice d0 m0 j0, .slice d1 m1 j1, .slice d2 m2 j2] 28) = w10 at *
    generalize w9.heap.size = z13 at *
    clear hb
    have c0 := cell_of_row _ _ 0 _ _ _ y7
    have c1 := cell_of_row _ _ 1 _ _ _ y7
    have c2 := cell_of_row _ _ 2 _ _ _ y7
    go_wp2_with fail
    refine (Part_c _ _ _ exG [true, true, false, false] (hG.below (bel_box _)) (bools_lit [true, true, false, false] (heap_alloc_new _ _) (by decide)) ex_len).mono ?_
    rw [ex_p1]
    rintro e w11 ⟨vg11, vk11, rfl, hg11, hk11, hb⟩
    replace hb := (bel_box (w := w10) (.cells ([true, true, false, false].map Value.bool).toArray 4)).trans (hb.mono (by simp))
    obtain ⟨d3, m3, j3, d4, m4, j4, d5, m5, j5, rfl⟩ := hg11.shape
    replace hx := (hb.block _ (Array.getElem?_eq_some_iff.1 hx).1).trans hx
    replace hx3 := (hb.block _ (Array.getElem?_eq_some_iff.1 hx3).1).trans hx3
    replace y7 := (hb.block _ (Array.getElem?_eq_some_iff.1 y7).1).trans y7
    replace x13 := (hb.block _ (Array.getElem?_eq_some_iff.1 x13).1).trans x13
    replace hg3 := hg3.below hb
    replace hp3 := hp3.below hb
    replace hG := hG.below hb
    replace hS9 := hS9.below hb
    replace hBx := hBx.trans (hb.mono hBx.size)
    clear c0 c1 c2 hb
    go_upto_region 8 with (fail)
    obtain ⟨x14, hb, hBx⟩ := box_new hBx hBx.size #[.slice d3 m3 j3, .slice d4 m4 j4, .slice d5 m5 j5] 28
    replace hx := (hb.block _ (Array.getElem?_eq_some_iff.1 hx).1).trans hx
    replace hx3 := (hb.block _ (Array.getElem?_eq_some_iff.1 hx3).1).trans hx3
    replace y7 := (hb.block _ (Array.getElem?_eq_some_iff.1 y7).1).trans y7
    replace x13 := (hb.block _ (Array.getElem?_eq_some_iff.1 x13).1).trans x13
    replace hg3 := hg3.below hb
    replace hp3 := hp3.below hb
    replace hG := hG.below hb
    replace hS9 := hS9.below hb
    replace hg11 := hg11.below hb
    replace hk11 := hk11.below hb
    generalize w11.alloc (.cells #[.slice d3 m3 j3, .slice d4 m4 j4, .slice d5 m5 j5] 28) = w12 at *
    generalize w11.heap.size = z14 at *
    clear hb
    have c0 := cell_of_row _ _ 0 _ _ _ y7
    have c1 := cell_of_row _ _ 1 _ _ _ y7
    have c2 := cell_of_row _ _ 2 _ _ _ y7
    go_wp2_with fail
    refine (Part_c _ _ _ exG [true, false, false, true] (hG.below (bel_box _)) (bools_lit [true, false, false, true] (heap_alloc_new _ _) (by decide)) ex_len).mono ?_
    rw [ex_p2]
    rintro e w13 ⟨vg13, vk13, rfl, hg13, hk13, hb⟩
    replace hb := (bel_box (w := w12) (.cells ([true, false, false, true].map Value.bool).toArray 4)).trans (hb.mono (by simp))
    obtain ⟨d6, j6, d7, j7, d8, j8, rfl⟩ := hg13.shape0
    replace hx := (hb.block _ (Array.getElem?_eq_some_iff.1 hx).1).trans hx
    replace hx3 := (hb.block _ (Array.getElem?_eq_some_iff.1 hx3).1).trans hx3
    replace y7 := (hb.block _ (Array.getElem?_eq_some_iff.1 y7).1).trans y7
    replace x13 := (hb.block _ (Array.getElem?_eq_some_iff.1 x13).1).trans x13
    replace x14 := (hb.block _ (Array.getElem?_eq_some_iff.1 x14).1).trans x14
    replace hg3 := hg3.below hb
    replace hp3 := hp3.below hb
    replace hG := hG.below hb
    replace hS9 := hS9.below hb
    replace hg11 := hg11.below hb
    replace hk11 := hk11.below hb
    replace hBx := hBx.trans (hb.mono hBx.size)
    clear c0 c1 c2 hb
    go_upto_region 9 with (fail)
    obtain ⟨x16, hb, hBx⟩ := box_new hBx hBx.size #[.slice d6 0 j6, .slice d7 0 j7, .slice d8 0 j8] 28
    replace hx := (hb.block _ (Array.getElem?_eq_some_iff.1 hx).1).trans hx
    replace hx3 := (hb.block _ (Array.getElem?_eq_some_iff.1 hx3).1).trans hx3
    replace y7 := (hb.block _ (Array.getElem?_eq_some_iff.1 y7).1).trans y7
    replace x13 := (hb.block _ (Array.getElem?_eq_some_iff.1 x13).1).trans x13
    replace x14 := (hb.block _ (Array.getElem?_eq_some_iff.1 x14).1).trans x14
    replace hg3 := hg3.below hb
    replace hp3 := hp3.below hb
    replace hG := hG.below hb
    replace hS9 := hS9.below hb
    replace hg11 := hg11.below hb
    replace hk11 := hk11.below hb
    generalize w13.alloc (.cells #[.slice d6 0 j6, .slice d7 0 j7, .slice d8 0 j8] 28) = w14 at *
    generalize w13.heap.size = z16 at *
    clear hb
    have c0 := cell_of_row _ _ 0 _ _ _ y7
    have c1 := cell_of_row _ _ 1 _ _ _ y7
    have c2 := cell_of_row _ _ 2 _ _ _ y7
    have e0 := cell_of_row _ _ 0 _ _ _ hx3
    have e1 := cell_of_row _ _ 1 _ _ _ hx3
    have e2 := cell_of_row _ _ 2 _ _ _ hx3
    go_wp2_with fail
    refine (Same_c _ _ _ exG exG hg3 hG).mono ?_
    rw [decide_eq_true (rfl : exG = exG)]
    rintro e w15 ⟨rfl, hb⟩
    replace hx := (hb.block _ (Array.getElem?_eq_some_iff.1 hx).1).trans hx
    replace hx3 := (hb.block _ (Array.getElem?_eq_some_iff.1 hx3).1).trans hx3
    replace y7 := (hb.block _ (Array.getElem?_eq_some_iff.1 y7).1).trans y7
    replace x13 := (hb.block _ (Array.getElem?_eq_some_iff.1 x13).1).trans x13
    replace x14 := (hb.block _ (Array.getElem?_eq_some_iff.1 x14).1).trans x14
    replace x16 := (hb.block _ (Array.getElem?_eq_some_iff.1 x16).1).trans x16
    replace hg3 := hg3.below hb
    replace hp3 := hp3.below hb
    replace hG := hG.below hb
    replace hS9 := hS9.below hb
    replace hg11 := hg11.below hb
    replace hk11 := hk11.below hb
    replace hBx := hBx.trans (hb.mono hBx.size)
    clear c0 c1 c2 e0 e1 e2 hb
    go_wp2_with fail
    refine (SamePl_c _ _ _ exP exP (hp3.below (bel_box _)) (pls_lit exP (heap_alloc_new _ _) (by decide) ex_wf)).mono ?_
    rw [decide_eq_true (rfl : exP = exP)]
    rintro e w16 ⟨rfl, hb⟩
    replace hb := (bel_box (w := w15) (.cells (plsC exP).toArray 48)).trans (hb.mono (by simp))
    replace hx := (hb.block _ (Array.getElem?_eq_some_iff.1 hx).1).trans hx
    replace hx3 := (hb.block _ (Array.getElem?_eq_some_iff.1 hx3).1).trans hx3
    replace y7 := (hb.block _ (Array.getElem?_eq_some_iff.1 y7).1).trans y7
    replace x13 := (hb.block _ (Array.getElem?_eq_some_iff.1 x13).1).trans x13
    replace x14 := (hb.block _ (Array.getElem?_eq_some_iff.1 x14).1).trans x14
    replace x16 := (hb.block _ (Array.getElem?_eq_some_iff.1 x16).1).trans x16
    replace hg3 := hg3.below hb
    replace hp3 := hp3.below hb
    replace hG := hG.below hb
    replace hS9 := hS9.below hb
    replace hg11 := hg11.below hb
    replace hk11 := hk11.below hb
    replace hBx := hBx.trans (hb.mono hBx.size)
    clear hb hg3 hp3 hx3
    go_upto_region 10 with (fail)
    have c0 := cell_of_row _ _ 0 _ _ _ x13
    have c1 := cell_of_row _ _ 1 _ _ _ x13
    have c2 := cell_of_row _ _ 2 _ _ _ x13
    go_wp2_with fail
    refine ((Ints_c _ _ _ [0, 1, 1, 0] [0, 1, 1, 0] (hS9.parts.1.below (bel_box _)) (ints_lit [0, 1, 1, 0] (heap_alloc_new _ _) (by decide) (by simp [I64]))).mono fun e w' h => h.calm).mono ?_
    rw [decide_eq_true (rfl : ([0, 1, 1, 0] : List Int) = [0, 1, 1, 0])]
    rintro e w17 ⟨rfl, hb⟩
    replace hb := (bel_box (w := w16) (.cells (([0, 1, 1, 0] : List Int).map (Value.int .i64)).toArray 3)).trans (hb.mono (by simp))
    replace hx := (hb.block _ (Array.getElem?_eq_some_iff.1 hx).1).trans hx
    replace y7 := (hb.block _ (Array.getElem?_eq_some_iff.1 y7).1).trans y7
    replace x13 := (hb.block _ (Array.getElem?_eq_some_iff.1 x13).1).trans x13
    replace x14 := (hb.block _ (Array.getElem?_eq_some_iff.1 x14).1).trans x14
    replace x16 := (hb.block _ (Array.getElem?_eq_some_iff.1 x16).1).trans x16
    replace hG := hG.below hb
    replace hS9 := hS9.below hb
    replace hg11 := hg11.below hb
    replace hk11 := hk11.below hb
    replace hBx := hBx.trans (hb.mono hBx.size)
    clear hb
    clear c0 c1 c2
    have c0 := cell_of_row _ _ 0 _ _ _ x13
    have c1 := cell_of_row _ _ 1 _ _ _ x13
    have c2 := cell_of_row _ _ 2 _ _ _ x13
    go_wp2_with fail
    refine ((Ints_c _ _ _ [2, 2, 2, 1] [2, 2, 2, 1] (hS9.parts.2.1.below (bel_box _)) (ints_lit [2, 2, 2, 1] (heap_alloc_new _ _) (by decide) (by simp [I64]))).mono fun e w' h => h.calm).mono ?_
    rw [decide_eq_true (rfl : ([2, 2, 2, 1] : List Int) = [2, 2, 2, 1])]
    rintro e w18 ⟨rfl, hb⟩
    replace hb := (bel_box (w := w17) (.cells (([2, 2, 2, 1] : List Int).map (Value.int .i64)).toArray 3)).trans (hb.mono (by simp))
    replace hx := (hb.block _ (Array.getElem?_eq_some_iff.1 hx).1).trans hx
    replace y7 := (hb.block _ (Array.getElem?_eq_some_iff.1 y7).1).trans y7
    replace x13 := (hb.block _ (Array.getElem?_eq_some_iff.1 x13).1).trans x13
    replace x14 := (hb.block _ (Array.getElem?_eq_some_iff.1 x14).1).trans x14
    replace x16 := (hb.block _ (Array.getElem?_eq_some_iff.1 x16).1).trans x16
    replace hG := hG.below hb
    replace hS9 := hS9.below hb
    replace hg11 := hg11.below hb
    replace hk11 := hk11.below hb
    replace hBx := hBx.trans (hb.mono hBx.size)
    clear hb
    clear c0 c1 c2 hS9 x13
    have c0 := cell_of_row _ _ 0 _ _ _ x14
    have c1 := cell_of_row _ _ 1 _ _ _ x14
    have c2 := cell_of_row _ _ 2 _ _ _ x14
    go_wp2_with fail
    have hb : Below w18.heap.size w18 (((((w18.alloc (.cells #[.int .i64 1, .int .i64 0] 3)).alloc (.cells #[.int .i64 1, .int .i64 1] 3)).alloc (.cells #[.int .i64 1] 3)).alloc (.cells #[.int .i64 0] 3)).alloc (.cells #[.slice (some ⟨w18.heap.size + 1 + 1, 0, none⟩) 1 1, .slice (some ⟨w18.heap.size + 1 + 1 + 1, 0, none⟩) 1 1] 26)) := (by repeat (first | exact Below.refl _ _ | assumption | (refine belA ?_ _) | (refine belD ?_ _)))
    have u0 : (((((w18.alloc (.cells #[.int .i64 1, .int .i64 0] 3)).alloc (.cells #[.int .i64 1, .int .i64 1] 3)).alloc (.cells #[.int .i64 1] 3)).alloc (.cells #[.int .i64 0] 3)).alloc (.cells #[.slice (some ⟨w18.heap.size + 1 + 1, 0, none⟩) 1 1, .slice (some ⟨w18.heap.size + 1 + 1 + 1, 0, none⟩) 1 1] 26)).heap[w18.heap.size]? = some (.cells #[.int .i64 1, .int .i64 0] 3 (0, 0)) := (by (repeat (rw [alloc_get]; first | rw [if_pos (by first | (simp; done) | (simp; omega))] | rw [if_neg (by first | (simp; done) | (simp; omega))])); (try rfl))
    have u1 : (((((w18.alloc (.cells #[.int .i64 1, .int .i64 0] 3)).alloc (.cells #[.int .i64 1, .int .i64 1] 3)).alloc (.cells #[.int .i64 1] 3)).alloc (.cells #[.int .i64 0] 3)).alloc (.cells #[.slice (some ⟨w18.heap.size + 1 + 1, 0, none⟩) 1 1, .slice (some ⟨w18.heap.size + 1 + 1 + 1, 0, none⟩) 1 1] 26)).heap[w18.heap.size + 1]? = some (.cells #[.int .i64 1, .int .i64 1] 3 (0, 0)) := (by (repeat (rw [alloc_get]; first | rw [if_pos (by first | (simp; done) | (simp; omega))] | rw [if_neg (by first | (simp; done) | (simp; omega))])); (try rfl))
    have u2 : (((((w18.alloc (.cells #[.int .i64 1, .int .i64 0] 3)).alloc (.cells #[.int .i64 1, .int .i64 1] 3)).alloc (.cells #[.int .i64 1] 3)).alloc (.cells #[.int .i64 0] 3)).alloc (.cells #[.slice (some ⟨w18.heap.size + 1 + 1, 0, none⟩) 1 1, .slice (some ⟨w18.heap.size + 1 + 1 + 1, 0, none⟩) 1 1] 26)).heap[w18.heap.size + 1 + 1]? = some (.cells #[.int .i64 1] 3 (0, 0)) := (by (repeat (rw [alloc_get]; first | rw [if_pos (by first | (simp; done) | (simp; omega))] | rw [if_neg (by first | (simp; done) | (simp; omega))])); (try rfl))
    have u3 : (((((w18.alloc (.cells #[.int .i64 1, .int .i64 0] 3)).alloc (.cells #[.int .i64 1, .int .i64 1] 3)).alloc (.cells #[.int .i64 1] 3)).alloc (.cells #[.int .i64 0] 3)).alloc (.cells #[.slice (some ⟨w18.heap.size + 1 + 1, 0, none⟩) 1 1, .slice (some ⟨w18.heap.size + 1 + 1 + 1, 0, none⟩) 1 1] 26)).heap[w18.heap.size + 1 + 1 + 1]? = some (.cells #[.int .i64 0] 3 (0, 0)) := (by (repeat (rw [alloc_get]; first | rw [if_pos (by first | (simp; done) | (simp; omega))] | rw [if_neg (by first | (simp; done) | (simp; omega))])); (try rfl))
    have u4 : (((((w18.alloc (.cells #[.int .i64 1, .int .i64 0] 3)).alloc (.cells #[.int .i64 1, .int .i64 1] 3)).alloc (.cells #[.int .i64 1] 3)).alloc (.cells #[.int .i64 0] 3)).alloc (.cells #[.slice (some ⟨w18.heap.size + 1 + 1, 0, none⟩) 1 1, .slice (some ⟨w18.heap.size + 1 + 1 + 1, 0, none⟩) 1 1] 26)).heap[w18.heap.size + 1 + 1 + 1 + 1]? = some (.cells #[.slice (some ⟨w18.heap.size + 1 + 1, 0, none⟩) 1 1, .slice (some ⟨w18.heap.size + 1 + 1 + 1, 0, none⟩) 1 1] 26 (0, 0)) := (by (repeat (rw [alloc_get]; first | rw [if_pos (by first | (simp; done) | (simp; omega))] | rw [if_neg (by first | (simp; done) | (simp; omega))])); (try rfl))
    generalize (((((w18.alloc (.cells #[.int .i64 1, .int .i64 0] 3)).alloc (.cells #[.int .i64 1, .int .i64 1] 3)).alloc (.cells #[.int .i64 1] 3)).alloc (.cells #[.int .i64 0] 3)).alloc (.cells #[.slice (some ⟨w18.heap.size + 1 + 1, 0, none⟩) 1 1, .slice (some ⟨w18.heap.size + 1 + 1 + 1, 0, none⟩) 1 1] 26)) = w19 at *
    replace hx := (hb.block _ (Array.getElem?_eq_some_iff.1 hx).1).trans hx
    replace y7 := (hb.block _ (Array.getElem?_eq_some_iff.1 y7).1).trans y7
    replace x14 := (hb.block _ (Array.getElem?_eq_some_iff.1 x14).1).trans x14
    replace x16 := (hb.block _ (Array.getElem?_eq_some_iff.1 x16).1).trans x16
    replace hG := hG.below hb
    replace hg11 := hg11.below hb
    replace hk11 := hk11.below hb
    replace hBx := hBx.trans (hb.mono hBx.size)
    have hL : IsGame w19 (.agg #[.slice (some ⟨w18.heap.size, 0, none⟩) 2 2, .slice (some ⟨w18.heap.size + 1, 0, none⟩) 2 2, .slice (some ⟨w18.heap.size + 1 + 1 + 1 + 1, 0, none⟩) 2 2]) ⟨[1, 0], [1, 1], [[1], [0]]⟩ := by
      have r2 := ints_lit [1] u2 (by decide) (by simp [I64])
      have r3 := ints_lit [0] u3 (by decide) (by simp [I64])
      refine ⟨_, _, _, rfl, ints_lit [1, 0] u0 (by decide) (by simp [I64]), ints_lit [1, 1] u1 (by decide) (by simp [I64]), rows_lit [[1], [0]] [.slice (some ⟨w18.heap.size + 1 + 1, 0, none⟩) 1 1, .slice (some ⟨w18.heap.size + 1 + 1 + 1, 0, none⟩) 1 1] u4 rfl (by decide) (fun j hj => ?_)⟩
      match j, hj with
      | 0, _ => exact r2
      | 1, _ => exact r3
      | q + 2, h => exact absurd h (by simp)
    clear hb u0 u1 u2 u3 u4 c0 c1 c2
    refine (Same_c _ _ _ _ _ hg11 hL).mono ?_
    rw [decide_eq_true (rfl : (⟨[1, 0], [1, 1], [[1], [0]]⟩ : Gm) = ⟨[1, 0], [1, 1], [[1], [0]]⟩)]
    rintro e w20 ⟨rfl, hb⟩
    replace hx := (hb.block _ (Array.getElem?_eq_some_iff.1 hx).1).trans hx
    replace y7 := (hb.block _ (Array.getElem?_eq_some_iff.1 y7).1).trans y7
    replace x16 := (hb.block _ (Array.getElem?_eq_some_iff.1 x16).1).trans x16
    replace hG := hG.below hb
    replace hk11 := hk11.below hb
    replace hBx := hBx.trans (hb.mono hBx.size)
    clear hb hL hg11 x14
    go_wp2_with fail
    refine ((Ints_c _ _ _ [0, 1] [0, 1] (hk11.below (bel_box _)) (ints_lit [0, 1] (heap_alloc_new _ _) (by decide) (by simp [I64]))).mono fun e w' h => h.calm).mono ?_
    rw [decide_eq_true (rfl : ([0, 1] : List Int) = [0, 1])]
    rintro e w21 ⟨rfl, hb⟩
    replace hb := (bel_box (w := w20) (.cells (([0, 1] : List Int).map (Value.int .i64)).toArray 3)).trans (hb.mono (by simp))
    replace hx := (hb.block _ (Array.getElem?_eq_some_iff.1 hx).1).trans hx
    replace y7 := (hb.block _ (Array.getElem?_eq_some_iff.1 y7).1).trans y7
    replace x16 := (hb.block _ (Array.getElem?_eq_some_iff.1 x16).1).trans x16
    replace hG := hG.below hb
    replace hk11 := hk11.below hb
    replace hBx := hBx.trans (hb.mono hBx.size)
    clear hb
    have c0 := cell_of_row _ _ 0 _ _ _ x16
    have c1 := cell_of_row _ _ 1 _ _ _ x16
    have c2 := cell_of_row _ _ 2 _ _ _ x16
    go_upto_region 11 with (fail)
    clear c0 c1 c2 hk11 x16
    have c0 := cell_of_row _ _ 0 _ _ _ y7
    have c1 := cell_of_row _ _ 1 _ _ _ y7
    have c2 := cell_of_row _ _ 2 _ _ _ y7
    go_wp2_with fail
    refine (AValid_c _ _ exG hG).mono ?_
    rw [ex_v1]
    rintro e w22 ⟨rfl, hb⟩
    replace hx := (hb.block _ (Array.getElem?_eq_some_iff.1 hx).1).trans hx
    replace hBx := hBx.trans (hb.mono hBx.size)
    clear hb c0 c1 c2 hG y7
    go_wp2_with fail
    have hb : Below w22.heap.size w22 ((((w22.alloc (.cells #[.int .i64 0] 3)).alloc (.cells #[.int .i64 0] 3)).alloc (.cells #[] 3)).alloc (.cells #[.slice (some ⟨w22.heap.size + 1 + 1, 0, none⟩) 0 0] 26)) := (by repeat (first | exact Below.refl _ _ | assumption | (refine belA ?_ _) | (refine belD ?_ _)))
    have u0 : ((((w22.alloc (.cells #[.int .i64 0] 3)).alloc (.cells #[.int .i64 0] 3)).alloc (.cells #[] 3)).alloc (.cells #[.slice (some ⟨w22.heap.size + 1 + 1, 0, none⟩) 0 0] 26)).heap[w22.heap.size]? = some (.cells #[.int .i64 0] 3 (0, 0)) := (by (repeat (rw [alloc_get]; first | rw [if_pos (by first | (simp; done) | (simp; omega))] | rw [if_neg (by first | (simp; done) | (simp; omega))])); (try rfl))
    have u1 : ((((w22.alloc (.cells #[.int .i64 0] 3)).alloc (.cells #[.int .i64 0] 3)).alloc (.cells #[] 3)).alloc (.cells #[.slice (some ⟨w22.heap.size + 1 + 1, 0, none⟩) 0 0] 26)).heap[w22.heap.size + 1]? = some (.cells #[.int .i64 0] 3 (0, 0)) := (by (repeat (rw [alloc_get]; first | rw [if_pos (by first | (simp; done) | (simp; omega))] | rw [if_neg (by first | (simp; done) | (simp; omega))])); (try rfl))
    have u2 : ((((w22.alloc (.cells #[.int .i64 0] 3)).alloc (.cells #[.int .i64 0] 3)).alloc (.cells #[] 3)).alloc (.cells #[.slice (some ⟨w22.heap.size + 1 + 1, 0, none⟩) 0 0] 26)).heap[w22.heap.size + 1 + 1]? = some (.cells #[] 3 (0, 0)) := (by (repeat (rw [alloc_get]; first | rw [if_pos (by first | (simp; done) | (simp; omega))] | rw [if_neg (by first | (simp; done) | (simp; omega))])); (try rfl))
    have u3 : ((((w22.alloc (.cells #[.int .i64 0] 3)).alloc (.cells #[.int .i64 0] 3)).alloc (.cells #[] 3)).alloc (.cells #[.slice (some ⟨w22.heap.size + 1 + 1, 0, none⟩) 0 0] 26)).heap[w22.heap.size + 1 + 1 + 1]? = some (.cells #[.slice (some ⟨w22.heap.size + 1 + 1, 0, none⟩) 0 0] 26 (0, 0)) := (by (repeat (rw [alloc_get]; first | rw [if_pos (by first | (simp; done) | (simp; omega))] | rw [if_neg (by first | (simp; done) | (simp; omega))])); (try rfl))
    generalize ((((w22.alloc (.cells #[.int .i64 0] 3)).alloc (.cells #[.int .i64 0] 3)).alloc (.cells #[] 3)).alloc (.cells #[.slice (some ⟨w22.heap.size + 1 + 1, 0, none⟩) 0 0] 26)) = w23 at *
    replace hx := (hb.block _ (Array.getElem?_eq_some_iff.1 hx).1).trans hx
    replace hBx := hBx.trans (hb.mono hBx.size)
    have hL : IsGame w23 (.agg #[.slice (some ⟨w22.heap.size, 0, none⟩) 1 1, .slice (some ⟨w22.heap.size + 1, 0, none⟩) 1 1, .slice (some ⟨w22.heap.size + 1 + 1 + 1, 0, none⟩) 1 1]) ⟨[0], [0], [[]]⟩ := by
      have r2 := ints_lit [] u2 (by decide) (by simp [I64])
      refine ⟨_, _, _, rfl, ints_lit [0] u0 (by decide) (by simp [I64]), ints_lit [0] u1 (by decide) (by simp [I64]), rows_lit [[]] [.slice (some ⟨w22.heap.size + 1 + 1, 0, none⟩) 0 0] u3 rfl (by decide) (fun j hj => ?_)⟩
      obtain rfl : j = 0 := by simp at hj; omega
      exact r2
    clear hb u0 u1 u2 u3
    refine (AValid_c _ _ _ hL).mono ?_
    rw [ex_v2]
    rintro e w24 ⟨rfl, hb⟩
    replace hx := (hb.block _ (Array.getElem?_eq_some_iff.1 hx).1).trans hx
    replace hBx := hBx.trans (hb.mono hBx.size)
    clear hb hL
    have c0 := cell_of_row _ _ 0 _ _ _ hx
    have c1 := cell_of_row _ _ 1 _ _ _ hx
    have c2 := cell_of_row _ _ 2 _ _ _ hx
    have c3 := cell_of_row _ _ 3 _ _ _ hx
    go_wp2_with fail
    refine (PValid_c _ _ exA (ha.below hBx)).mono ?_
    rw [ex_va]
    rintro e w25 ⟨rfl, hb⟩
    replace hBx := hBx.trans (hb.mono hBx.size)
    clear hb c0 c1 c2 c3 hx
    go_wp2_with fail
    refine (Letters_c _ _ exL (hK.below (hB.trans (hBx.mono hB.size))) ⟨_, _, _, _, rfl, hl.below hBx⟩).mono ?_
    rw [ex_le]
    rintro e w26 ⟨rfl, hb⟩
    replace hBx := hBx.trans (hb.mono hBx.size)
    clear hb
    go_wp2_with fail
    refine (WValid_c _ _ ⟨[], [3]⟩ 4 ⟨_, _, rfl, ints_nil _, ints_lit [3] (heap_alloc_new _ _) (by decide) (by simp [I64])⟩).mono ?_
    rw [ex_w]
    rintro e w27 ⟨rfl, hb⟩
    replace hb := (bel_box (w := w26) (.cells #[.int .i64 3] 3)).trans (hb.mono (by simp))
    replace hBx := hBx.trans (hb.mono hBx.size)
    clear hb
    go_wp2_with fail
    go_ret
    exact ⟨rfl, hB.trans (hBx.mono hB.size)⟩

end Go.Proofs.YtjadeffdcbchnaaDoor
