/- What Same computes. -/
import Derived.Test.YtgjpdnaeldpdeaaWd17
import Derived.Test.YtgjpdnaeldpdeaaWd7
namespace Go.Proofs.Ytgjpdnaeldpdeaa
open Go.RowKit

theorem four_set {wr : World} {p q : Nat} {t : TypeId} {x0 x1 y0 y1 a b c d : Value} (hne : p ≠ q) (h1 : wr.heap[p]? = some (.cells #[x0, x1] t (0, 0))) (h2 : wr.heap[q]? = some (.cells #[y0, y1] t (0, 0))) :
    ((((wr.setCell ⟨p, 0, none⟩ a).setCell ⟨p, 1, none⟩ b).setCell ⟨q, 0, none⟩ c).setCell ⟨q, 1, none⟩ d).heap[p]? = some (.cells #[a, b] t (0, 0)) ∧
    ((((wr.setCell ⟨p, 0, none⟩ a).setCell ⟨p, 1, none⟩ b).setCell ⟨q, 0, none⟩ c).setCell ⟨q, 1, none⟩ d).heap[q]? = some (.cells #[c, d] t (0, 0)) := by
  have k1 := two_set (a := a) (b := b) h1
  have k2 : ((wr.setCell ⟨p, 0, none⟩ a).setCell ⟨p, 1, none⟩ b).heap[q]? = some (.cells #[y0, y1] t (0, 0)) := by
    rw [heap_setCell_other _ _ _ _ (by exact fun e => hne e.symm), heap_setCell_other _ _ _ _ (by exact fun e => hne e.symm)]; exact h2
  refine ⟨?_, two_set k2⟩
  rw [heap_setCell_other _ _ _ _ (by exact hne), heap_setCell_other _ _ _ _ (by exact hne)]
  exact k1

/-- Both lassos stand for their normal ones in their boxes. -/
def NormTwo (na nb : Ls) (w wx : World) : Prop :=
  ∃ a5 k5 a6 k6 a7 k7 a8 k8, wx.heap[w.heap.size]? = some (Obj.cells #[Value.slice a5 na.stem.length k5, Value.slice a6 na.loop.length k6] 24 (0, 0)) ∧ wx.heap[w.heap.size + 1]? = some (Obj.cells #[Value.slice a7 nb.stem.length k7, Value.slice a8 nb.loop.length k8] 24 (0, 0)) ∧
    IsInts wx (Value.slice a5 na.stem.length k5) na.stem ∧ IsInts wx (Value.slice a6 na.loop.length k6) na.loop ∧ IsInts wx (Value.slice a7 nb.stem.length k7) nb.stem ∧ IsInts wx (Value.slice a8 nb.loop.length k8) nb.loop ∧ Below w.heap.size w wx

theorem normTwo {na nb : Ls} {w wr : World} {a0 a1 a2 a3 a5 a6 a7 a8 : Option Addr} {m0 m1 m2 m3 c0 c1 c2 c3 k5 k6 k7 k8 : Nat} (h1 : wr.heap[w.heap.size]? = some (Obj.cells #[Value.slice a0 m0 c0, Value.slice a1 m1 c1] 24 (0, 0))) (h2 : wr.heap[w.heap.size + 1]? = some (Obj.cells #[Value.slice a2 m2 c2, Value.slice a3 m3 c3] 24 (0, 0)))
    (i5 : IsInts wr (Value.slice a5 na.stem.length k5) na.stem) (i6 : IsInts wr (Value.slice a6 na.loop.length k6) na.loop) (i7 : IsInts wr (Value.slice a7 nb.stem.length k7) nb.stem) (i8 : IsInts wr (Value.slice a8 nb.loop.length k8) nb.loop) (hb : Below w.heap.size w wr) :
    NormTwo na nb w ((((wr.setCell ⟨w.heap.size, 0, none⟩ (Value.slice a5 na.stem.length k5)).setCell ⟨w.heap.size, 1, none⟩ (Value.slice a6 na.loop.length k6)).setCell ⟨w.heap.size + 1, 0, none⟩ (Value.slice a7 nb.stem.length k7)).setCell ⟨w.heap.size + 1, 1, none⟩ (Value.slice a8 nb.loop.length k8)) := by
  have k2 : ((wr.setCell ⟨w.heap.size, 0, none⟩ (Value.slice a5 na.stem.length k5)).setCell ⟨w.heap.size, 1, none⟩ (Value.slice a6 na.loop.length k6)).heap[w.heap.size + 1]? = some (.cells #[Value.slice a2 m2 c2, Value.slice a3 m3 c3] 24 (0, 0)) := by
    rw [heap_setCell_other _ _ _ _ (by simp), heap_setCell_other _ _ _ _ (by simp)]; exact h2
  obtain ⟨f1, f2⟩ := four_set (a := Value.slice a5 na.stem.length k5) (b := Value.slice a6 na.loop.length k6) (c := Value.slice a7 nb.stem.length k7) (d := Value.slice a8 nb.loop.length k8) (by omega : w.heap.size ≠ w.heap.size + 1) h1 h2
  exact ⟨a5, k5, a6, k6, a7, k7, a8, k8, f1, f2, (i5.setTwo h1).setTwo k2, (i6.setTwo h1).setTwo k2, (i7.setTwo h1).setTwo k2, (i8.setTwo h1).setTwo k2, below_two (below_two hb (Nat.le_refl _)) (by omega)⟩

theorem sameI_l {a b : Ls} (h : formB a = false) : sameI a b = false := by unfold sameI; rw [h]; rfl
theorem sameI_r {a b : Ls} (h : formB b = false) : sameI a b = false := by unfold sameI; rw [h, Bool.and_false]; rfl
theorem sameI_eq {a b : Ls} (ha : formB a = true) (hb : formB b = true) : sameI a b = (decide ((normL a).stem = (normL b).stem) && decide ((normL a).loop = (normL b).loop)) := by
  unfold sameI
  rw [ha, hb]
  rw [Bool.eq_iff_iff]
  simp only [Bool.true_and, decide_eq_true_eq, Bool.and_eq_true]
  exact ⟨fun h => by rw [h]; exact ⟨rfl, rfl⟩, fun h => by cases h3 : normL a; cases h4 : normL b; rw [h3, h4] at h; simp at h; simp [h]⟩

set_option maxRecDepth 100000 in
set_option maxHeartbeats 4000000 in
theorem Same_c (w : World) (va vb : Value) (a b : Ls) (ha : IsLs w va a) (hb : IsLs w vb b) :
    Calls Try.prog 22 #[va, vb] w (Calm (.bool (sameI a b)) w) := by
  have HFA := Lib.hid (fun (W : World) (hW : Below w.heap.size w W) => formed_c W va a (ha.below hW))
  have HFB := Lib.hid (fun (W : World) (hW : Below w.heap.size w W) => formed_c W vb b (hb.below hW))
  by_cases fa : formB a = true
  case neg =>
    rw [Bool.not_eq_true] at fa
    have HR := Lib.hid (sameI_l (b := b) fa)
    rw [fa] at HFA
    obtain ⟨v0, v1, rfl, h0, h1⟩ := ha
    obtain ⟨⟨a0, c0, b0, o0, rfl, g0⟩, -⟩ := h0
    obtain ⟨⟨a1, c1, b1, o1, rfl, g1⟩, -⟩ := h1
    obtain ⟨v2, v3, rfl, h2, h3⟩ := hb
    obtain ⟨⟨a2, c2, b2, o2, rfl, g2⟩, -⟩ := h2
    obtain ⟨⟨a3, c3, b3, o3, rfl, g3⟩, -⟩ := h3
    clear g0 g1 g2 g3 fa
    go_enter Try.func22, Try.ntmps22
    go_wp2_with fail
    refine (HFA.out _ (by repeat (first | exact Below.refl _ _ | assumption | (refine belA ?_ _) | (refine belD ?_ _)))).mono ?_
    rintro e w2 ⟨rfl, hb2⟩
    go_wp2
    go_ret
    exact ⟨ret_bool HR.out.symm, (belA (bel_box _) _).trans (hb2.mono (by simp; omega))⟩
  by_cases fb : formB b = true
  case neg =>
    rw [Bool.not_eq_true] at fb
    have HR := Lib.hid (sameI_r (a := a) fb)
    rw [fa] at HFA
    rw [fb] at HFB
    obtain ⟨v0, v1, rfl, h0, h1⟩ := ha
    obtain ⟨⟨a0, c0, b0, o0, rfl, g0⟩, -⟩ := h0
    obtain ⟨⟨a1, c1, b1, o1, rfl, g1⟩, -⟩ := h1
    obtain ⟨v2, v3, rfl, h2, h3⟩ := hb
    obtain ⟨⟨a2, c2, b2, o2, rfl, g2⟩, -⟩ := h2
    obtain ⟨⟨a3, c3, b3, o3, rfl, g3⟩, -⟩ := h3
    clear g0 g1 g2 g3 fa fb
    go_enter Try.func22, Try.ntmps22
    go_wp2_with fail
    refine (HFA.out _ (by repeat (first | exact Below.refl _ _ | assumption | (refine belA ?_ _) | (refine belD ?_ _)))).mono ?_
    rintro e w2 ⟨rfl, hb2⟩
    have hB2 := ((belA (bel_box _) _).trans (hb2.mono (by simp; omega)) : Below w.heap.size w w2)
    have cA : w2.cell? ⟨w.heap.size + 1, 0, none⟩ = some (Value.slice a2 b.stem.length c2) := by have := boxCell (w := w.alloc (Obj.cells #[Value.slice a0 a.stem.length c0, Value.slice a1 a.loop.length c1] 24)) 0 hb2 rfl; simpa using this
    have cB : w2.cell? ⟨w.heap.size + 1, 1, none⟩ = some (Value.slice a3 b.loop.length c3) := by have := boxCell (w := w.alloc (Obj.cells #[Value.slice a0 a.stem.length c0, Value.slice a1 a.loop.length c1] 24)) 1 hb2 rfl; simpa using this
    clear hb2
    go_wp2_with fail
    refine (HFB.out _ hB2).mono ?_
    rintro e w3 ⟨rfl, hb3⟩
    go_wp2
    go_ret
    exact ⟨ret_bool HR.out.symm, hB2.trans (hb3.mono hB2.size)⟩
  obtain ⟨s1, s2, s3⟩ := formB_short fa
  obtain ⟨t1, t2, t3⟩ := formB_short fb
  have HR := Lib.hid (sameI_eq fa fb)
  have HNA := Lib.hid (fun (W : World) (hW : Below w.heap.size w W) => (normal_c W va a (ha.below hW) (by omega) (by omega) (by omega)).mono fun e w' h => h.t)
  have HNB := Lib.hid (fun (W : World) (hW : Below w.heap.size w W) => (normal_c W vb b (hb.below hW) (by omega) (by omega) (by omega)).mono fun e w' h => h.t)
  rw [fa] at HFA
  rw [fb] at HFB
  obtain ⟨v0, v1, rfl, h0, h1⟩ := ha
  obtain ⟨⟨a0, c0, b0, o0, rfl, g0⟩, -⟩ := h0
  obtain ⟨⟨a1, c1, b1, o1, rfl, g1⟩, -⟩ := h1
  obtain ⟨v2, v3, rfl, h2, h3⟩ := hb
  obtain ⟨⟨a2, c2, b2, o2, rfl, g2⟩, -⟩ := h2
  obtain ⟨⟨a3, c3, b3, o3, rfl, g3⟩, -⟩ := h3
  generalize sameI a b = r at *
  generalize normL a = na at *
  generalize normL b = nb at *
  clear g0 g1 g2 g3 fa fb
  go_enter Try.func22, Try.ntmps22
  go_wp2_with fail
  refine (HFA.out _ (by repeat (first | exact Below.refl _ _ | assumption | (refine belA ?_ _) | (refine belD ?_ _)))).mono ?_
  rintro e w2 ⟨rfl, hb2⟩
  have hB2 := ((belA (bel_box _) _).trans (hb2.mono (by simp; omega)) : Below w.heap.size w w2)
  have rA : w2.heap[w.heap.size]? = some (Obj.cells #[Value.slice a0 a.stem.length c0, Value.slice a1 a.loop.length c1] 24) := (hb2.block _ (by simp; omega)).trans ((heap_alloc_old _ _ (by simp)).trans (heap_alloc_new _ _))
  have rB : w2.heap[w.heap.size + 1]? = some (Obj.cells #[Value.slice a2 b.stem.length c2, Value.slice a3 b.loop.length c3] 24) := (hb2.block _ (by simp)).trans (by have := heap_alloc_new (w.alloc (Obj.cells #[Value.slice a0 a.stem.length c0, Value.slice a1 a.loop.length c1] 24)) (Obj.cells #[Value.slice a2 b.stem.length c2, Value.slice a3 b.loop.length c3] 24); simpa using this)
  clear hb2
  obtain ⟨pA, pB, -, -⟩ := boxF rA
  obtain ⟨qA, qB, -, -⟩ := boxF rB
  go_wp2_with fail
  refine (HFB.out _ hB2).mono ?_
  rintro e w3 ⟨rfl, hb3⟩
  have hB3 := hB2.trans (hb3.mono hB2.size)
  have hz2 : w.heap.size + 1 < w2.heap.size := (Array.getElem?_eq_some_iff.1 rB).1
  have pA := cellB hb3 pA
  have pB := cellB hb3 pB
  have qA := cellB hb3 qA
  have qB := cellB hb3 qB
  have RA := Lib.hid ((hb3.block _ (by omega : w.heap.size < w2.heap.size)).trans rA)
  have RB := Lib.hid ((hb3.block _ hz2).trans rB)
  have hz3 : w.heap.size + 1 < w3.heap.size := (Array.getElem?_eq_some_iff.1 RB.out).1
  clear hb3 rA rB
  go_upto_region 3 with (fail)
  go_cut [] (fun wx => NormTwo na nb w wx)
  case first =>
    go_region_with (first | (go_at_call_of 39 (Value.agg #[Value.slice a0 a.stem.length c0, Value.slice a1 a.loop.length c1]); refine (HNA.out _ (by repeat (first | exact Below.refl _ _ | assumption | (refine belA ?_ _) | (refine belD ?_ _) | (refine Below.drew ?_)))).mono ?_; rintro e w5 ⟨a5, k5, a6, k6, rfl, i5, i6, b5⟩; have z5 : Below w3.heap.size w3 w5 := (by first | exact b5 | exact (Below.drew (Below.refl _ _)).trans b5); have qA := cellB z5 qA; have qB := cellB z5 qB) | (go_at_call 39; refine (HNB.out _ (hB3.trans (z5.mono hB3.size))).mono ?_; rintro e w6 ⟨a7, k7, a8, k8, rfl, i7, i8, b6⟩; have z6 : Below w3.heap.size w3 w6 := z5.trans (b6.mono z5.size); have RA6 := Lib.hid ((z6.block _ (by omega : w.heap.size < w3.heap.size)).trans RA.out); have RB6 := Lib.hid ((z6.block _ hz3).trans RB.out); obtain ⟨x0, x1, y0, y1⟩ := boxF RA6.out; obtain ⟨x2, x3, y2, y3⟩ := boxF RB6.out))
    all_goals go_wp2_with fail
    all_goals
      go_meet
      case rel => exact normTwo RA6.out RB6.out (i5.out.below b6) (i6.out.below b6) i7.out i8.out (hB3.trans (z6.mono hB3.size))
  case rest =>
    obtain ⟨a5, k5, a6, k6, a7, k7, a8, k8, rA, rB, i5, i6, i7, i8, hB⟩ := hcut
    have HE0 := Lib.hid (fun (W : World) (hW : Below wc.heap.size wc W) => SEqual_c W _ _ _ _ (i5.below hW) (i7.below hW))
    have HE1 := Lib.hid (fun (W : World) (hW : Below wc.heap.size wc W) => SEqual_c W _ _ _ _ (i6.below hW) (i8.below hW))
    obtain ⟨pA, pB, -, -⟩ := boxF rA
    obtain ⟨qA, qB, -, -⟩ := boxF rB
    clear rA rB i5 i6 i7 i8
    generalize decide (na.stem = nb.stem) = p at *
    generalize decide (na.loop = nb.loop) = q at *
    go_wp2_with fail
    refine (HE0.out _ (Below.refl _ _)).mono ?_
    rintro e w5 ⟨rfl, m, rfl⟩
    cases p with
    | false =>
      go_wp2
      go_ret
      exact ⟨ret_bool (by rw [HR.out]; rfl), belD hB _⟩
    | true =>
      go_wp2_with fail
      refine (HE1.out _ (below_draws _ _ _)).mono ?_
      rintro e w6 ⟨rfl, m2, rfl⟩
      go_wp2
      go_ret
      exact ⟨ret_bool (by rw [HR.out]; rfl), belD hB _⟩

end Go.Proofs.Ytgjpdnaeldpdeaa
