/- What the reference's Same computes. -/
import Derived.Test.YtgjpdnaeldpdeaaWd23
namespace Go.Proofs.Ytgjpdnaeldpdeaa
open Go.RowKit

def WAB (w : World) (a0 a1 a2 a3 : Option Addr) (m0 m1 m2 m3 c0 c1 c2 c3 : Nat) : World :=
  (w.alloc (Obj.cells #[Value.slice a0 m0 c0, Value.slice a1 m1 c1] 24)).alloc (Obj.cells #[Value.slice a2 m2 c2, Value.slice a3 m3 c3] 24)

theorem sameI_eq2 {a b : Ls} (ha : formB a = true) (hb : formB b = true) : sameI a b = decide (normL a = normL b) := by
  unfold sameI; rw [ha, hb]; rfl

set_option maxRecDepth 100000 in
set_option maxHeartbeats 4000000 in
theorem RSame_c (w : World) (va vb : Value) (a b : Ls) (ha : IsLs w va a) (hb : IsLs w vb b) :
    Calls Try.prog 23 #[va, vb] w (Calm (.bool (sameI a b)) w) := by
  have HFA := Lib.hid (fun (W : World) (hW : Below w.heap.size w W) => RFormed_c W va a (ha.below hW))
  have HFB := Lib.hid (fun (W : World) (hW : Below w.heap.size w W) => RFormed_c W vb b (hb.below hW))
  by_cases fa : formB a = true
  case neg =>
    rw [Bool.not_eq_true] at fa
    have HR := Lib.hid (sameI_l (b := b) fa)
    rw [fa] at HFA
    obtain ⟨v0, v1, rfl, h0, h1⟩ := ha
    obtain ⟨⟨a0, c0, b0, o0, rfl, g0⟩, -⟩ := h0
    obtain ⟨⟨a1, c1, b1, o1, rfl, g1⟩, -⟩ := h1
    obtain ⟨v2, v3, rfl, h2, h3⟩ := hb
    obtain ⟨⟨a2, c2, b2, o2, rfl, g2⟩, -⟩ := h2
    obtain ⟨⟨a3, c3, b3, o3, rfl, g3⟩, -⟩ := h3
    clear g0 g1 g2 g3 fa HFB
    generalize sameI a b = r at *
    go_enter Try.func23, Try.ntmps23
    go_upto_region 1 with (fail)
    have hB0 : Below w.heap.size w (WAB w a0 a1 a2 a3 a.stem.length a.loop.length b.stem.length b.loop.length c0 c1 c2 c3) := (by repeat (first | exact Below.refl _ _ | assumption | (refine belA ?_ _) | (refine belD ?_ _)))
    have pA : (WAB w a0 a1 a2 a3 a.stem.length a.loop.length b.stem.length b.loop.length c0 c1 c2 c3).cell? ⟨w.heap.size, 0, none⟩ = some (Value.slice a0 a.stem.length c0) := boxCell 0 (bel_box _) rfl
    have pB : (WAB w a0 a1 a2 a3 a.stem.length a.loop.length b.stem.length b.loop.length c0 c1 c2 c3).cell? ⟨w.heap.size, 1, none⟩ = some (Value.slice a1 a.loop.length c1) := boxCell 1 (bel_box _) rfl
    change Code.wp _ _ _ _ (WAB w a0 a1 a2 a3 a.stem.length a.loop.length b.stem.length b.loop.length c0 c1 c2 c3)
    generalize WAB w a0 a1 a2 a3 a.stem.length a.loop.length b.stem.length b.loop.length c0 c1 c2 c3 = w1 at *
    go_region_with ((go_at_call 30; refine (HFA.out _ (by repeat (first | exact Below.refl _ _ | assumption | (refine belA ?_ _) | (refine belD ?_ _) | (refine Below.drew ?_)))).mono ?_; rintro e w3 ⟨rfl, hb3⟩; have z3 : Below w1.heap.size w1 w3 := (by first | exact hb3 | exact (Below.drew (Below.refl _ _)).trans hb3)))
    all_goals
      go_wp2
      go_ret
      exact ⟨ret_bool HR.out.symm, hB0.trans (z3.mono hB0.size)⟩
  by_cases fb : formB b = true
  case neg =>
    rw [Bool.not_eq_true] at fb
    have HR := Lib.hid (sameI_r (a := a) fb)
    rw [fa] at HFA
    rw [fb] at HFB
    obtain ⟨v0, v1, rfl, h0, h1⟩ := ha
    obtain ⟨⟨a0, c0, b0, o0, rfl, g0⟩, -⟩ := h0
    obtain ⟨⟨a1, c1, b1, o1, rfl, g1⟩, -⟩ := h1
    obtain ⟨v2, v3, rfl, h2, h3⟩ := hb
    obtain ⟨⟨a2, c2, b2, o2, rfl, g2⟩, -⟩ := h2
    obtain ⟨⟨a3, c3, b3, o3, rfl, g3⟩, -⟩ := h3
    clear g0 g1 g2 g3 fa fb
    generalize sameI a b = r at *
    go_enter Try.func23, Try.ntmps23
    go_upto_region 1 with (fail)
    have hB0 : Below w.heap.size w (WAB w a0 a1 a2 a3 a.stem.length a.loop.length b.stem.length b.loop.length c0 c1 c2 c3) := (by repeat (first | exact Below.refl _ _ | assumption | (refine belA ?_ _) | (refine belD ?_ _)))
    have pA : (WAB w a0 a1 a2 a3 a.stem.length a.loop.length b.stem.length b.loop.length c0 c1 c2 c3).cell? ⟨w.heap.size, 0, none⟩ = some (Value.slice a0 a.stem.length c0) := boxCell 0 (bel_box _) rfl
    have pB : (WAB w a0 a1 a2 a3 a.stem.length a.loop.length b.stem.length b.loop.length c0 c1 c2 c3).cell? ⟨w.heap.size, 1, none⟩ = some (Value.slice a1 a.loop.length c1) := boxCell 1 (bel_box _) rfl
    have qA : (WAB w a0 a1 a2 a3 a.stem.length a.loop.length b.stem.length b.loop.length c0 c1 c2 c3).cell? ⟨w.heap.size + 1, 0, none⟩ = some (Value.slice a2 b.stem.length c2) := by simp [WAB]
    have qB : (WAB w a0 a1 a2 a3 a.stem.length a.loop.length b.stem.length b.loop.length c0 c1 c2 c3).cell? ⟨w.heap.size + 1, 1, none⟩ = some (Value.slice a3 b.loop.length c3) := by simp [WAB]
    change Code.wp _ _ _ _ (WAB w a0 a1 a2 a3 a.stem.length a.loop.length b.stem.length b.loop.length c0 c1 c2 c3)
    generalize WAB w a0 a1 a2 a3 a.stem.length a.loop.length b.stem.length b.loop.length c0 c1 c2 c3 = w1 at *
    have tok : True := trivial
    go_region_with (first | (go_at_call 30; have _t := tok; refine (HFA.out _ (by repeat (first | exact Below.refl _ _ | assumption | (refine belA ?_ _) | (refine belD ?_ _) | (refine Below.drew ?_)))).mono ?_; rintro e w3 ⟨rfl, hb3⟩; have z3 : Below w1.heap.size w1 w3 := (by first | exact hb3 | exact (Below.drew (Below.refl _ _)).trans hb3); have qA := cellB z3 qA; have qB := cellB z3 qB; clear tok) | (go_at_call 30; refine (HFB.out _ (hB0.trans (z3.mono hB0.size))).mono ?_; rintro e w4 ⟨rfl, hb4⟩; have z4 : Below w1.heap.size w1 w4 := z3.trans (hb4.mono z3.size)))
    all_goals
      go_wp2
      go_ret
      exact ⟨ret_bool HR.out.symm, hB0.trans (z4.mono hB0.size)⟩
  obtain ⟨s1, s2, s3⟩ := formB_short fa
  obtain ⟨t1, t2, t3⟩ := formB_short fb
  have HR := Lib.hid (sameI_eq2 fa fb)
  have HNA := Lib.hid (fun (W : World) (hW : Below w.heap.size w W) => (Shortest_c W va a (ha.below hW) (by omega) (by omega) (by omega)).mono fun e w' h => h.t)
  have HNB := Lib.hid (fun (W : World) (hW : Below w.heap.size w W) => (Shortest_c W vb b (hb.below hW) (by omega) (by omega) (by omega)).mono fun e w' h => h.t)
  have HEq : Hid (∀ W v v', IsLs W v (normL a) → IsLs W v' (normL b) → Calls Try.prog 19 #[v, v'] W (Calm (.bool (decide (normL a = normL b))) W)) := fun W v v' h h' => Equal_c W v v' _ _ h h'
  rw [fa] at HFA
  rw [fb] at HFB
  obtain ⟨v0, v1, rfl, h0, h1⟩ := ha
  obtain ⟨⟨a0, c0, b0, o0, rfl, g0⟩, -⟩ := h0
  obtain ⟨⟨a1, c1, b1, o1, rfl, g1⟩, -⟩ := h1
  obtain ⟨v2, v3, rfl, h2, h3⟩ := hb
  obtain ⟨⟨a2, c2, b2, o2, rfl, g2⟩, -⟩ := h2
  obtain ⟨⟨a3, c3, b3, o3, rfl, g3⟩, -⟩ := h3
  generalize sameI a b = r at *
  generalize decide (normL a = normL b) = r2 at *
  generalize normL a = na at *
  generalize normL b = nb at *
  clear g0 g1 g2 g3 fa fb
  go_enter Try.func23, Try.ntmps23
  go_upto_region 1 with (fail)
  have hB0 : Below w.heap.size w (WAB w a0 a1 a2 a3 a.stem.length a.loop.length b.stem.length b.loop.length c0 c1 c2 c3) := (by repeat (first | exact Below.refl _ _ | assumption | (refine belA ?_ _) | (refine belD ?_ _)))
  have pA : (WAB w a0 a1 a2 a3 a.stem.length a.loop.length b.stem.length b.loop.length c0 c1 c2 c3).cell? ⟨w.heap.size, 0, none⟩ = some (Value.slice a0 a.stem.length c0) := boxCell 0 (bel_box _) rfl
  have pB : (WAB w a0 a1 a2 a3 a.stem.length a.loop.length b.stem.length b.loop.length c0 c1 c2 c3).cell? ⟨w.heap.size, 1, none⟩ = some (Value.slice a1 a.loop.length c1) := boxCell 1 (bel_box _) rfl
  have qA : (WAB w a0 a1 a2 a3 a.stem.length a.loop.length b.stem.length b.loop.length c0 c1 c2 c3).cell? ⟨w.heap.size + 1, 0, none⟩ = some (Value.slice a2 b.stem.length c2) := by simp [WAB]
  have qB : (WAB w a0 a1 a2 a3 a.stem.length a.loop.length b.stem.length b.loop.length c0 c1 c2 c3).cell? ⟨w.heap.size + 1, 1, none⟩ = some (Value.slice a3 b.loop.length c3) := by simp [WAB]
  change Code.wp _ _ _ _ (WAB w a0 a1 a2 a3 a.stem.length a.loop.length b.stem.length b.loop.length c0 c1 c2 c3)
  generalize WAB w a0 a1 a2 a3 a.stem.length a.loop.length b.stem.length b.loop.length c0 c1 c2 c3 = w1 at *
  have tok : True := trivial
  go_region_with (first | (go_at_call 30; have _t := tok; refine (HFA.out _ (by repeat (first | exact Below.refl _ _ | assumption | (refine belA ?_ _) | (refine belD ?_ _) | (refine Below.drew ?_)))).mono ?_; rintro e w3 ⟨rfl, hb3⟩; have z3 : Below w1.heap.size w1 w3 := (by first | exact hb3 | exact (Below.drew (Below.refl _ _)).trans hb3); have pA := cellB z3 pA; have pB := cellB z3 pB; have qA := cellB z3 qA; have qB := cellB z3 qB; clear tok) | (go_at_call 30; refine (HFB.out _ (hB0.trans (z3.mono hB0.size))).mono ?_; rintro e w4 ⟨rfl, hb4⟩; have z4 : Below w1.heap.size w1 w4 := z3.trans (hb4.mono z3.size); have tok4 : True := trivial; have pA := cellB hb4 pA; have pB := cellB hb4 pB; have qA := cellB hb4 qA; have qB := cellB hb4 qB) | (go_at_call 40; have _t := tok4; refine (HNA.out _ (hB0.trans (z4.mono hB0.size))).mono ?_; rintro e w5 ⟨a5, k5, a6, k6, rfl, i5, i6, b5⟩; have z5 : Below w1.heap.size w1 w5 := z4.trans (b5.mono z4.size); have qA := cellB b5 qA; have qB := cellB b5 qB; clear tok4) | (go_at_call 40; refine (HNB.out _ (hB0.trans (z5.mono hB0.size))).mono ?_; rintro e w6 ⟨a7, k7, a8, k8, rfl, i7, i8, b6⟩; have z6 : Below w1.heap.size w1 w6 := z5.trans (b6.mono z5.size); have j5 := Lib.hid (i5.out.below b6); have j6 := Lib.hid (i6.out.below b6)) | (go_at_call 19; refine (HEq.out _ _ _ (IsLs.mk j5.out j6.out) (IsLs.mk i7.out i8.out)).mono ?_; rintro e w7 ⟨rfl, b7⟩; have z7 : Below w1.heap.size w1 w7 := z6.trans (b7.mono z6.size)))
  all_goals
    go_wp2
    go_ret
    exact ⟨ret_bool HR.out.symm, hB0.trans (z7.mono hB0.size)⟩

end Go.Proofs.Ytgjpdnaeldpdeaa
