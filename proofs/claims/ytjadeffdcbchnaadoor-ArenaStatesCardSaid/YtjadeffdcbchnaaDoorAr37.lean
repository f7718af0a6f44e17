/- The law ArenaMatchesReference: its walk. -/
import Derived.Test.YtjadeffdcbchnaaDoorAr29
import Derived.Test.YtjadeffdcbchnaaDoorAr35
import Derived.Test.YtjadeffdcbchnaaDoorAr36
import Derived.Test.YtjadeffdcbchnaaDoorAr26
namespace Go.Proofs.YtjadeffdcbchnaaDoor
open Go.RowKit

theorem IsAuto.shape {w : World} {v : Value} {a : Au} (h : IsAuto w v a) : ∃ p2 n2 k2 p3 n3 k3, v = .agg #[.int .i64 a.letters, .int .i64 a.start, .slice p2 n2 k2, .slice p3 n3 k3] := by
  obtain ⟨v2, v3, rfl, -, ⟨V2, ⟨a2, c2, b2, o2, rfl, -⟩, -⟩, ⟨V3, ⟨a3, c3, b3, o3, rfl, -⟩, -⟩⟩ := h
  exact ⟨_, _, _, _, _, _, rfl⟩
theorem small_rows' {g : Gm} {m : Int} (h : smallB g m = true) : ∀ i, (g.succ.getD i []).length ≤ 1000 := fun i => by
  simp only [smallB, Bool.and_eq_true, List.all_eq_true, decide_eq_true_eq] at h
  by_cases hi : i < g.succ.length
  · rw [getD_lt _ _ _ hi]; have := h.2 _ (List.getElem_mem hi); omega
  · rw [List.getD, List.getElem?_eq_none (by omega)]; simp

def RM (sg : Gm) (er : Int) (vv : Bool) (g0 g1 g2 : Option Addr) (g0n g0c g1n g1c g2n g2c : Nat) (a0 a1 a2 : Option Addr) (a0n a0c a1n a1c a2n a2c : Nat) (b0 b1 b2 : Option Addr) (b0n b0c b1n b1c b2n b2c : Nat) (c0 c1 c2 : Option Addr) (c0n c0c c1n c1c c2n c2c : Nat) (d0 d1 d2 : Option Addr) (d0n d0c d1n d1c d2n d2c : Nat) (vp vq vk vl' : Value) (ix : Nat) (u : Value) (W : World) : Prop :=
  match ix with
  | 0 => u = .bool true
  | 1 => u = .bool true
  | 2 => u = .int .i64 er
  | 3 => u = .int .i64 er
  | 4 => u = .bool true
  | 5 => u = .bool true
  | 6 => u = .bool true
  | 7 => u = .agg #[.slice a0 a0n a0c, .slice a1 a1n a1c, .slice a2 a2n a2c]
  | 8 => u = .agg #[.slice b0 b0n b0c, .slice b1 b1n b1c, .slice b2 b2n b2c]
  | 9 => u = .bool true
  | 10 => u = .bool true
  | 11 => u = .bool true
  | 12 => u = vp
  | 13 => u = vq
  | 14 => u = .bool true
  | 15 => u = .bool true
  | 16 => u = .bool true
  | 17 => u = .agg #[.slice g0 g0n g0c, .slice g1 g1n g1c, .slice g2 g2n g2c]
  | 18 => u = .bool vv
  | 19 => u = .agg #[.slice g0 g0n g0c, .slice g1 g1n g1c, .slice g2 g2n g2c]
  | 20 => u = .bool vv
  | 21 => u = .bool true
  | 22 => u = .bool true
  | 23 => u = .bool true
  | 24 => u = .agg #[.slice g0 g0n g0c, .slice g1 g1n g1c, .slice g2 g2n g2c]
  | 25 => IsGame W u sg
  | 26 => u = .agg #[.slice g0 g0n g0c, .slice g1 g1n g1c, .slice g2 g2n g2c]
  | 27 => IsGame W u sg
  | 28 => u = .bool true
  | 29 => u = .bool true
  | 30 => u = .bool true
  | 31 => u = .agg #[.slice c0 c0n c0c, .slice c1 c1n c1c, .slice c2 c2n c2c]
  | 32 => u = .agg #[.slice d0 d0n d0c, .slice d1 d1n d1c, .slice d2 d2n d2c]
  | 33 => u = .bool true
  | 34 => u = .bool true
  | 35 => u = .bool true
  | 36 => u = vk
  | 37 => u = vl'
  | 38 => u = .bool true
  | 39 => u = .bool true
  | 40 => u = .bool true
  | _ => True
theorem RM.below {ix : Nat} {u : Value} {W W' : World} {sg : Gm} {er : Int} {vv : Bool} {g0 g1 g2 : Option Addr} {g0n g0c g1n g1c g2n g2c : Nat} {a0 a1 a2 : Option Addr} {a0n a0c a1n a1c a2n a2c : Nat} {b0 b1 b2 : Option Addr} {b0n b0c b1n b1c b2n b2c : Nat} {c0 c1 c2 : Option Addr} {c0n c0c c1n c1c c2n c2c : Nat} {d0 d1 d2 : Option Addr} {d0n d0c d1n d1c d2n d2c : Nat} {vp vq vk vl' : Value} (h : RM sg er vv g0 g1 g2 g0n g0c g1n g1c g2n g2c a0 a1 a2 a0n a0c a1n a1c a2n a2c b0 b1 b2 b0n b0c b1n b1c b2n b2c c0 c1 c2 c0n c0c c1n c1c c2n c2c d0 d1 d2 d0n d0c d1n d1c d2n d2c vp vq vk vl' ix u W) (hb : Below W.heap.size W W') : RM sg er vv g0 g1 g2 g0n g0c g1n g1c g2n g2c a0 a1 a2 a0n a0c a1n a1c a2n a2c b0 b1 b2 b0n b0c b1n b1c b2n b2c c0 c1 c2 c0n c0c c1n c1c c2n c2c d0 d1 d2 d0n d0c d1n d1c d2n d2c vp vq vk vl' ix u W' := by
  unfold RM at *
  split at h <;> first | exact h | trivial | exact IsGame.below h hb

set_option maxRecDepth 100000 in
set_option maxHeartbeats 8000000 in
theorem Match_walk (w : World) (vl va vg vs : Value) (l : List Sig) (a : Au) (n : Int) (gm : Gm) (s : List Bool) (hK : Keys w) (hl : IsSigs w vl l) (ha : IsAuto w va a) (hn : 0 ≤ n ∧ n ≤ 255) (hg : IsGame w vg gm) (hs : IsBools w vs s) :
    Calls Tryd.prog 3 #[vl, va, .int .u8 n, vg, vs] w (Calm (.bool true) w) := by
  have hmx : Tryd.prog.follows .mixedOrders = true := by kernel_rfl
  obtain ⟨p2, n2, k2, p3, n3, k3, rfl⟩ := ha.shape
  obtain ⟨g0, g0n, g0c, g1, g1n, g1c, g2, g2n, g2c, rfl⟩ := hg.shape
  obtain ⟨as', cs, bs, os, rfl, hs'⟩ := id hs
  have hsn := hs'.nb
  clear hs'
  have hq1 : IntKind.i64.wrap n = n := IntWalk.i64_in _ ⟨by omega, by omega⟩
  have hq2 : IntKind.i64.wrap (n * 4) = n * 4 := IntWalk.i64_in _ ⟨by omega, by omega⟩
  go_enter Tryd.func3, Tryd.ntmps3
  go_upto_region 1 with (fail)
  obtain ⟨hx, hz, hB⟩ : ((w.alloc (.cells #[.int .i64 a.letters, .int .i64 a.start, .slice p2 n2 k2, .slice p3 n3 k3] 25)).alloc (.cells #[.slice g0 g0n g0c, .slice g1 g1n g1c, .slice g2 g2n g2c] 28)).heap[w.heap.size]? = some (.cells #[.int .i64 a.letters, .int .i64 a.start, .slice p2 n2 k2, .slice p3 n3 k3] 25 (0, 0)) ∧ ((w.alloc (.cells #[.int .i64 a.letters, .int .i64 a.start, .slice p2 n2 k2, .slice p3 n3 k3] 25)).alloc (.cells #[.slice g0 g0n g0c, .slice g1 g1n g1c, .slice g2 g2n g2c] 28)).heap[w.heap.size + 1]? = some (.cells #[.slice g0 g0n g0c, .slice g1 g1n g1c, .slice g2 g2n g2c] 28 (0, 0)) ∧ Below w.heap.size w ((w.alloc (.cells #[.int .i64 a.letters, .int .i64 a.start, .slice p2 n2 k2, .slice p3 n3 k3] 25)).alloc (.cells #[.slice g0 g0n g0c, .slice g1 g1n g1c, .slice g2 g2n g2c] 28)) := ⟨(by (repeat (rw [alloc_get]; first | rw [if_pos (by first | (simp; done) | (simp; omega))] | rw [if_neg (by first | (simp; done) | (simp; omega))])); (try rfl)), (by (repeat (rw [alloc_get]; first | rw [if_pos (by first | (simp; done) | (simp; omega))] | rw [if_neg (by first | (simp; done) | (simp; omega))])); (try rfl)), (by repeat (first | exact Below.refl _ _ | assumption | (refine belA ?_ _) | (refine belD ?_ _)))⟩
  replace hl := hl.below hB
  replace ha := ha.below hB
  replace hg := hg.below hB
  replace hs := hs.below hB
  replace hK := hK.below hB
  generalize (w.alloc (.cells #[.int .i64 a.letters, .int .i64 a.start, .slice p2 n2 k2, .slice p3 n3 k3] 25)).alloc (.cells #[.slice g0 g0n g0c, .slice g1 g1n g1c, .slice g2 g2n g2c] 28) = w1 at *
  have HE : Hid (∀ W, Below w1.heap.size w1 W → Calm (.bool true) w (.returned (.bool true)) W) := fun W h => ⟨rfl, hB.trans (h.mono hB.size)⟩
  clear hB
  generalize w.heap.size + 1 = zg at *
  generalize w.heap.size = za at *
  go_wp2_with fail
  refine (head_c _ hK).mono ?_
  rintro e w2 ⟨rfl, hb⟩
  replace hx := (hb.block _ (Array.getElem?_eq_some_iff.1 hx).1).trans hx
  replace hz := (hb.block _ (Array.getElem?_eq_some_iff.1 hz).1).trans hz
  replace hl := hl.below hb
  replace ha := ha.below hb
  replace hg := hg.below hb
  replace hs := hs.below hb
  replace hK := hK.below hb
  go_wp2_with fail
  refine (SmallS_c _ _ l hl).mono ?_
  rintro e w3 ⟨rfl, hw3⟩
  subst hw3
  cases hs1 : smallS l
  · go_wp2_with fail
    go_ret
    exact HE.out _ hb
  have c0 := cell_of_row _ _ 0 _ _ _ hx
  have c1 := cell_of_row _ _ 1 _ _ _ hx
  have c2 := cell_of_row _ _ 2 _ _ _ hx
  have c3 := cell_of_row _ _ 3 _ _ _ hx
  go_wp2_with fail
  refine (PSmall_c _ _ a ha).mono ?_
  rintro e w4 ⟨rfl, hb3⟩
  replace hx := (hb3.block _ (Array.getElem?_eq_some_iff.1 hx).1).trans hx
  replace hz := (hb3.block _ (Array.getElem?_eq_some_iff.1 hz).1).trans hz
  replace hl := hl.below hb3
  replace ha := ha.below hb3
  replace hg := hg.below hb3
  replace hs := hs.below hb3
  replace hK := hK.below hb3
  replace hb := hb.trans (hb3.mono hb.size)
  clear c0 c1 c2 c3 hb3
  cases hs2 : smallA a
  · go_wp2_with fail
    go_ret
    exact HE.out _ hb
  have d0 := cell_of_row _ _ 0 _ _ _ hz
  have d1 := cell_of_row _ _ 1 _ _ _ hz
  have d2 := cell_of_row _ _ 2 _ _ _ hz
  go_wp2_with fail
  refine (Small_c _ _ gm 100 hg).mono ?_
  rintro e w5 ⟨rfl, hb3⟩
  replace hx := (hb3.block _ (Array.getElem?_eq_some_iff.1 hx).1).trans hx
  replace hz := (hb3.block _ (Array.getElem?_eq_some_iff.1 hz).1).trans hz
  replace hl := hl.below hb3
  replace ha := ha.below hb3
  replace hg := hg.below hb3
  replace hs := hs.below hb3
  replace hK := hK.below hb3
  replace hb := hb.trans (hb3.mono hb.size)
  clear d0 d1 d2 hb3
  cases hs3 : smallB gm 100
  · go_wp2_with fail
    go_ret
    exact HE.out _ hb
  have hROW := small_rows' hs3
  clear hs1 hs2 hs3
  by_cases h120 : s.length ≤ 120
  case neg =>
    have hgt : decide ((s.length : Int) > 120) = true := decide_eq_true (by omega)
    go_wp2_with fail
    go_ret
    exact HE.out _ hb
  have hgt : decide ((s.length : Int) > 120) = false := decide_eq_false (by omega)
  have c0 := cell_of_row _ _ 0 _ _ _ hx
  have c1 := cell_of_row _ _ 1 _ _ _ hx
  have c2 := cell_of_row _ _ 2 _ _ _ hx
  have c3 := cell_of_row _ _ 3 _ _ _ hx
  have HROW := Lib.hid hROW
  clear hROW hsn
  obtain ⟨r, hr⟩ : ∃ r, buildE a l (n * 4) = r := ⟨_, rfl⟩
  have HR := Lib.hid hr
  clear hr
  go_wp2_with fail
  refine (Build_c _ _ _ l a (n * 4) hK hl ha).mono ?_
  rintro e w6 ⟨va6, vp, rfl, hA, hP, hb3⟩
  rw [HR.out] at hA hP ⊢
  obtain ⟨a0, a0n, a0c, a1, a1n, a1c, a2, a2n, a2c, rfl⟩ := hA.shape
  replace hx := (hb3.block _ (Array.getElem?_eq_some_iff.1 hx).1).trans hx
  replace hz := (hb3.block _ (Array.getElem?_eq_some_iff.1 hz).1).trans hz
  replace hl := hl.below hb3
  replace ha := ha.below hb3
  replace hg := hg.below hb3
  replace hs := hs.below hb3
  replace hK := hK.below hb3
  replace hb := hb.trans (hb3.mono hb.size)
  clear c0 c1 c2 c3 hb3
  go_upto_region 6 with (fail)
  obtain ⟨xa, hb3, -⟩ := box_new hb hb.size #[.slice a0 a0n a0c, .slice a1 a1n a1c, .slice a2 a2n a2c] 28
  replace hx := (hb3.block _ (Array.getElem?_eq_some_iff.1 hx).1).trans hx
  replace hz := (hb3.block _ (Array.getElem?_eq_some_iff.1 hz).1).trans hz
  replace hl := hl.below hb3
  replace ha := ha.below hb3
  replace hg := hg.below hb3
  replace hs := hs.below hb3
  replace hK := hK.below hb3
  replace hA := hA.below hb3
  replace hP := hP.below hb3
  replace hb := hb.trans (hb3.mono hb.size)
  clear hb3
  generalize w6.alloc (.cells #[.slice a0 a0n a0c, .slice a1 a1n a1c, .slice a2 a2n a2c] 28) = w7 at *
  generalize w6.heap.size = ya at *
  have c0 := cell_of_row _ _ 0 _ _ _ hx
  have c1 := cell_of_row _ _ 1 _ _ _ hx
  have c2 := cell_of_row _ _ 2 _ _ _ hx
  have c3 := cell_of_row _ _ 3 _ _ _ hx
  go_wp2_with fail
  refine (RBuild_c _ _ _ l a (n * 4) hl ha).mono ?_
  rintro e w8 ⟨vb8, vq, rfl, hBg, hQ, hb3⟩
  rw [HR.out] at hBg hQ ⊢
  obtain ⟨b0, b0n, b0c, b1, b1n, b1c, b2, b2n, b2c, rfl⟩ := hBg.shape
  replace hx := (hb3.block _ (Array.getElem?_eq_some_iff.1 hx).1).trans hx
  replace hz := (hb3.block _ (Array.getElem?_eq_some_iff.1 hz).1).trans hz
  replace xa := (hb3.block _ (Array.getElem?_eq_some_iff.1 xa).1).trans xa
  replace hl := hl.below hb3
  replace ha := ha.below hb3
  replace hg := hg.below hb3
  replace hs := hs.below hb3
  replace hK := hK.below hb3
  replace hA := hA.below hb3
  replace hP := hP.below hb3
  replace hb := hb.trans (hb3.mono hb.size)
  clear c0 c1 c2 c3 hb3
  go_upto_region 7 with (fail)
  obtain ⟨xb, hb3, -⟩ := box_new hb hb.size #[.slice b0 b0n b0c, .slice b1 b1n b1c, .slice b2 b2n b2c] 28
  replace hx := (hb3.block _ (Array.getElem?_eq_some_iff.1 hx).1).trans hx
  replace hz := (hb3.block _ (Array.getElem?_eq_some_iff.1 hz).1).trans hz
  replace xa := (hb3.block _ (Array.getElem?_eq_some_iff.1 xa).1).trans xa
  replace hg := hg.below hb3
  replace hs := hs.below hb3
  replace hA := hA.below hb3
  replace hP := hP.below hb3
  replace hBg := hBg.below hb3
  replace hQ := hQ.below hb3
  replace hb := hb.trans (hb3.mono hb.size)
  clear hb3 hl ha hK hx
  generalize w8.alloc (.cells #[.slice b0 b0n b0c, .slice b1 b1n b1c, .slice b2 b2n b2c] 28) = w9 at *
  generalize w8.heap.size = yb at *
  clear HR
  generalize hR0 : r.1 = rG at *
  generalize hR1 : r.2.1 = rP at *
  generalize r.2.2 = er at *
  clear hR0 hR1 hq1 hq2 hgt h120
  have d0 := cell_of_row _ _ 0 _ _ _ hz
  have d1 := cell_of_row _ _ 1 _ _ _ hz
  have d2 := cell_of_row _ _ 2 _ _ _ hz
  go_wp2_with fail
  refine (Part_c _ _ _ gm s hg hs HROW.out).mono ?_
  rintro e w10 ⟨vc10, vk, rfl, hC, hV, hb3⟩
  obtain ⟨c0, c0n, c0c, c1, c1n, c1c, c2, c2n, c2c, rfl⟩ := hC.shape
  replace hz := (hb3.block _ (Array.getElem?_eq_some_iff.1 hz).1).trans hz
  replace xa := (hb3.block _ (Array.getElem?_eq_some_iff.1 xa).1).trans xa
  replace xb := (hb3.block _ (Array.getElem?_eq_some_iff.1 xb).1).trans xb
  replace hg := hg.below hb3
  replace hs := hs.below hb3
  replace hA := hA.below hb3
  replace hP := hP.below hb3
  replace hBg := hBg.below hb3
  replace hQ := hQ.below hb3
  replace hb := hb.trans (hb3.mono hb.size)
  clear d0 d1 d2 hb3
  go_upto_region 8 with (fail)
  obtain ⟨xc, hb3, -⟩ := box_new hb hb.size #[.slice c0 c0n c0c, .slice c1 c1n c1c, .slice c2 c2n c2c] 28
  replace hz := (hb3.block _ (Array.getElem?_eq_some_iff.1 hz).1).trans hz
  replace xa := (hb3.block _ (Array.getElem?_eq_some_iff.1 xa).1).trans xa
  replace xb := (hb3.block _ (Array.getElem?_eq_some_iff.1 xb).1).trans xb
  replace hg := hg.below hb3
  replace hs := hs.below hb3
  replace hA := hA.below hb3
  replace hP := hP.below hb3
  replace hBg := hBg.below hb3
  replace hQ := hQ.below hb3
  replace hC := hC.below hb3
  replace hV := hV.below hb3
  replace hb := hb.trans (hb3.mono hb.size)
  clear hb3
  generalize w10.alloc (.cells #[.slice c0 c0n c0c, .slice c1 c1n c1c, .slice c2 c2n c2c] 28) = w11 at *
  generalize w10.heap.size = yc at *
  have e0 := cell_of_row _ _ 0 _ _ _ hz
  have e1 := cell_of_row _ _ 1 _ _ _ hz
  have e2 := cell_of_row _ _ 2 _ _ _ hz
  go_wp2_with fail
  refine (RPart_c _ _ _ gm s hg hs HROW.out).mono ?_
  rintro e w12 ⟨vd12, vl', rfl, hD, hU, hb3⟩
  obtain ⟨d0, d0n, d0c, d1, d1n, d1c, d2, d2n, d2c, rfl⟩ := hD.shape
  replace hz := (hb3.block _ (Array.getElem?_eq_some_iff.1 hz).1).trans hz
  replace xa := (hb3.block _ (Array.getElem?_eq_some_iff.1 xa).1).trans xa
  replace xb := (hb3.block _ (Array.getElem?_eq_some_iff.1 xb).1).trans xb
  replace xc := (hb3.block _ (Array.getElem?_eq_some_iff.1 xc).1).trans xc
  replace hg := hg.below hb3
  replace hs := hs.below hb3
  replace hA := hA.below hb3
  replace hP := hP.below hb3
  replace hBg := hBg.below hb3
  replace hQ := hQ.below hb3
  replace hC := hC.below hb3
  replace hV := hV.below hb3
  replace hb := hb.trans (hb3.mono hb.size)
  clear e0 e1 e2 hb3
  go_upto_region 9 with (fail)
  obtain ⟨xd, hb3, -⟩ := box_new hb hb.size #[.slice d0 d0n d0c, .slice d1 d1n d1c, .slice d2 d2n d2c] 28
  replace hz := (hb3.block _ (Array.getElem?_eq_some_iff.1 hz).1).trans hz
  replace xa := (hb3.block _ (Array.getElem?_eq_some_iff.1 xa).1).trans xa
  replace xb := (hb3.block _ (Array.getElem?_eq_some_iff.1 xb).1).trans xb
  replace xc := (hb3.block _ (Array.getElem?_eq_some_iff.1 xc).1).trans xc
  replace hg := hg.below hb3
  replace hs := hs.below hb3
  replace hA := hA.below hb3
  replace hP := hP.below hb3
  replace hBg := hBg.below hb3
  replace hQ := hQ.below hb3
  replace hC := hC.below hb3
  replace hV := hV.below hb3
  replace hD := hD.below hb3
  replace hU := hU.below hb3
  replace hb := hb.trans (hb3.mono hb.size)
  clear hb3 hs
  generalize w12.alloc (.cells #[.slice d0 d0n d0c, .slice d1 d1n d1c, .slice d2 d2n d2c] 28) = w13 at *
  generalize w12.heap.size = yd at *
  generalize (partR gm s).1 = pG at *
  generalize (partR gm s).2 = pV at *
  have HB1 : Hid (∀ W, Below w13.drew.heap.size w13.drew W → Below w13.heap.size w13 W) := fun W h => (Below.drew (B := w13.heap.size) (Below.refl _ _)).trans h
  have HG : Hid (∀ W, Below w13.drew.heap.size w13.drew W → W.cell? ⟨zg, 0, none⟩ = some (.slice g0 g0n g0c) ∧ W.cell? ⟨zg, 1, none⟩ = some (.slice g1 g1n g1c) ∧ W.cell? ⟨zg, 2, none⟩ = some (.slice g2 g2n g2c)) := fun W h => by
    have k := ((HB1.out W h).block _ (Array.getElem?_eq_some_iff.1 hz).1).trans hz
    exact ⟨cell_of_row _ _ 0 _ _ _ k, cell_of_row _ _ 1 _ _ _ k, cell_of_row _ _ 2 _ _ _ k⟩
  have HA : Hid (∀ W, Below w13.drew.heap.size w13.drew W → W.cell? ⟨ya, 0, none⟩ = some (.slice a0 a0n a0c) ∧ W.cell? ⟨ya, 1, none⟩ = some (.slice a1 a1n a1c) ∧ W.cell? ⟨ya, 2, none⟩ = some (.slice a2 a2n a2c)) := fun W h => by
    have k := ((HB1.out W h).block _ (Array.getElem?_eq_some_iff.1 xa).1).trans xa
    exact ⟨cell_of_row _ _ 0 _ _ _ k, cell_of_row _ _ 1 _ _ _ k, cell_of_row _ _ 2 _ _ _ k⟩
  have HB3 : Hid (∀ W, Below w13.drew.heap.size w13.drew W → W.cell? ⟨yb, 0, none⟩ = some (.slice b0 b0n b0c) ∧ W.cell? ⟨yb, 1, none⟩ = some (.slice b1 b1n b1c) ∧ W.cell? ⟨yb, 2, none⟩ = some (.slice b2 b2n b2c)) := fun W h => by
    have k := ((HB1.out W h).block _ (Array.getElem?_eq_some_iff.1 xb).1).trans xb
    exact ⟨cell_of_row _ _ 0 _ _ _ k, cell_of_row _ _ 1 _ _ _ k, cell_of_row _ _ 2 _ _ _ k⟩
  have HC : Hid (∀ W, Below w13.drew.heap.size w13.drew W → W.cell? ⟨yc, 0, none⟩ = some (.slice c0 c0n c0c) ∧ W.cell? ⟨yc, 1, none⟩ = some (.slice c1 c1n c1c) ∧ W.cell? ⟨yc, 2, none⟩ = some (.slice c2 c2n c2c)) := fun W h => by
    have k := ((HB1.out W h).block _ (Array.getElem?_eq_some_iff.1 xc).1).trans xc
    exact ⟨cell_of_row _ _ 0 _ _ _ k, cell_of_row _ _ 1 _ _ _ k, cell_of_row _ _ 2 _ _ _ k⟩
  have HD : Hid (∀ W, Below w13.drew.heap.size w13.drew W → W.cell? ⟨yd, 0, none⟩ = some (.slice d0 d0n d0c) ∧ W.cell? ⟨yd, 1, none⟩ = some (.slice d1 d1n d1c) ∧ W.cell? ⟨yd, 2, none⟩ = some (.slice d2 d2n d2c)) := fun W h => by
    have k := ((HB1.out W h).block _ (Array.getElem?_eq_some_iff.1 xd).1).trans xd
    exact ⟨cell_of_row _ _ 0 _ _ _ k, cell_of_row _ _ 1 _ _ _ k, cell_of_row _ _ 2 _ _ _ k⟩
  have HS1 : Hid (∀ W, Below w13.heap.size w13 W → Calls Tryd.prog 17 #[.agg #[.slice a0 a0n a0c, .slice a1 a1n a1c, .slice a2 a2n a2c], .agg #[.slice b0 b0n b0c, .slice b1 b1n b1c, .slice b2 b2n b2c]] W (Calm (.bool true) W)) := fun W h => by
    have k := Same_c W _ _ _ _ (hA.below h) (hBg.below h)
    rwa [decide_eq_true rfl] at k
  have HSP : Hid (∀ W, Below w13.heap.size w13 W → Calls Tryd.prog 18 #[vp, vq] W (Calm (.bool true) W)) := fun W h => by
    have k := SamePl_c W _ _ _ _ (hP.below h) (hQ.below h)
    rwa [decide_eq_true rfl] at k
  obtain ⟨vv, hvv⟩ : ∃ vv, vv = validB gm := ⟨_, rfl⟩
  obtain ⟨sg, hsg⟩ : ∃ sg, sg = swapR gm := ⟨_, rfl⟩
  have HAV : Hid (∀ W, Below w13.heap.size w13 W → Calls Tryd.prog 19 #[.agg #[.slice g0 g0n g0c, .slice g1 g1n g1c, .slice g2 g2n g2c]] W (Calm (.bool vv) W)) := fun W h => by
    rw [hvv]
    exact AValid_c W _ gm (hg.below h)
  have HRV : Hid (∀ W, Below w13.heap.size w13 W → Calls Tryd.prog 20 #[.agg #[.slice g0 g0n g0c, .slice g1 g1n g1c, .slice g2 g2n g2c]] W (Calm (.bool vv) W)) := fun W h => by
    rw [hvv]
    exact RValid_c W _ gm (hg.below h)
  have HSW : Hid (∀ W, Below w13.heap.size w13 W → Calls Tryd.prog 21 #[.agg #[.slice g0 g0n g0c, .slice g1 g1n g1c, .slice g2 g2n g2c]] W (NewGame sg W)) := fun W h => by
    rw [hsg]
    exact Swap_c W _ gm (hg.below h) HROW.out
  have HRS : Hid (∀ W, Below w13.heap.size w13 W → Calls Tryd.prog 22 #[.agg #[.slice g0 g0n g0c, .slice g1 g1n g1c, .slice g2 g2n g2c]] W (NewGame sg W)) := fun W h => by
    rw [hsg]
    exact RSwap_c W _ gm (hg.below h)
  have HSS : Hid (∀ W u1 u2, Below w13.heap.size w13 W → IsGame W u1 sg → IsGame W u2 sg → Calls Tryd.prog 17 #[u1, u2] W (Calm (.bool true) W)) := fun W u1 u2 _ h1 h2 => by
    have k := Same_c W _ _ _ _ h1 h2
    rwa [decide_eq_true rfl] at k
  have HS2 : Hid (∀ W, Below w13.heap.size w13 W → Calls Tryd.prog 17 #[.agg #[.slice c0 c0n c0c, .slice c1 c1n c1c, .slice c2 c2n c2c], .agg #[.slice d0 d0n d0c, .slice d1 d1n d1c, .slice d2 d2n d2c]] W (Calm (.bool true) W)) := fun W h => by
    have k := Same_c W _ _ _ _ (hC.below h) (hD.below h)
    rwa [decide_eq_true rfl] at k
  have HI : Hid (∀ W, Below w13.heap.size w13 W → Calls Tryd.prog 23 #[vk, vl'] W (Calm (.bool true) W)) := fun W h => by
    have k := Ints_c W _ _ _ _ (hV.below h) (hU.below h)
    rw [decide_eq_true rfl] at k
    exact k.mono fun e w' h => h.calm
  have hee : (er == er) = true := by simp
  have hvv2 : (vv == vv) = true := by simp
  clear hz xa xb xc xd hA hBg hP hQ hC hD hV hU hg hvv hsg
  have HBT := Lib.hid hb
  clear hb
  refine region_stable hmx (RM sg er vv g0 g1 g2 g0n g0c g1n g1c g2n g2c a0 a1 a2 a0n a0c a1n a1c a2n a2c b0 b1 b2 b0n b0c b1n b1c b2n b2c c0 c1 c2 c0n c0c c1n c1c c2n c2c d0 d1 d2 d0n d0c d1n d1c d2n d2c vp vq vk vl') (fun vs => { tmps := (_ :: _ :: _ :: _ :: _ :: _ :: _ :: _ :: _ :: _ :: vs 40 :: _ :: _ :: _ :: _ :: _ :: _ :: _ :: _ :: _ :: _ :: _ :: _ :: _ :: _ :: _ :: _ :: _ :: _ :: _ :: _ :: _ :: _ :: _ :: _ :: _ :: _ :: _ :: _ :: _ :: _ :: _ :: _ :: _ :: _ :: _ :: _ :: _ :: _ :: _ :: _ :: _ :: _ :: _ :: _ :: _ :: _ :: _ :: _ :: _ :: _ :: _ :: _ :: _ :: _ :: _ :: _ :: _ :: _ :: _ :: _ :: _ :: _ :: _ :: vs 0 :: vs 1 :: vs 2 :: vs 3 :: vs 4 :: vs 5 :: vs 6 :: vs 7 :: vs 8 :: vs 9 :: vs 10 :: vs 11 :: vs 12 :: vs 13 :: vs 14 :: vs 15 :: vs 16 :: vs 17 :: vs 18 :: vs 19 :: vs 20 :: vs 21 :: vs 22 :: vs 23 :: vs 24 :: vs 25 :: vs 26 :: vs 27 :: vs 28 :: vs 29 :: vs 30 :: vs 31 :: vs 32 :: vs 33 :: vs 34 :: vs 35 :: vs 36 :: vs 37 :: vs 38 :: vs 39 :: []).toArray, defers := _ }) (fun k => if k = 40 then .bool false else undef) rfl (by kernel_rfl) (fun _ _ _ _ h hb => h.below hb) ?step ?fin
  case step =>
    intro ix o ho
    match ix, ho with
    | 0, ho =>
      obtain rfl := Option.some.inj ho
      intro vs W K hB hD hK
      have HK := Lib.hid hK
      clear hK hD ho
      dsimp only
      go_simp
      have h := HK.out _ _ (Below.refl _ _) rfl
      simp only [upd, Nat.reduceEqDiff, reduceIte] at h
      exact h
    | 1, ho =>
      obtain rfl := Option.some.inj ho
      intro vs W K hB hD hK
      have HK := Lib.hid hK
      have e0 : vs 0 = .bool true := dep_of hD 0 (by rfl)
      clear hK hD ho
      dsimp only
      go_simp
      have h := HK.out _ _ (Below.refl _ _) rfl
      simp only [upd, Nat.reduceEqDiff, reduceIte, e0] at h
      exact h
    | 2, ho =>
      obtain rfl := Option.some.inj ho
      intro vs W K hB hD hK
      have HK := Lib.hid hK
      have e1 : vs 1 = .bool true := dep_of hD 1 (by rfl)
      clear hK hD ho
      dsimp only
      go_simp
      have h := HK.out _ _ (Below.refl _ _) rfl
      simp only [upd, Nat.reduceEqDiff, reduceIte, e1] at h
      exact h
    | 3, ho =>
      obtain rfl := Option.some.inj ho
      intro vs W K hB hD hK
      have HK := Lib.hid hK
      have e1 : vs 1 = .bool true := dep_of hD 1 (by rfl)
      clear hK hD ho
      dsimp only
      go_simp
      have h := HK.out _ _ (Below.refl _ _) rfl
      simp only [upd, Nat.reduceEqDiff, reduceIte, e1] at h
      exact h
    | 4, ho =>
      obtain rfl := Option.some.inj ho
      intro vs W K hB hD hK
      have HK := Lib.hid hK
      have e1 : vs 1 = .bool true := dep_of hD 1 (by rfl)
      have e2 : vs 2 = .int .i64 er := dep_of hD 2 (by rfl)
      have e3 : vs 3 = .int .i64 er := dep_of hD 3 (by rfl)
      clear hK hD ho
      dsimp only
      go_simp
      have h := HK.out _ _ (Below.refl _ _) rfl
      simp only [upd, Nat.reduceEqDiff, reduceIte, e1, e2, e3] at h
      exact h
    | 5, ho =>
      obtain rfl := Option.some.inj ho
      intro vs W K hB hD hK
      have HK := Lib.hid hK
      have e1 : vs 1 = .bool true := dep_of hD 1 (by rfl)
      have e4 : vs 4 = .bool true := dep_of hD 4 (by rfl)
      clear hK hD ho
      dsimp only
      go_simp
      have h := HK.out _ _ (Below.refl _ _) rfl
      simp only [upd, Nat.reduceEqDiff, reduceIte, e1, e4] at h
      exact h
    | 6, ho =>
      obtain rfl := Option.some.inj ho
      intro vs W K hB hD hK
      have HK := Lib.hid hK
      have e5 : vs 5 = .bool true := dep_of hD 5 (by rfl)
      clear hK hD ho
      dsimp only
      go_simp
      have h := HK.out _ _ (Below.refl _ _) rfl
      simp only [upd, Nat.reduceEqDiff, reduceIte, e5] at h
      exact h
    | 7, ho =>
      obtain rfl := Option.some.inj ho
      intro vs W K hB hD hK
      have HK := Lib.hid hK
      have e6 : vs 6 = .bool true := dep_of hD 6 (by rfl)
      obtain ⟨d0, d1, d2⟩ := HA.out W hB
      clear hK hD ho
      dsimp only
      go_simp
      have h := HK.out _ _ (Below.refl _ _) rfl
      simp only [upd, Nat.reduceEqDiff, reduceIte, e6] at h
      exact h
    | 8, ho =>
      obtain rfl := Option.some.inj ho
      intro vs W K hB hD hK
      have HK := Lib.hid hK
      have e6 : vs 6 = .bool true := dep_of hD 6 (by rfl)
      obtain ⟨d0, d1, d2⟩ := HB3.out W hB
      clear hK hD ho
      dsimp only
      go_simp
      have h := HK.out _ _ (Below.refl _ _) rfl
      simp only [upd, Nat.reduceEqDiff, reduceIte, e6] at h
      exact h
    | 9, ho =>
      obtain rfl := Option.some.inj ho
      intro vs W K hB hD hK
      have HK := Lib.hid hK
      have e6 : vs 6 = .bool true := dep_of hD 6 (by rfl)
      have e7 : vs 7 = .agg #[.slice a0 a0n a0c, .slice a1 a1n a1c, .slice a2 a2n a2c] := dep_of hD 7 (by rfl)
      have e8 : vs 8 = .agg #[.slice b0 b0n b0c, .slice b1 b1n b1c, .slice b2 b2n b2c] := dep_of hD 8 (by rfl)
      clear hK hD ho
      dsimp only
      go_simp
      refine (HS1.out W (HB1.out W hB)).mono ?_
      rintro e W' ⟨rfl, hb⟩
      have h := HK.out _ _ hb rfl
      simp only [upd, Nat.reduceEqDiff, reduceIte, e6, e7, e8] at h
      exact h
    | 10, ho =>
      obtain rfl := Option.some.inj ho
      intro vs W K hB hD hK
      have HK := Lib.hid hK
      have e6 : vs 6 = .bool true := dep_of hD 6 (by rfl)
      have e9 : vs 9 = .bool true := dep_of hD 9 (by rfl)
      clear hK hD ho
      dsimp only
      go_simp
      have h := HK.out _ _ (Below.refl _ _) rfl
      simp only [upd, Nat.reduceEqDiff, reduceIte, e6, e9] at h
      exact h
    | 11, ho =>
      obtain rfl := Option.some.inj ho
      intro vs W K hB hD hK
      have HK := Lib.hid hK
      have e10 : vs 10 = .bool true := dep_of hD 10 (by rfl)
      clear hK hD ho
      dsimp only
      go_simp
      have h := HK.out _ _ (Below.refl _ _) rfl
      simp only [upd, Nat.reduceEqDiff, reduceIte, e10] at h
      exact h
    | 12, ho =>
      obtain rfl := Option.some.inj ho
      intro vs W K hB hD hK
      have HK := Lib.hid hK
      have e11 : vs 11 = .bool true := dep_of hD 11 (by rfl)
      clear hK hD ho
      dsimp only
      go_simp
      have h := HK.out _ _ (Below.refl _ _) rfl
      simp only [upd, Nat.reduceEqDiff, reduceIte, e11] at h
      exact h
    | 13, ho =>
      obtain rfl := Option.some.inj ho
      intro vs W K hB hD hK
      have HK := Lib.hid hK
      have e11 : vs 11 = .bool true := dep_of hD 11 (by rfl)
      clear hK hD ho
      dsimp only
      go_simp
      have h := HK.out _ _ (Below.refl _ _) rfl
      simp only [upd, Nat.reduceEqDiff, reduceIte, e11] at h
      exact h
    | 14, ho =>
      obtain rfl := Option.some.inj ho
      intro vs W K hB hD hK
      have HK := Lib.hid hK
      have e11 : vs 11 = .bool true := dep_of hD 11 (by rfl)
      have e12 : vs 12 = vp := dep_of hD 12 (by rfl)
      have e13 : vs 13 = vq := dep_of hD 13 (by rfl)
      clear hK hD ho
      dsimp only
      go_simp
      refine (HSP.out W (HB1.out W hB)).mono ?_
      rintro e W' ⟨rfl, hb⟩
      have h := HK.out _ _ hb rfl
      simp only [upd, Nat.reduceEqDiff, reduceIte, e11, e12, e13] at h
      exact h
    | 15, ho =>
      obtain rfl := Option.some.inj ho
      intro vs W K hB hD hK
      have HK := Lib.hid hK
      have e11 : vs 11 = .bool true := dep_of hD 11 (by rfl)
      have e14 : vs 14 = .bool true := dep_of hD 14 (by rfl)
      clear hK hD ho
      dsimp only
      go_simp
      have h := HK.out _ _ (Below.refl _ _) rfl
      simp only [upd, Nat.reduceEqDiff, reduceIte, e11, e14] at h
      exact h
    | 16, ho =>
      obtain rfl := Option.some.inj ho
      intro vs W K hB hD hK
      have HK := Lib.hid hK
      have e15 : vs 15 = .bool true := dep_of hD 15 (by rfl)
      clear hK hD ho
      dsimp only
      go_simp
      have h := HK.out _ _ (Below.refl _ _) rfl
      simp only [upd, Nat.reduceEqDiff, reduceIte, e15] at h
      exact h
    | 17, ho =>
      obtain rfl := Option.some.inj ho
      intro vs W K hB hD hK
      have HK := Lib.hid hK
      have e16 : vs 16 = .bool true := dep_of hD 16 (by rfl)
      obtain ⟨d0, d1, d2⟩ := HG.out W hB
      clear hK hD ho
      dsimp only
      go_simp
      have h := HK.out _ _ (Below.refl _ _) rfl
      simp only [upd, Nat.reduceEqDiff, reduceIte, e16] at h
      exact h
    | 18, ho =>
      obtain rfl := Option.some.inj ho
      intro vs W K hB hD hK
      have HK := Lib.hid hK
      have e16 : vs 16 = .bool true := dep_of hD 16 (by rfl)
      have e17 : vs 17 = .agg #[.slice g0 g0n g0c, .slice g1 g1n g1c, .slice g2 g2n g2c] := dep_of hD 17 (by rfl)
      clear hK hD ho
      dsimp only
      go_simp
      refine (HAV.out W (HB1.out W hB)).mono ?_
      rintro e W' ⟨rfl, hb⟩
      have h := HK.out _ _ hb rfl
      simp only [upd, Nat.reduceEqDiff, reduceIte, e16, e17] at h
      exact h
    | 19, ho =>
      obtain rfl := Option.some.inj ho
      intro vs W K hB hD hK
      have HK := Lib.hid hK
      have e16 : vs 16 = .bool true := dep_of hD 16 (by rfl)
      obtain ⟨d0, d1, d2⟩ := HG.out W hB
      clear hK hD ho
      dsimp only
      go_simp
      have h := HK.out _ _ (Below.refl _ _) rfl
      simp only [upd, Nat.reduceEqDiff, reduceIte, e16] at h
      exact h
    | 20, ho =>
      obtain rfl := Option.some.inj ho
      intro vs W K hB hD hK
      have HK := Lib.hid hK
      have e16 : vs 16 = .bool true := dep_of hD 16 (by rfl)
      have e19 : vs 19 = .agg #[.slice g0 g0n g0c, .slice g1 g1n g1c, .slice g2 g2n g2c] := dep_of hD 19 (by rfl)
      clear hK hD ho
      dsimp only
      go_simp
      refine (HRV.out W (HB1.out W hB)).mono ?_
      rintro e W' ⟨rfl, hb⟩
      have h := HK.out _ _ hb rfl
      simp only [upd, Nat.reduceEqDiff, reduceIte, e16, e19] at h
      exact h
    | 21, ho =>
      obtain rfl := Option.some.inj ho
      intro vs W K hB hD hK
      have HK := Lib.hid hK
      have e16 : vs 16 = .bool true := dep_of hD 16 (by rfl)
      have e18 : vs 18 = .bool vv := dep_of hD 18 (by rfl)
      have e20 : vs 20 = .bool vv := dep_of hD 20 (by rfl)
      clear hK hD ho
      dsimp only
      go_simp
      have h := HK.out _ _ (Below.refl _ _) rfl
      simp only [upd, Nat.reduceEqDiff, reduceIte, e16, e18, e20] at h
      exact h
    | 22, ho =>
      obtain rfl := Option.some.inj ho
      intro vs W K hB hD hK
      have HK := Lib.hid hK
      have e16 : vs 16 = .bool true := dep_of hD 16 (by rfl)
      have e21 : vs 21 = .bool true := dep_of hD 21 (by rfl)
      clear hK hD ho
      dsimp only
      go_simp
      have h := HK.out _ _ (Below.refl _ _) rfl
      simp only [upd, Nat.reduceEqDiff, reduceIte, e16, e21] at h
      exact h
    | 23, ho =>
      obtain rfl := Option.some.inj ho
      intro vs W K hB hD hK
      have HK := Lib.hid hK
      have e22 : vs 22 = .bool true := dep_of hD 22 (by rfl)
      clear hK hD ho
      dsimp only
      go_simp
      have h := HK.out _ _ (Below.refl _ _) rfl
      simp only [upd, Nat.reduceEqDiff, reduceIte, e22] at h
      exact h
    | 24, ho =>
      obtain rfl := Option.some.inj ho
      intro vs W K hB hD hK
      have HK := Lib.hid hK
      have e23 : vs 23 = .bool true := dep_of hD 23 (by rfl)
      obtain ⟨d0, d1, d2⟩ := HG.out W hB
      clear hK hD ho
      dsimp only
      go_simp
      have h := HK.out _ _ (Below.refl _ _) rfl
      simp only [upd, Nat.reduceEqDiff, reduceIte, e23] at h
      exact h
    | 25, ho =>
      obtain rfl := Option.some.inj ho
      intro vs W K hB hD hK
      have HK := Lib.hid hK
      have e23 : vs 23 = .bool true := dep_of hD 23 (by rfl)
      have e24 : vs 24 = .agg #[.slice g0 g0n g0c, .slice g1 g1n g1c, .slice g2 g2n g2c] := dep_of hD 24 (by rfl)
      clear hK hD ho
      dsimp only
      go_simp
      refine (HSW.out W (HB1.out W hB)).mono ?_
      rintro e W' ⟨u', rfl, hu, hb⟩
      have h := HK.out _ _ hb hu
      simp only [upd, Nat.reduceEqDiff, reduceIte, e23, e24] at h
      exact h
    | 26, ho =>
      obtain rfl := Option.some.inj ho
      intro vs W K hB hD hK
      have HK := Lib.hid hK
      have e23 : vs 23 = .bool true := dep_of hD 23 (by rfl)
      obtain ⟨d0, d1, d2⟩ := HG.out W hB
      clear hK hD ho
      dsimp only
      go_simp
      have h := HK.out _ _ (Below.refl _ _) rfl
      simp only [upd, Nat.reduceEqDiff, reduceIte, e23] at h
      exact h
    | 27, ho =>
      obtain rfl := Option.some.inj ho
      intro vs W K hB hD hK
      have HK := Lib.hid hK
      have e23 : vs 23 = .bool true := dep_of hD 23 (by rfl)
      have e26 : vs 26 = .agg #[.slice g0 g0n g0c, .slice g1 g1n g1c, .slice g2 g2n g2c] := dep_of hD 26 (by rfl)
      clear hK hD ho
      dsimp only
      go_simp
      refine (HRS.out W (HB1.out W hB)).mono ?_
      rintro e W' ⟨u', rfl, hu, hb⟩
      have h := HK.out _ _ hb hu
      simp only [upd, Nat.reduceEqDiff, reduceIte, e23, e26] at h
      exact h
    | 28, ho =>
      obtain rfl := Option.some.inj ho
      intro vs W K hB hD hK
      have HK := Lib.hid hK
      have e23 : vs 23 = .bool true := dep_of hD 23 (by rfl)
      have i25 : IsGame W (vs 25) sg := dep_of (R := RM sg er vv g0 g1 g2 g0n g0c g1n g1c g2n g2c a0 a1 a2 a0n a0c a1n a1c a2n a2c b0 b1 b2 b0n b0c b1n b1c b2n b2c c0 c1 c2 c0n c0c c1n c1c c2n c2c d0 d1 d2 d0n d0c d1n d1c d2n d2c vp vq vk vl') hD 25 (by rfl)
      have i27 : IsGame W (vs 27) sg := dep_of (R := RM sg er vv g0 g1 g2 g0n g0c g1n g1c g2n g2c a0 a1 a2 a0n a0c a1n a1c a2n a2c b0 b1 b2 b0n b0c b1n b1c b2n b2c c0 c1 c2 c0n c0c c1n c1c c2n c2c d0 d1 d2 d0n d0c d1n d1c d2n d2c vp vq vk vl') hD 27 (by rfl)
      clear hK hD ho
      dsimp only
      go_simp
      refine (HSS.out W _ _ (HB1.out W hB) i25 i27).mono ?_
      rintro e W' ⟨rfl, hb⟩
      have h := HK.out _ _ hb rfl
      simp only [upd, Nat.reduceEqDiff, reduceIte, e23] at h
      exact h
    | 29, ho =>
      obtain rfl := Option.some.inj ho
      intro vs W K hB hD hK
      have HK := Lib.hid hK
      have e23 : vs 23 = .bool true := dep_of hD 23 (by rfl)
      have e28 : vs 28 = .bool true := dep_of hD 28 (by rfl)
      clear hK hD ho
      dsimp only
      go_simp
      have h := HK.out _ _ (Below.refl _ _) rfl
      simp only [upd, Nat.reduceEqDiff, reduceIte, e23, e28] at h
      exact h
    | 30, ho =>
      obtain rfl := Option.some.inj ho
      intro vs W K hB hD hK
      have HK := Lib.hid hK
      have e29 : vs 29 = .bool true := dep_of hD 29 (by rfl)
      clear hK hD ho
      dsimp only
      go_simp
      have h := HK.out _ _ (Below.refl _ _) rfl
      simp only [upd, Nat.reduceEqDiff, reduceIte, e29] at h
      exact h
    | 31, ho =>
      obtain rfl := Option.some.inj ho
      intro vs W K hB hD hK
      have HK := Lib.hid hK
      have e30 : vs 30 = .bool true := dep_of hD 30 (by rfl)
      obtain ⟨d0, d1, d2⟩ := HC.out W hB
      clear hK hD ho
      dsimp only
      go_simp
      have h := HK.out _ _ (Below.refl _ _) rfl
      simp only [upd, Nat.reduceEqDiff, reduceIte, e30] at h
      exact h
    | 32, ho =>
      obtain rfl := Option.some.inj ho
      intro vs W K hB hD hK
      have HK := Lib.hid hK
      have e30 : vs 30 = .bool true := dep_of hD 30 (by rfl)
      obtain ⟨d0, d1, d2⟩ := HD.out W hB
      clear hK hD ho
      dsimp only
      go_simp
      have h := HK.out _ _ (Below.refl _ _) rfl
      simp only [upd, Nat.reduceEqDiff, reduceIte, e30] at h
      exact h
    | 33, ho =>
      obtain rfl := Option.some.inj ho
      intro vs W K hB hD hK
      have HK := Lib.hid hK
      have e30 : vs 30 = .bool true := dep_of hD 30 (by rfl)
      have e31 : vs 31 = .agg #[.slice c0 c0n c0c, .slice c1 c1n c1c, .slice c2 c2n c2c] := dep_of hD 31 (by rfl)
      have e32 : vs 32 = .agg #[.slice d0 d0n d0c, .slice d1 d1n d1c, .slice d2 d2n d2c] := dep_of hD 32 (by rfl)
      clear hK hD ho
      dsimp only
      go_simp
      refine (HS2.out W (HB1.out W hB)).mono ?_
      rintro e W' ⟨rfl, hb⟩
      have h := HK.out _ _ hb rfl
      simp only [upd, Nat.reduceEqDiff, reduceIte, e30, e31, e32] at h
      exact h
    | 34, ho =>
      obtain rfl := Option.some.inj ho
      intro vs W K hB hD hK
      have HK := Lib.hid hK
      have e30 : vs 30 = .bool true := dep_of hD 30 (by rfl)
      have e33 : vs 33 = .bool true := dep_of hD 33 (by rfl)
      clear hK hD ho
      dsimp only
      go_simp
      have h := HK.out _ _ (Below.refl _ _) rfl
      simp only [upd, Nat.reduceEqDiff, reduceIte, e30, e33] at h
      exact h
    | 35, ho =>
      obtain rfl := Option.some.inj ho
      intro vs W K hB hD hK
      have HK := Lib.hid hK
      have e34 : vs 34 = .bool true := dep_of hD 34 (by rfl)
      clear hK hD ho
      dsimp only
      go_simp
      have h := HK.out _ _ (Below.refl _ _) rfl
      simp only [upd, Nat.reduceEqDiff, reduceIte, e34] at h
      exact h
    | 36, ho =>
      obtain rfl := Option.some.inj ho
      intro vs W K hB hD hK
      have HK := Lib.hid hK
      have e35 : vs 35 = .bool true := dep_of hD 35 (by rfl)
      clear hK hD ho
      dsimp only
      go_simp
      have h := HK.out _ _ (Below.refl _ _) rfl
      simp only [upd, Nat.reduceEqDiff, reduceIte, e35] at h
      exact h
    | 37, ho =>
      obtain rfl := Option.some.inj ho
      intro vs W K hB hD hK
      have HK := Lib.hid hK
      have e35 : vs 35 = .bool true := dep_of hD 35 (by rfl)
      clear hK hD ho
      dsimp only
      go_simp
      have h := HK.out _ _ (Below.refl _ _) rfl
      simp only [upd, Nat.reduceEqDiff, reduceIte, e35] at h
      exact h
    | 38, ho =>
      obtain rfl := Option.some.inj ho
      intro vs W K hB hD hK
      have HK := Lib.hid hK
      have e35 : vs 35 = .bool true := dep_of hD 35 (by rfl)
      have e36 : vs 36 = vk := dep_of hD 36 (by rfl)
      have e37 : vs 37 = vl' := dep_of hD 37 (by rfl)
      clear hK hD ho
      dsimp only
      go_simp
      refine (HI.out W (HB1.out W hB)).mono ?_
      rintro e W' ⟨rfl, hb⟩
      have h := HK.out _ _ hb rfl
      simp only [upd, Nat.reduceEqDiff, reduceIte, e35, e36, e37] at h
      exact h
    | 39, ho =>
      obtain rfl := Option.some.inj ho
      intro vs W K hB hD hK
      have HK := Lib.hid hK
      have e35 : vs 35 = .bool true := dep_of hD 35 (by rfl)
      have e38 : vs 38 = .bool true := dep_of hD 38 (by rfl)
      clear hK hD ho
      dsimp only
      go_simp
      have h := HK.out _ _ (Below.refl _ _) rfl
      simp only [upd, Nat.reduceEqDiff, reduceIte, e35, e38] at h
      exact h
    | 40, ho =>
      obtain rfl := Option.some.inj ho
      intro vs W K hB hD hK
      have HK := Lib.hid hK
      have e39 : vs 39 = .bool true := dep_of hD 39 (by rfl)
      clear hK hD ho
      dsimp only
      go_simp
      have h := HK.out _ _ (Below.refl _ _) rfl
      simp only [upd, Nat.reduceEqDiff, reduceIte, e39] at h
      exact h
    | q + 41, ho => exact absurd ho (by simp)
  case fin =>
    intro vs W hB hall
    have e40 : vs 40 = .bool true := hall 40 (by decide)
    have hB5 := HBT.out.trans ((HB1.out W hB).mono HBT.out.size)
    clear hall hB
    rw [e40]
    clear e40
    go_wp2
    go_ret
    exact HE.out _ hB5

end Go.Proofs.YtjadeffdcbchnaaDoor
