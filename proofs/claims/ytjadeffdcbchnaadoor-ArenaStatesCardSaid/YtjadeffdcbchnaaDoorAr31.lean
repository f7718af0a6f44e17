/- The law ArenaSwap: its walk on inputs that it looks at. -/
import Derived.Test.YtjadeffdcbchnaaDoorAr30
import Derived.Deep.QuietTactic
import Derived.BigQuiet
namespace Go.Proofs.YtjadeffdcbchnaaDoor
open Go.RowKit

theorem IsGame.data {w : World} {g : Gm} {N : Nat} {a0 a1 a2 : Option Addr} {n0 n1 n2 k0 k1 k2 : Nat} (h : IsGame w (.agg #[.slice a0 n0 k0, .slice a1 n1 k1, .slice a2 n2 k2]) g) (l0 : g.owner.length = N) (l1 : g.prio.length = N) (l2 : g.succ.length = N) :
    N = n0 ∧ N = n1 ∧ N = n2 ∧ ∃ b0 o0 b1 o1 b2 o2, ∃ V : Nat → Value, (0 < N → a0 = some ⟨b0, o0, none⟩ ∧ a1 = some ⟨b1, o1, none⟩ ∧ a2 = some ⟨b2, o2, none⟩) ∧
      ∀ j, j < N → w.cell? ⟨b0, o0 + j, none⟩ = some (.int .i64 (g.owner.getD j 0)) ∧ w.cell? ⟨b1, o1 + j, none⟩ = some (.int .i64 (g.prio.getD j 0)) ∧ w.cell? ⟨b2, o2 + j, none⟩ = some (V j) ∧ IsInts w (V j) (g.succ.getD j []) := by
  obtain ⟨v0, v1, v2, hv, ⟨⟨ao0, cap0, b0, off0, rfl, g0⟩, _⟩, ⟨⟨ao1, cap1, b1, off1, rfl, g1⟩, _⟩, ⟨V, ⟨ao2, cap2, b2, off2, rfl, g2⟩, hr⟩⟩ := h
  injection hv with hv
  injection hv with hv
  simp only [List.cons.injEq, Value.slice.injEq, and_true] at hv
  obtain ⟨⟨rfl, rfl, rfl⟩, ⟨rfl, rfl, rfl⟩, rfl, rfl, rfl⟩ := hv
  exact ⟨l0.symm, l1.symm, l2.symm, b0, off0, b1, off1, b2, off2, V, fun hN => ⟨g0.ad (by omega), g1.ad (by omega), g2.ad (by omega)⟩, fun j hj => ⟨g0.el j (by omega), g1.el j (by omega), g2.el j (by omega), hr j (by omega)⟩⟩
theorem swap_at {g : Gm} (hv : validB g = true) (k : Nat) (hk : k < g.owner.length) : (swapG g).owner.getD k 0 = 1 - g.owner.getD k 0 ∧ (swapG g).prio.getD k 0 = g.prio.getD k 0 + 1 := by
  obtain ⟨_, h1, _⟩ := valid_lens hv
  have hk' : k < g.prio.length := by omega
  simp [swapG, List.getD, hk, hk']

set_option maxRecDepth 100000 in
set_option maxHeartbeats 8000000 in
theorem Swap_walk1 (w : World) (vg : Value) (g : Gm) (hK : Keys w) (hg : IsGame w vg g) (hs : smallB g 100 = true) (hv : validB g = true) (hgr : greatI g.prio < 29999) : Calls Tryd.prog 5 #[vg] w (Calm (.bool true) w) := by
  obtain ⟨sw1, sv, sw2⟩ := swap_two hv hgr
  have HP : Hid (g.prio.length ≤ 3000) := by have := valid_lens hv; show _ ≤ _; omega
  have HROW : Hid (∀ i, (g.succ.getD i []).length ≤ 1000) := fun i => by have := small_rows hs i; omega
  have HSW1 := Lib.hid sw1
  have HSV := Lib.hid sv
  have HSW2 := Lib.hid sw2
  obtain ⟨N, hN⟩ : ∃ N, g.owner.length = N := ⟨_, rfl⟩
  have HLG : Hid (g.owner.length = N ∧ g.prio.length = N ∧ g.succ.length = N) := by obtain ⟨_, h1, h2⟩ := valid_lens hv; exact ⟨hN, by omega, by omega⟩
  have HLA : Hid ((swapG g).owner.length = N ∧ (swapG g).prio.length = N ∧ (swapG g).succ.length = N) := by obtain ⟨h0, h1, h2⟩ := HLG.out; exact ⟨by simp [swapG, h0], by simp [swapG, h1], h2⟩
  have HLB : Hid ((swapG (swapG g)).owner.length = N ∧ (swapG (swapG g)).prio.length = N ∧ (swapG (swapG g)).succ.length = N) := by obtain ⟨h0, h1, h2⟩ := HLG.out; exact ⟨by simp [swapG, h0], by simp [swapG, h1], h2⟩
  have HAT : Hid (∀ k, k < N → (swapG g).owner.getD k 0 = 1 - g.owner.getD k 0 ∧ (swapG g).prio.getD k 0 = g.prio.getD k 0 + 1 ∧ (swapG (swapG g)).owner.getD k 0 = g.owner.getD k 0 ∧ (swapG (swapG g)).prio.getD k 0 = g.prio.getD k 0 + 2 ∧ (0 ≤ g.owner.getD k 0 ∧ g.owner.getD k 0 ≤ 1) ∧ (0 ≤ g.prio.getD k 0 ∧ g.prio.getD k 0 ≤ 30000)) := fun k hk => by
    obtain ⟨h1, h2⟩ := swap_at hv k (by omega)
    obtain ⟨h3, h4⟩ := swap_at sv k (by have := HLA.out.1; omega)
    obtain ⟨h5, h6, _⟩ := valid_at hv k (by omega)
    exact ⟨h1, h2, by rw [h3, h1]; omega, by rw [h4, h2]; omega, h5, h6⟩
  have HNB : Hid (N ≤ 3000) := by have := valid_lens hv; show _ ≤ _; omega
  clear sw1 sv sw2 hN
  obtain ⟨a0, n0, k0, a1, n1, k1, a2, n2, k2, rfl⟩ := hg.shape
  go_enter Tryd.func5, Tryd.ntmps5
  go_upto_region 1 with (fail)
  obtain ⟨hx, hB⟩ : (w.alloc (.cells #[.slice a0 n0 k0, .slice a1 n1 k1, .slice a2 n2 k2] 28)).heap[w.heap.size]? = some (.cells #[.slice a0 n0 k0, .slice a1 n1 k1, .slice a2 n2 k2] 28 (0, 0)) ∧ Below w.heap.size w (w.alloc (.cells #[.slice a0 n0 k0, .slice a1 n1 k1, .slice a2 n2 k2] 28)) := ⟨heap_alloc_new _ _, bel_box _⟩
  replace hg := hg.below hB
  replace hK := hK.below hB
  generalize w.alloc (.cells #[.slice a0 n0 k0, .slice a1 n1 k1, .slice a2 n2 k2] 28) = w1 at *
  have HE : Hid (∀ W, Below w1.heap.size w1 W → Calm (.bool true) w (.returned (.bool true)) W) := fun W h => ⟨rfl, hB.trans (h.mono hB.size)⟩
  clear hB
  generalize w.heap.size = z at *
  have hz : z < w1.heap.size := (Array.getElem?_eq_some_iff.1 hx).1
  go_wp2_with fail
  refine (head_c _ hK).mono ?_
  rintro e w2 ⟨rfl, hb⟩
  replace hx := (hb.block _ hz).trans hx
  replace hg := hg.below hb
  have c0 := cell_of_row _ _ 0 _ _ _ hx
  have c1 := cell_of_row _ _ 1 _ _ _ hx
  have c2 := cell_of_row _ _ 2 _ _ _ hx
  go_wp2_with fail
  refine (Small_c _ _ g 100 hg).mono ?_
  rintro e w3 ⟨rfl, hb3⟩
  rw [hs]
  replace hx := (hb3.block _ (Array.getElem?_eq_some_iff.1 hx).1).trans hx
  replace hg := hg.below hb3
  replace hb := hb.trans (hb3.mono hb.size)
  clear c0 c1 c2 hb3
  have c0 := cell_of_row _ _ 0 _ _ _ hx
  have c1 := cell_of_row _ _ 1 _ _ _ hx
  have c2 := cell_of_row _ _ 2 _ _ _ hx
  go_wp2_with fail
  refine (RValid_c _ _ g hg).mono ?_
  rintro e w4 ⟨rfl, hb3⟩
  rw [hv]
  replace hx := (hb3.block _ (Array.getElem?_eq_some_iff.1 hx).1).trans hx
  replace hg := hg.below hb3
  replace hb := hb.trans (hb3.mono hb.size)
  clear c0 c1 c2 hb3
  have c0 := cell_of_row _ _ 0 _ _ _ hx
  have c1 := cell_of_row _ _ 1 _ _ _ hx
  have c2 := cell_of_row _ _ 2 _ _ _ hx
  go_wp2_with fail
  refine (Greatest_c _ _ g hg HP.out).mono ?_
  rintro e w5 ⟨rfl, hb3⟩
  replace hx := (hb3.block _ (Array.getElem?_eq_some_iff.1 hx).1).trans hx
  replace hg := hg.below hb3
  replace hb := hb.trans (hb3.mono hb.size)
  clear c0 c1 c2 hb3
  have c0 := cell_of_row _ _ 0 _ _ _ hx
  have c1 := cell_of_row _ _ 1 _ _ _ hx
  have c2 := cell_of_row _ _ 2 _ _ _ hx
  go_wp2_with fail
  refine (Swap_c _ _ g hg HROW.out).mono ?_
  rintro e w6 ⟨va, rfl, ha, hb3⟩
  rw [HSW1.out] at ha
  obtain ⟨d0, m0, j0, d1, m1, j1, d2, m2, j2, rfl⟩ := ha.shape
  replace hx := (hb3.block _ (Array.getElem?_eq_some_iff.1 hx).1).trans hx
  replace hg := hg.below hb3
  replace hb := hb.trans (hb3.mono hb.size)
  clear c0 c1 c2 hb3
  go_upto_region 5 with (fail)
  obtain ⟨ya, hb3, -⟩ := box_new hb hb.size #[.slice d0 m0 j0, .slice d1 m1 j1, .slice d2 m2 j2] 28
  replace hx := (hb3.block _ (Array.getElem?_eq_some_iff.1 hx).1).trans hx
  replace hg := hg.below hb3
  replace ha := ha.below hb3
  replace hb := hb.trans (hb3.mono hb.size)
  clear hb3
  generalize w6.alloc (.cells #[.slice d0 m0 j0, .slice d1 m1 j1, .slice d2 m2 j2] 28) = w7 at *
  generalize w6.heap.size = za at *
  have e0 := cell_of_row _ _ 0 _ _ _ ya
  have e1 := cell_of_row _ _ 1 _ _ _ ya
  have e2 := cell_of_row _ _ 2 _ _ _ ya
  go_wp2_with fail
  refine (Swap_c _ _ _ ha HROW.out).mono ?_
  rintro e w8 ⟨vb, rfl, hb2, hb3⟩
  rw [HSW2.out] at hb2
  obtain ⟨p0, u0, x0, p1, u1, x1, p2, u2, x2, rfl⟩ := hb2.shape
  replace hx := (hb3.block _ (Array.getElem?_eq_some_iff.1 hx).1).trans hx
  replace ya := (hb3.block _ (Array.getElem?_eq_some_iff.1 ya).1).trans ya
  replace hg := hg.below hb3
  replace ha := ha.below hb3
  replace hb := hb.trans (hb3.mono hb.size)
  clear e0 e1 e2 hb3
  go_upto_region 6 with (fail)
  obtain ⟨yb, hb3, -⟩ := box_new hb hb.size #[.slice p0 u0 x0, .slice p1 u1 x1, .slice p2 u2 x2] 28
  replace hx := (hb3.block _ (Array.getElem?_eq_some_iff.1 hx).1).trans hx
  replace ya := (hb3.block _ (Array.getElem?_eq_some_iff.1 ya).1).trans ya
  replace hg := hg.below hb3
  replace ha := ha.below hb3
  replace hb2 := hb2.below hb3
  replace hb := hb.trans (hb3.mono hb.size)
  clear hb3
  generalize w8.alloc (.cells #[.slice p0 u0 x0, .slice p1 u1 x1, .slice p2 u2 x2] 28) = w9 at *
  generalize w8.heap.size = zb at *
  have e0 := cell_of_row _ _ 0 _ _ _ ya
  have e1 := cell_of_row _ _ 1 _ _ _ ya
  have e2 := cell_of_row _ _ 2 _ _ _ ya
  go_wp2_with fail
  refine (AValid_c _ _ _ ha).mono ?_
  rintro e w10 ⟨rfl, hb3⟩
  rw [HSV.out]
  replace hx := (hb3.block _ (Array.getElem?_eq_some_iff.1 hx).1).trans hx
  replace ya := (hb3.block _ (Array.getElem?_eq_some_iff.1 ya).1).trans ya
  replace yb := (hb3.block _ (Array.getElem?_eq_some_iff.1 yb).1).trans yb
  replace hg := hg.below hb3
  replace ha := ha.below hb3
  replace hb2 := hb2.below hb3
  replace hb := hb.trans (hb3.mono hb.size)
  clear e0 e1 e2 hb3
  have e0 := cell_of_row _ _ 0 _ _ _ ya
  have e1 := cell_of_row _ _ 1 _ _ _ ya
  have e2 := cell_of_row _ _ 2 _ _ _ ya
  have f0 := cell_of_row _ _ 0 _ _ _ yb
  have f1 := cell_of_row _ _ 1 _ _ _ yb
  have f2 := cell_of_row _ _ 2 _ _ _ yb
  have c0 := cell_of_row _ _ 0 _ _ _ hx
  have c1 := cell_of_row _ _ 1 _ _ _ hx
  have c2 := cell_of_row _ _ 2 _ _ _ hx
  obtain ⟨rfl, rfl, rfl, gb0, go0, gb1, go1, gb2, go2, VG, hga, hgc⟩ := hg.data HLG.out.1 HLG.out.2.1 HLG.out.2.2
  obtain ⟨rfl, rfl, rfl, ab0, ao0, ab1, ao1, ab2, ao2, VA, haa, hac⟩ := ha.data HLA.out.1 HLA.out.2.1 HLA.out.2.2
  obtain ⟨rfl, rfl, rfl, bb0, bo0, bb1, bo1, bb2, bo2, VB, hba, hbc⟩ := hb2.data HLB.out.1 HLB.out.2.1 HLB.out.2.2
  clear hg ha hb2
  have HGA := Lib.hid hga
  have HAA := Lib.hid haa
  have HBA := Lib.hid hba
  have HGC := Lib.hid hgc
  have HAC := Lib.hid hac
  have HBC := Lib.hid hbc
  have HB := Lib.hid hb
  clear hga haa hba hgc hac hbc hb hx ya yb
  have hne : ((N : Int) != N) = false := by simp
  go_wp2_with fail
  generalize Value.agg #[.slice a0 N k0, .slice a1 N k1, .slice a2 N k2] = y1
  generalize Value.agg #[.slice d0 N j0, .slice d1 N j1, .slice d2 N j2] = y2
  generalize Value.agg #[.slice p0 N x0, .slice p1 N x1, .slice p2 N x2] = y3
  generalize Value.slice a0 N k0 = y4
  generalize Value.slice a1 N k1 = y5
  generalize Value.slice d0 N j0 = y6
  generalize Value.slice p0 N x0 = y7
  generalize Value.slice p1 N x1 = y8
  go_loopg [6] N (fun gh i wr => ∃ k m : Nat, gh = N - k ∧ i = .int .i64 k ∧ k ≤ N ∧ w10.drewN m = wr)
  case atStart => exact ⟨0, 0, by omega, rfl, by omega, rfl⟩
  case round => as_aux_lemma =>
    obtain ⟨k, m, hgk, rfl, hk, rfl⟩ := hrel
    have HGK := Lib.hid hgk
    clear hgk
    by_cases hlt : k < N
    case neg =>
      obtain rfl : k = N := by omega
      go_wp2
      go_ret
      exact HE.out _ (HB.out.trans (below_draws _ _ _))
    obtain ⟨t1, t2, t3, t4, t5, t6⟩ := HAT.out k hlt
    obtain ⟨A0, A1, A2, iA⟩ := HAC.out k hlt
    obtain ⟨B0, B1, B2, iB⟩ := HBC.out k hlt
    obtain ⟨G0, G1, G2, iG⟩ := HGC.out k hlt
    obtain ⟨rfl, rfl, rfl⟩ := HAA.out (by omega)
    obtain ⟨rfl, rfl, rfl⟩ := HBA.out (by omega)
    obtain ⟨rfl, rfl, rfl⟩ := HGA.out (by omega)
    rw [t1] at A0
    rw [t2] at A1
    rw [t3] at B0
    rw [t4] at B1
    clear t1 t2 t3 t4
    generalize g.owner.getD k 0 = o at *
    generalize g.prio.getD k 0 = p at *
    obtain ⟨oa, hoa⟩ : ∃ x, x = 1 - o := ⟨_, rfl⟩
    obtain ⟨pa, hpa⟩ : ∃ x, x = p + 1 := ⟨_, rfl⟩
    obtain ⟨pb, hpb⟩ : ∃ x, x = p + 2 := ⟨_, rfl⟩
    rw [← hoa] at A0
    rw [← hpa] at A1
    rw [← hpb] at B1
    have s1 : IntKind.i64.wrap (oa + o) = 1 := by rw [hoa, show (1 - o + o : Int) = 1 by omega]; rfl
    have s2 : (Int.tmod pa 2 == Int.tmod p 2) = false := by
      have h1 : Int.tmod pa 2 = pa % 2 := Int.tmod_eq_emod_of_nonneg (by omega)
      have h2 : Int.tmod p 2 = p % 2 := Int.tmod_eq_emod_of_nonneg (by omega)
      rw [h1, h2]
      simp; omega
    have s3 : decide (pa < p) = false := by simp; omega
    have s4 : (o != o) = false := by simp
    have s5 : IntKind.i64.wrap (p + 2) = pb := by rw [hpb]; exact IntWalk.i64_in _ ⟨by omega, by omega⟩
    have s6 : (pb != pb) = false := by simp
    clear hoa hpa hpb t5 t6
    have HI1 := IntsQ w10 _ _ _ _ iA iG true (decide_eq_true rfl)
    have HI2 := IntsQ w10 _ _ _ _ iB iG true (decide_eq_true rfl)
    obtain ⟨⟨ax, sx, -, -, hvx, -⟩, -⟩ := iA
    obtain ⟨⟨ay, sy, -, -, hvy, -⟩, -⟩ := iB
    obtain ⟨⟨az, sz, -, -, hvz, -⟩, -⟩ := iG
    rw [hvx, hvz] at HI1
    rw [hvy, hvz] at HI2
    rw [hvx] at A2
    rw [hvy] at B2
    rw [hvz] at G2
    generalize ((swapG g).succ.getD k []).length = lx at *
    generalize ((swapG (swapG g)).succ.getD k []).length = ly at *
    generalize (g.succ.getD k []).length = lz at *
    clear hvx hvy hvz
    have HQ1 : Hid (∀ x : Nat, Calls Tryd.prog 23 #[.slice ax lx sx, .slice az lz sz] (w10.drewN (m + x)) fun e w'' => e = .returned (.bool true) ∧ ∃ n, w'' = w10.drewN (m + n)) := fun x => (HI1.out _ (below_draws _ _ _)).mono (by
      rintro e w' ⟨rfl, n, rfl⟩
      exact ⟨rfl, x + n, by rw [World.drewN_drewN, Nat.add_assoc]⟩)
    have HQ2 : Hid (∀ x : Nat, Calls Tryd.prog 23 #[.slice ay ly sy, .slice az lz sz] (w10.drewN (m + x)) fun e w'' => e = .returned (.bool true) ∧ ∃ n, w'' = w10.drewN (m + n)) := fun x => (HI2.out _ (below_draws _ _ _)).mono (by
      rintro e w' ⟨rfl, n, rfl⟩
      exact ⟨rfl, x + n, by rw [World.drewN_drewN, Nat.add_assoc]⟩)
    clear HI1 HI2
    go_wp2
    refine wp_region_quiet_lit (by kernel_rfl) (by kernel_rfl) ?_
    iterate 26 (go_big_quiet_step (fail))
    as_aux_lemma =>
      iterate 26 (go_big_quiet_step (fail))
      as_aux_lemma =>
        repeat (go_big_quiet_step (fail))
        go_big_quiet_step (exact HQ1.out _)
        as_aux_lemma =>
          repeat (go_big_quiet_step (fail))
          go_big_quiet_step (exact HQ2.out _)
          repeat (go_big_quiet_step (fail))
          refine wpQuiet_nil ?_
          rintro _ ⟨nq, rfl⟩
          rw [World.drewN_drewN]
          generalize m + nq = m2
          have hN3 : N ≤ 3000 := HNB.out
          go_wp2
          have hgk := HGK.out
          go_roundg (N - (k + 1))
          case rel => exact ⟨k + 1, m2, rfl, by go_num, by omega, rfl⟩
          case measure => omega
theorem Swap_walk (w : World) (vg : Value) (g : Gm) (hK : Keys w) (hg : IsGame w vg g) : Calls Tryd.prog 5 #[vg] w (Calm (.bool true) w) := by
  by_cases hq : smallB g 100 = true ∧ validB g = true ∧ greatI g.prio < 29999
  · exact Swap_walk1 w vg g hK hg hq.1 hq.2.1 hq.2.2
  · exact Swap_walk0 w vg g hK hg hq

end Go.Proofs.YtjadeffdcbchnaaDoor
