/- What differ of the chapter returns. -/
import Derived.Test.YtdkpdpcecjcmcaaRdD1
import Derived.Test.YtdkpdpcecjcmcaaRdH4
namespace Go.Proofs.Ytdkpdpcecjcmcaa
open Go.RowKit

set_option maxRecDepth 100000 in
set_option maxHeartbeats 8000000 in
theorem differ_c (w : World) (v : Value) (a : Au) (K i0 j0 : Nat) (ha : IsAuto w v a) (hA : AuV a K) (hn14 : a.next.length ≤ 100) (hi0 : i0 < a.next.length) (hj0 : j0 < a.next.length) :
    Calls Try.prog 26 #[v, .int .i64 (i0 : Int), .int .i64 (j0 : Int)] w (Calm (.bool (difB a K i0 j0)) w) := by
  obtain ⟨p2, q2, p3, q3, rfl⟩ := ha.shape
  obtain ⟨u2, u3, eu, -, hu2, hu3⟩ := id ha
  obtain ⟨rfl, rfl⟩ : Value.slice p2 a.next.length q2 = u2 ∧ Value.slice p3 a.prio.length q3 = u3 := by simpa using eu
  obtain ⟨-, hn2, b2, o2, hd2, HN0⟩ := hu2.at2
  obtain ⟨-, hn3, b3, o3, hd3, HP0⟩ := hu3.at2
  have HN := Lib.hid HN0
  have HAV := Lib.hid hA
  have h0 := hA.n1
  have hpn := hA.pn
  rw [hpn] at hd3 hn3 HP0 ⊢
  have HP := Lib.hid HP0
  obtain rfl := hd2 (by omega)
  obtain rfl := hd3 (by omega)
  have hLK := hA.L
  have hK := hA.k1
  have HLK := Lib.hid hLK
  rw [hLK]
  clear eu ha hu2 hu3 hd2 hd3 hA hpn HN0 HP0 hLK
  have HDF : Hid (DF a K i0 j0 0 [i0 * a.next.length + j0]) := DF.start hi0 hj0
  have HDL : Hid (∀ {i : Nat} {L : List Nat}, DF a K i0 j0 i L → L.length ≤ a.next.length * a.next.length) := fun h => h.len
  have HLT : Hid (∀ {i : Nat} {L : List Nat}, DF a K i0 j0 i L → ∀ c ∈ L, c < a.next.length * a.next.length) := fun h => h.lt
  have HDV : Hid (∀ c, c < a.next.length * a.next.length → c / a.next.length < a.next.length ∧ c % a.next.length < a.next.length) := fun c h => div_lt h
  have HC0 : Hid (i0 * a.next.length + j0 < a.next.length * a.next.length ∧ i0 * a.next.length ≤ a.next.length * a.next.length) := ⟨pair_lt hi0 hj0, Nat.mul_le_mul_right _ (by omega)⟩
  have HNN2 : Hid (a.next.length * a.next.length ≤ 10000) := Nat.mul_le_mul hn14 hn14
  have HNC : Hid (∀ c x, nxC a c x = nxI a (c / a.next.length) x * a.next.length + nxI a (c % a.next.length) x) := fun _ _ => rfl
  have HNX : Hid (∀ s x, s < a.next.length → x < K → nxI a s x < a.next.length ∧ (a.next.getD s []).getD x 0 = (nxI a s x : Int)) := fun s x hs hx => by
    have := HAV.out.nx s x hs hx
    refine ⟨HAV.out.nxI hs hx, ?_⟩
    unfold nxI; omega
  have HLN : Hid (∀ s, s < a.next.length → (a.next.getD s []).length = K ∧ (a.prio.getD s []).length = K) := fun s hs => HAV.out.ln s hs
  have HSM : Hid (∀ {i : Nat} {L : List Nat}, DF a K i0 j0 i L → i = L.length → ∀ d, eqN a K d i0 j0) := fun h e => h.same HAV.out hj0 e
  have HAD : Hid (∀ {i c x : Nat} {L : List Nat}, DF a K i0 j0 i L → i < L.length → L.getD i 0 = c → x < K → nxC a c x ∉ L → DF a K i0 j0 i (L ++ [nxC a c x])) := fun h hi hc hx hn => h.add HAV.out hi hc hx hn
  have HXL : Hid (∀ {c x : Nat}, c < a.next.length * a.next.length → x < K → nxC a c x < a.next.length * a.next.length) := fun hc hx => nxC_lt HAV.out hc hx
  obtain ⟨n, hnn⟩ : ∃ n, a.next.length = n := ⟨_, rfl⟩
  rw [hnn] at hn2 hn3 hn14 hi0 hj0 h0 HN HP HDF HDL HLT HDV HC0 HNN2 HNC HNX HLN HXL ⊢
  have HNE0 := Lib.hid hnn
  clear hnn HAV
  obtain ⟨N, hNN⟩ : ∃ N, n * n = N := ⟨_, rfl⟩
  rw [hNN] at HDL HLT HDV HC0 HNN2 HXL
  have hw0 : IntKind.i64.wrap ((n : Int) * (n : Int)) = (N : Int) := by
    rw [← Int.natCast_mul, hNN]
    exact IntWalk.i64_in _ ⟨by omega, by have := HNN2.out; omega⟩
  obtain ⟨c1, hc1⟩ : ∃ c, i0 * n = c := ⟨_, rfl⟩
  rw [hc1] at HC0 HDF
  have hw1 : IntKind.i64.wrap ((i0 : Int) * (n : Int)) = (c1 : Int) := by
    rw [← Int.natCast_mul, hc1]
    exact IntWalk.i64_in _ ⟨by omega, by have := HNN2.out; have := HC0.out; omega⟩
  obtain ⟨c0, hc0⟩ : ∃ c, c1 + j0 = c := ⟨_, rfl⟩
  rw [hc0] at HC0 HDF
  have hw2 : IntKind.i64.wrap ((c1 : Int) + (j0 : Int)) = (c0 : Int) := by
    rw [show (c1 : Int) + (j0 : Int) = (c0 : Int) by omega]
    exact IntWalk.i64_in _ ⟨by omega, by have := HNN2.out; have := HC0.out; omega⟩
  have hw3 : (c1 : Int) + (j0 : Int) = (c0 : Int) := by omega
  have hc0N : c0 < N := HC0.out.1
  have hc0I : (c0 : Int) < (N : Int) := by omega
  have hNI : N ≤ 10000 := HNN2.out
  have hn0 : ¬ (n : Int) = 0 := by omega
  generalize a.start = Sa at *
  clear hNN hc1 hc0 h0
  go_enter Try.func26, Try.ntmps26
  go_upto_region 1 with (fail)
  have hx : (w.alloc (.cells #[.int .i64 (K : Int), .int .i64 Sa, .slice (some ⟨b2, o2, none⟩) n q2, .slice (some ⟨b3, o3, none⟩) n q3] 24)).heap[w.heap.size]? = some (.cells #[.int .i64 (K : Int), .int .i64 Sa, .slice (some ⟨b2, o2, none⟩) n q2, .slice (some ⟨b3, o3, none⟩) n q3] 24 (0, 0)) := heap_alloc_new _ _
  have hB1 : Below w.heap.size w (w.alloc (.cells #[.int .i64 (K : Int), .int .i64 Sa, .slice (some ⟨b2, o2, none⟩) n q2, .slice (some ⟨b3, o3, none⟩) n q3] 24)) := bel_box _
  generalize w.alloc (.cells #[.int .i64 (K : Int), .int .i64 Sa, .slice (some ⟨b2, o2, none⟩) n q2, .slice (some ⟨b3, o3, none⟩) n q3] 24) = w1 at *
  have HX := Lib.hid hx
  have HB1 := Lib.hid hB1
  have k2 := cell_of_row _ _ 2 _ _ _ hx
  clear hx hB1
  go_upto_region 3 with (at_make; refine mk_bool rfl _ _ _ Try.underlying55 rfl w1.heap.size _ N rfl rfl rfl (by omega) (Nat.le_refl _) ?_; intro w2 hown hg1; have HO2 := Lib.hid hown; have HB2 : Hid (Below w1.heap.size w1 w2) := below_of_grown hg1 (fun q e => (nomatch e)) (Nat.le_refl _); clear hown hg1)
  obtain ⟨C, hC⟩ : ∃ C, C = w1.heap.size := ⟨_, rfl⟩
  rw [← hC] at HO2 HB2
  rw [← hC]
  have HC := Lib.hid hC
  have HWC : Hid (w.heap.size < C) := by
    have := (Array.getElem?_eq_some_iff.1 HX.out).1
    show _ < _
    omega
  clear hC k2
  rw [seenL_nil] at HO2
  have ho := HO2.out
  have e1 := OB.at' ho (by rw [seenL_len]) c0 (by rw [seenL_len]; exact hc0N)
  unfold OB at ho
  rw [seenL_len] at ho
  have f1 : w2.frozen? ⟨C, c0, none⟩ = false := World.ownsRow.frozenAt ho c0
  have HO3 : Hid (OB (w2.setCell ⟨C, c0, none⟩ (.bool true)) C (.slice (some ⟨C, 0, none⟩) N N) (seenL N [c0])) := by
    have h := OB.set HO2.out (by rw [seenL_len]) c0 true
    rw [seenL_put] at h
    exact h
  have HB3 : Hid (Below C w1 (w2.setCell ⟨C, c0, none⟩ (.bool true))) := HB2.out.trans ((Only.set (S := fun q => q = C) _ _ _ rfl).below C (fun q e => by have : q = C := e; omega) (by have := HB2.out.size; have := HC.out; omega))
  clear ho
  go_upto_region 4 with (fail)
  generalize w2.setCell ⟨C, c0, none⟩ (.bool true) = w3 at *
  clear e1 f1 HO2 HB2
  go_upto_region 5 with (fail)
  have hC3 : C ≤ w3.heap.size := by have := HB3.out.size; have := HC.out; omega
  have hO4 : OI (w3.alloc (.cells #[.int .i64 (c0 : Int)] 3)) C (.slice (some ⟨w3.heap.size, 0, none⟩) 1 1) [(c0 : Int)] := by
    have h := World.ownsRow_lit (base := C) (e := 3) (size := 1) w3 #[.int .i64 (c0 : Int)] 1 hC3 (by simp [maxLen]) (by simp)
    unfold OI
    simpa using h
  have hb4 : Below w3.heap.size w3 (w3.alloc (.cells #[.int .i64 (c0 : Int)] 3)) := bel_box _
  have HO4 := Lib.hid (HO3.out.below hb4)
  have HT4 := Lib.hid hO4
  have HB4 := Lib.hid (HB3.out.trans (hb4.mono hC3))
  have HNE4 : Hid ((.slice (some ⟨w3.heap.size, 0, none⟩) 1 1 : Value).ownBlock ≠ some C) := fun e => by
    have e : w3.heap.size = C := Option.some.inj e
    have := HO3.out.lt' C rfl
    omega
  clear hO4 hb4 HO3 HB3 hC3
  generalize w3.alloc (.cells #[.int .i64 (c0 : Int)] 3) = w4 at *
  generalize w3.heap.size = tb at *
  go_wp2_with fail
  clear hw1 hw2 hw3 hc0N hc0I
  go_loopg [9, 10] N (fun gh v i wr => ∃ (i' : Nat) (L : List Nat), gh = N - i' ∧ i = .int .i64 i' ∧ i' ≤ L.length ∧ Hid (DF a K i0 j0 i' L) ∧ Hid (OB wr C (.slice (some ⟨C, 0, none⟩) N N) (seenL N L)) ∧ Hid (OI wr C v (castL L)) ∧ Hid (v.ownBlock ≠ some C) ∧ Below C w1 wr)
  case atStart => exact ⟨0, [c0], rfl, rfl, by simp, HDF.out, HO4.out, HT4.out, HNE4.out, HB4.out⟩
  case round =>
    obtain ⟨i, L, hgk, rfl, hi, HD, HO, HT, HNE, hB⟩ := hrel
    have HGK := Lib.hid hgk
    have HB := Lib.hid hB
    clear hgk hB HO4 HT4 HNE4 HB4
    have hBw : Below w.heap.size w wr := HB1.out.trans (HB.out.mono (Nat.le_of_lt HWC.out))
    have hxr := (HB.out.block _ (by have := HWC.out; omega)).trans HX.out
    have k0 := cell_of_row _ _ 0 _ _ _ hxr
    have k2 := cell_of_row _ _ 2 _ _ _ hxr
    have k3 := cell_of_row _ _ 3 _ _ _ hxr
    obtain ⟨ao, cap, hv⟩ := HT.out.slice
    have HCL := Lib.hid (castL_len L)
    rw [HCL.out] at hv
    subst hv
    have hLN : L.length ≤ N := HDL.out HD.out
    have hLI : L.length ≤ 10000 := by omega
    clear hxr
    by_cases hlt : i < L.length
    · as_aux_lemma =>
      have hk1 : (i : Int) < (L.length : Int) := by omega
      obtain ⟨gT, cT, hvT, hgT1, hgT2⟩ := HT.out.row (by rw [castL_len]; omega)
      rw [castL_len] at hvT
      obtain ⟨rfl, rfl⟩ : ao = some ⟨gT, 0, none⟩ ∧ cap = cT := by simpa using hvT
      obtain ⟨c, hc⟩ : ∃ c, L.getD i 0 = c := ⟨_, rfl⟩
      have l1 := OI.at' HT.out HCL.out.symm i (by rw [castL_len]; exact hlt)
      rw [← getD_lt (castL L) 0 i (by rw [castL_len]; exact hlt), castL_get hlt, hc] at l1
      have hcm : c ∈ L := by
        rw [← hc, List.getD_eq_getElem?_getD, List.getElem?_eq_getElem hlt]; exact List.getElem_mem hlt
      have hcN : c < N := HLT.out HD.out c hcm
      have HCM := Lib.hid hcm
      have HCC := Lib.hid hc
      obtain ⟨p, hp⟩ : ∃ p, c / n = p := ⟨_, rfl⟩
      obtain ⟨q, hq⟩ : ∃ q, c % n = q := ⟨_, rfl⟩
      obtain ⟨hpn, hqn⟩ := HDV.out c hcN
      rw [hp] at hpn
      rw [hq] at hqn
      have HPD := Lib.hid hp
      have HQD := Lib.hid hq
      have hd2 : (c : Int) / (n : Int) = (p : Int) := by rw [← hp]; exact (Int.natCast_ediv c n).symm
      have hd1 : Int.tdiv (c : Int) (n : Int) = (p : Int) := by rw [Int.tdiv_eq_ediv_of_nonneg (Int.natCast_nonneg _)]; exact hd2
      have hr2 : (c : Int) % (n : Int) = (q : Int) := by rw [← hq]; exact (Int.natCast_emod c n).symm
      have hr1 : Int.tmod (c : Int) (n : Int) = (q : Int) := by rw [Int.tmod_eq_emod_of_nonneg (Int.natCast_nonneg _)]; exact hr2
      have hwp : IntKind.i64.wrap (p : Int) = (p : Int) := IntWalk.i64_in _ ⟨by omega, by omega⟩
      have hwq : IntKind.i64.wrap (q : Int) = (q : Int) := IntWalk.i64_in _ ⟨by omega, by omega⟩
      have hcI : (c : Int) < (N : Int) := by omega
      clear hp hq hc hcm hvT
      go_wp2_with fail
      clear hd1 hd2 hr1 hr2 hwp hwq l1 k0 k2 k3
      go_loopg [9, 13] K (fun gh v x wx => ∃ (x' : Nat) (L : List Nat), gh = K - x' ∧ x = .int .i64 x' ∧ x' ≤ K ∧ i < L.length ∧ Hid (L.getD i 0 = c) ∧ Hid (DF a K i0 j0 i L) ∧ Hid (ClC a L c x') ∧ Hid (OB wx C (.slice (some ⟨C, 0, none⟩) N N) (seenL N L)) ∧ Hid (OI wx C v (castL L)) ∧ Hid (v.ownBlock ≠ some C) ∧ Below C w1 wx)
      case atStart => exact ⟨0, L, rfl, rfl, by omega, hlt, HCC, HD, fun y hy => absurd hy (Nat.not_lt_zero _), HO.out, HT.out, HNE.out, HB.out⟩
      case round =>
        clear HCC HD HO HT HNE HB hlt hk1 hi hgT1 hgT2 hLN hLI HCL hBw HCM
        obtain ⟨x, L', hgx, rfl, hxK, hlt, HCC, HD, HCl, HO, HT, HNE, hB⟩ := hrel
        have HGX := Lib.hid hgx
        have HB := Lib.hid hB
        clear hgx hB
        have HBW : Hid (Below w.heap.size w wr) := HB1.out.trans (HB.out.mono (Nat.le_of_lt HWC.out))
        have HXR := Lib.hid ((HB.out.block _ (by have := HWC.out; omega)).trans HX.out)
        obtain ⟨ao, cap, hv⟩ := HT.out.slice
        have HCL := Lib.hid (castL_len L')
        rw [HCL.out] at hv
        subst hv
        have hLN : L'.length ≤ N := HDL.out HD.out
        have hLI : L'.length ≤ 10000 := by omega
        have k0 := cell_of_row _ _ 0 _ _ _ HXR.out
        have k3 := cell_of_row _ _ 3 _ _ _ HXR.out
        by_cases hx : x < K
        · as_aux_lemma =>
          have hx2 : (x : Int) < (K : Int) := by omega
          have hpI : (p : Int) < (n : Int) := by omega
          have hqI : (q : Int) < (n : Int) := by omega
          have hcm : c ∈ L' := by
            rw [← HCC.out, List.getD_eq_getElem?_getD, List.getElem?_eq_getElem hlt]; exact List.getElem_mem hlt
          have HCM := Lib.hid hcm
          obtain ⟨bx, ox, cx, ax, c1, c2, c3, c4⟩ := HP.out _ HBW.out p hpn
          obtain ⟨bx', oy, cy, ay, d1, d2, d3, d4⟩ := HP.out _ HBW.out q hqn
          rw [(HLN.out p hpn).2] at c1 c2 c3 c4
          rw [(HLN.out q hqn).2] at d1 d2 d3 d4
          obtain rfl := c2 (by omega)
          obtain rfl := d2 (by omega)
          have c5 := c4 x hx
          have d5 := d4 x hx
          obtain ⟨P, hP⟩ : ∃ P, (a.prio.getD p []).getD x 0 = P := ⟨_, rfl⟩
          obtain ⟨Q, hQ⟩ : ∃ Q, (a.prio.getD q []).getD x 0 = Q := ⟨_, rfl⟩
          rw [hP] at c5
          rw [hQ] at d5
          have HPP := Lib.hid hP
          have HQQ := Lib.hid hQ
          clear c4 d4 c2 d2 hP hQ hcm
          by_cases hPQ : P = Q
          case neg =>
            have hne : (P != Q) = true := by simpa using hPQ
            have HR : Hid (difB a K i0 j0 = true) := difB_true (HD.out.diff (x := x) HCM.out (by rw [HNE0.out, HPD.out, HQD.out, HPP.out, HQQ.out]; exact hPQ))
            clear hPQ
            go_wp2
            refine wp_region_quiet_lit (by kernel_rfl) (by kernel_rfl) ?_
            ((repeat (go_big_quiet_step (fail))); refine wpQuiet_nil ?_; rintro _ ⟨nq, rfl⟩)
            go_wp2
            go_ret
            exact ⟨by rw [HR.out]; rfl, HBW.out.trans ((below_draws _ _ _).mono HBW.out.size)⟩
          have hne : (P != Q) = false := by simpa using hPQ
          have HEQ : Hid ((a.prio.getD (c / a.next.length) []).getD x 0 = (a.prio.getD (c % a.next.length) []).getD x 0) := by
            show _ = _
            rw [HNE0.out, HPD.out, HQD.out, HPP.out, HQQ.out]; exact hPQ
          clear hPQ
          go_wp2
          refine wp_region_quiet_lit (by kernel_rfl) (by kernel_rfl) ?_
          ((repeat (go_big_quiet_step (fail))); refine wpQuiet_nil ?_; rintro _ ⟨nq, rfl⟩)
          have hbA : Below wr.heap.size wr (wr.drewN nq) := below_draws _ _ _
          have HO1 := Lib.hid (HO.out.below hbA)
          have HT1 := Lib.hid (HT.out.below hbA)
          have HBA := Lib.hid (HB.out.trans (hbA.mono (show C ≤ wr.heap.size by have := HB.out.size; have := HC.out; omega)))
          have HBWA := Lib.hid (HBW.out.trans (hbA.mono HBW.out.size))
          have HXA := Lib.hid ((hbA.block _ (Array.getElem?_eq_some_iff.1 HXR.out).1).trans HXR.out)
          clear HO HT HB HBW HXR hbA c1 d1 c5 d5 c3 d3 hne HPP HQQ k0 k3
          generalize wr.drewN nq = wA at *
          have k2 := cell_of_row _ _ 2 _ _ _ HXA.out
          obtain ⟨bx, ox, cx, ax, c1, c2, c3, c4⟩ := HN.out _ HBWA.out p hpn
          obtain ⟨bx', oy, cy, ay, d1, d2, d3, d4⟩ := HN.out _ HBWA.out q hqn
          rw [(HLN.out p hpn).1] at c1 c2 c3 c4
          rw [(HLN.out q hqn).1] at d1 d2 d3 d4
          obtain rfl := c2 (by omega)
          obtain rfl := d2 (by omega)
          have c5 := c4 x hx
          have d5 := d4 x hx
          obtain ⟨hs1, hs2⟩ := HNX.out p x hpn hx
          obtain ⟨ht1, ht2⟩ := HNX.out q x hqn hx
          rw [hs2] at c5
          rw [ht2] at d5
          have hz := HNC.out c x
          rw [HPD.out, HQD.out] at hz
          have hzN := HXL.out (c := c) (x := x) (HLT.out HD.out c HCM.out) hx
          generalize nxI a p x = sp at *
          generalize nxI a q x = sq at *
          obtain ⟨m, hm⟩ : ∃ m, sp * n = m := ⟨_, rfl⟩
          rw [hm] at hz
          have hw4 : IntKind.i64.wrap ((sp : Int) * (n : Int)) = (m : Int) := by
            rw [← Int.natCast_mul, hm]
            exact IntWalk.i64_in _ ⟨by omega, by omega⟩
          obtain ⟨z, hzz⟩ : ∃ z, nxC a c x = z := ⟨_, rfl⟩
          have HZ := Lib.hid hzz
          rw [hzz] at hz hzN
          have hw5 : IntKind.i64.wrap ((m : Int) + (sq : Int)) = (z : Int) := by
            rw [show (m : Int) + (sq : Int) = (z : Int) by omega]
            exact IntWalk.i64_in _ ⟨by omega, by omega⟩
          have hw6 : (m : Int) + (sq : Int) = (z : Int) := by omega
          clear c4 d4 c2 d2 hs2 ht2 hm hz hzz
          go_wp2
          refine wp_region_quiet_lit (by kernel_rfl) (by kernel_rfl) ?_
          ((repeat (go_big_quiet_step (fail))); refine wpQuiet_nil ?_; rintro _ ⟨nq, rfl⟩)
          have hbB : Below wA.heap.size wA (wA.drewN nq) := below_draws _ _ _
          have HOB := Lib.hid (HO1.out.below hbB)
          have HTB := Lib.hid (HT1.out.below hbB)
          have hCA : C ≤ wA.heap.size := by have := HBA.out.size; have := HC.out; omega
          have HBB := Lib.hid (HBA.out.trans (hbB.mono hCA))
          clear HO1 HT1 HBA HBWA HXA hbB c1 d1 c5 d5 c3 d3 k2 hw4 hw5 hw6 hCA
          generalize wA.drewN nq = wB at *
          have hzI : (z : Int) < (N : Int) := by omega
          have ho := HOB.out
          have e1 := OB.at' ho (by rw [seenL_len]) z (by rw [seenL_len]; exact hzN)
          rw [← getD_lt (seenL N L') false z (by rw [seenL_len]; exact hzN), seenL_at hzN] at e1
          unfold OB at ho
          rw [seenL_len] at ho
          have f1 : wB.frozen? ⟨C, z, none⟩ = false := World.ownsRow.frozenAt ho z
          clear ho
          have hCB : C ≤ wB.heap.size := by have := HBB.out.size; have := HC.out; omega
          by_cases hmem : z ∈ L'
          · rw [decide_eq_true hmem] at e1
            have HCn : Hid (ClC a L' c (x + 1)) := HCl.out.step HEQ.out (by rw [HZ.out]; exact hmem)
            clear hmem f1
            go_wp2
            go_roundg (K - (x + 1))
            case measure => have := HGX.out; omega
            case rel => exact ⟨x + 1, L', rfl, by go_num, by omega, hlt, HCC, HD, HCn, HOB, HTB, HNE, HBB.out⟩
          · rw [decide_eq_false hmem] at e1
            have HDn : Hid (DF a K i0 j0 i (L' ++ [z])) := by
              have := HAD.out HD.out hlt HCC.out hx (by rw [HZ.out]; exact hmem)
              rw [HZ.out] at this
              exact this
            have HCn : Hid (ClC a (L' ++ [z]) c (x + 1)) := (HCl.out.more (c' := z)).step HEQ.out (by rw [HZ.out]; simp)
            have HCCn : Hid ((L' ++ [z]).getD i 0 = c) := by
              show _ = _
              rw [← HCC.out]; simp [List.getD, List.getElem?_append_left hlt]
            have HOC : Hid (OB (wB.setCell ⟨C, z, none⟩ (.bool true)) C (.slice (some ⟨C, 0, none⟩) N N) (seenL N (L' ++ [z]))) := by
              have h := OB.set HOB.out (by rw [seenL_len]) z true
              rw [seenL_put] at h
              exact h
            have hS : Only (fun q => q = C) wB (wB.setCell ⟨C, z, none⟩ (.bool true)) := Only.set _ _ _ rfl
            have HTC : Hid (OI (wB.setCell ⟨C, z, none⟩ (.bool true)) C (.slice ao L'.length cap) (castL L')) := HTB.out.only hS fun k e1 e2 => HNE.out (by rw [e1]; exact congrArg some e2)
            have HBC : Hid (Below C w1 (wB.setCell ⟨C, z, none⟩ (.bool true))) := HBB.out.trans (hS.below C (fun q e => by have : q = C := e; omega) hCB)
            clear hmem hS HOB HTB HBB
            go_upto_region 18 with (fail)
            generalize wB.setCell ⟨C, z, none⟩ (.bool true) = wC at *
            have hCC : C ≤ wC.heap.size := by have := HBC.out.size; have := HC.out; omega
            clear e1 f1 hCB
            go_wp2_with (at_builtin; refine app_int rfl _ _ (z : Int) rfl C _ _ HTC.out rfl _ (by simp) rfl (by rw [castL_len]; omega) hCC ?_; intro v' w' hown' hg hmv; obtain ⟨ao', cap', hv'⟩ := hown'.slice; rw [List.length_append, List.length_singleton, castL_len] at hv'; subst hv'; have HT' := Lib.hid hown'; have HG := Lib.hid hg; have HMV := Lib.hid hmv; clear hown' hg hmv)
            have HOF : Hid (OB w' C (.slice (some ⟨C, 0, none⟩) N N) (seenL N (L' ++ [z]))) := HOC.out.only (Only.of_grown HG.out) fun k e1 e2 => HNE.out (by
              have e1 : C = k := Option.some.inj e1
              rw [e1]; exact e2)
            have HTF : Hid (OI w' C (.slice ao' (L'.length + 1) cap') (castL (L' ++ [z]))) := by
              show OI _ _ _ _
              rw [castL_app]; exact HT'.out
            have HNF : Hid ((.slice ao' (L'.length + 1) cap' : Value).ownBlock ≠ some C) := fun e => by
              rcases HMV.out C e with h | h
              · exact HNE.out h
              · have := HOC.out.lt' C rfl
                omega
            have HBF : Hid (Below C w1 w') := HBC.out.grown HG.out hCC fun g e => HTC.out.ge g e
            go_roundg (K - (x + 1))
            case measure => have := HGX.out; omega
            case rel => exact ⟨x + 1, L' ++ [z], rfl, by go_num, by omega, by simp; omega, HCCn, HDn, HCn, HOF, HTF, HNF, HBF.out⟩
        · as_aux_lemma =>
          obtain rfl : x = K := by omega
          have HDn : Hid (DF a x i0 j0 (i + 1) L') := HD.out.next HCC.out HCl.out
          have hx2 : ¬ (x : Int) < x := by omega
          clear k3
          go_wp2
          go_roundg (N - (i + 1))
          case measure => have := HGK.out; omega
          case rel => exact ⟨i + 1, L', rfl, by go_num, by omega, HDn, HO, HT, HNE, HB.out⟩
    · as_aux_lemma =>
      obtain rfl : i = L.length := by omega
      have HR : Hid (difB a K i0 j0 = false) := difB_false (HSM.out HD.out rfl)
      go_wp2
      go_ret
      exact ⟨by rw [HR.out]; rfl, hBw⟩

end Go.Proofs.Ytdkpdpcecjcmcaa
