/- What the reference's Part computes. -/
import Derived.Test.YtjadeffdcbchnaaDoorArCb
namespace Go.Proofs.YtjadeffdcbchnaaDoor
open Go.RowKit

set_option maxRecDepth 100000 in
set_option maxHeartbeats 8000000 in
theorem RPart_c (w : World) (vg vs : Value) (g : Gm) (s : List Bool) (hg : IsGame w vg g) (hs : IsBools w vs s) (hS : ∀ i, (g.succ.getD i []).length ≤ 1000) :
    Calls Tryd.prog 16 #[vg, vs] w (GameInts (partR g s).1 (partR g s).2 w) := by
  have hgx := hg
  have hsx := hs
  obtain ⟨v0, v1, v2, rfl, ⟨⟨ao0, cap0, b0, off0, rfl, g0⟩, i0⟩, ⟨⟨ao1, cap1, b1, off1, rfl, g1⟩, i1⟩, ⟨V, ⟨ao2, cap2, b2, off2, rfl, g2⟩, hr⟩⟩ := hg
  obtain ⟨aos, caps, bs, offs, rfl, hs⟩ := hs
  have hns := hs.nb
  cases hv : validB g
  · have HR : Hid (partR g s = (⟨[], [], []⟩, [])) := by show _ = _; simp [partR, hv]
    go_enter Tryd.func16, Tryd.ntmps16
    go_wp2_with fail
    refine (RValid_c _ _ g (hgx.below (by repeat (first | exact Below.refl _ _ | assumption | (refine belA ?_ _) | (refine belD ?_ _))))).mono ?_
    rintro e w1 ⟨rfl, hb1⟩
    rw [hv]
    have hF : Fr w w1 #[Value.slice ao0 g.owner.length cap0, Value.slice ao1 g.prio.length cap1, Value.slice ao2 g.succ.length cap2] :=
      ⟨Boxed.start ((bel_box _).trans (hb1.mono (by simp))), (hb1.block _ (by simp)).trans (by (repeat (rw [alloc_get]; first | rw [if_pos (by first | (simp; done) | (simp; omega))] | rw [if_neg (by first | (simp; done) | (simp; omega))])); (try rfl))⟩
    have d0 : w1.cell? ⟨w.heap.size, 0, none⟩ = some (Value.slice ao0 g.owner.length cap0) := hF.bx.cell 0 rfl
    have z0 : w1.cell? ⟨w.heap.size + 1, 0, none⟩ = some (.slice none 0 0) := cell_of_row _ _ 0 _ _ _ hF.rc
    have z1 : w1.cell? ⟨w.heap.size + 1, 1, none⟩ = some (.slice none 0 0) := cell_of_row _ _ 1 _ _ _ hF.rc
    have z2 : w1.cell? ⟨w.heap.size + 1, 2, none⟩ = some (.slice none 0 0) := cell_of_row _ _ 2 _ _ _ hF.rc
    have y0 : w1.frozen? ⟨w.heap.size + 1, 0, none⟩ = false := frozen_of_row _ _ 0 _ _ hF.rc
    have y1 : w1.frozen? ⟨w.heap.size + 1, 1, none⟩ = false := frozen_of_row _ _ 1 _ _ hF.rc
    have y2 : w1.frozen? ⟨w.heap.size + 1, 2, none⟩ = false := frozen_of_row _ _ 2 _ _ hF.rc
    clear hb1
    go_wp2
    (have hc3 := three_set (a := Value.slice none 0 0) (b := Value.slice none 0 0) (c := Value.slice none 0 0) hF.rc); (have c0 := cell_of_row _ _ 0 _ _ _ hc3); (have c1 := cell_of_row _ _ 1 _ _ _ hc3); (have c2 := cell_of_row _ _ 2 _ _ _ hc3); (refine bodyPost_ret (v := .tuple #[.agg #[Value.slice none 0 0, Value.slice none 0 0, Value.slice none 0 0], Value.slice none 0 0]) (by simp [results, Tryd.results16, go_sem, c0, c1, c2]) rfl ?_)
    exact nil_end HR.out hF
  by_cases hl : s.length = g.owner.length
  case neg =>
    have HR : Hid (partR g s = (⟨[], [], []⟩, [])) := by show _ = _; simp [partR, hl]
    have hne : ((s.length : Int) != g.owner.length) = true := by simp; omega
    clear hl
    go_enter Tryd.func16, Tryd.ntmps16
    go_wp2_with fail
    refine (RValid_c _ _ g (hgx.below (by repeat (first | exact Below.refl _ _ | assumption | (refine belA ?_ _) | (refine belD ?_ _))))).mono ?_
    rintro e w1 ⟨rfl, hb1⟩
    rw [hv]
    have hF : Fr w w1 #[Value.slice ao0 g.owner.length cap0, Value.slice ao1 g.prio.length cap1, Value.slice ao2 g.succ.length cap2] :=
      ⟨Boxed.start ((bel_box _).trans (hb1.mono (by simp))), (hb1.block _ (by simp)).trans (by (repeat (rw [alloc_get]; first | rw [if_pos (by first | (simp; done) | (simp; omega))] | rw [if_neg (by first | (simp; done) | (simp; omega))])); (try rfl))⟩
    have d0 : w1.cell? ⟨w.heap.size, 0, none⟩ = some (Value.slice ao0 g.owner.length cap0) := hF.bx.cell 0 rfl
    have z0 : w1.cell? ⟨w.heap.size + 1, 0, none⟩ = some (.slice none 0 0) := cell_of_row _ _ 0 _ _ _ hF.rc
    have z1 : w1.cell? ⟨w.heap.size + 1, 1, none⟩ = some (.slice none 0 0) := cell_of_row _ _ 1 _ _ _ hF.rc
    have z2 : w1.cell? ⟨w.heap.size + 1, 2, none⟩ = some (.slice none 0 0) := cell_of_row _ _ 2 _ _ _ hF.rc
    have y0 : w1.frozen? ⟨w.heap.size + 1, 0, none⟩ = false := frozen_of_row _ _ 0 _ _ hF.rc
    have y1 : w1.frozen? ⟨w.heap.size + 1, 1, none⟩ = false := frozen_of_row _ _ 1 _ _ hF.rc
    have y2 : w1.frozen? ⟨w.heap.size + 1, 2, none⟩ = false := frozen_of_row _ _ 2 _ _ hF.rc
    clear hb1
    go_wp2
    (have hc3 := three_set (a := Value.slice none 0 0) (b := Value.slice none 0 0) (c := Value.slice none 0 0) hF.rc); (have c0 := cell_of_row _ _ 0 _ _ _ hc3); (have c1 := cell_of_row _ _ 1 _ _ _ hc3); (have c2 := cell_of_row _ _ 2 _ _ _ hc3); (refine bodyPost_ret (v := .tuple #[.agg #[Value.slice none 0 0, Value.slice none 0 0, Value.slice none 0 0], Value.slice none 0 0]) (by simp [results, Tryd.results16, go_sem, c0, c1, c2]) rfl ?_)
    exact nil_end HR.out hF
  have hne : ((s.length : Int) != g.owner.length) = false := by simp; omega
  have F : Fits g 0 s.length := fits_of (by simp [fitsB, hv, hl])
  have hle := F.le
  have HRT : Hid (partOK g s (keptI s s.length) = true → partR g s = (partG g s (keptI s s.length), keptI s s.length)) := fun h => by unfold partR; rw [hv, h, decide_eq_true hl]; rfl
  have HRF : Hid (partOK g s (keptI s s.length) = false → partR g s = (⟨[], [], []⟩, [])) := fun h => by unfold partR; rw [hv, h, decide_eq_true hl]; rfl
  have HON : Hid (g.owner.length = s.length ∧ g.prio.length = s.length ∧ g.succ.length = s.length) := ⟨F.on, F.pn, F.sn⟩
  have HRG : Hid (∀ i, i < s.length → ∀ x ∈ g.succ.getD i [], 0 ≤ x ∧ x < s.length) := F.rg
  have HS := Lib.hid hS
  clear F hl hS
  go_enter Tryd.func16, Tryd.ntmps16
  go_wp2_with fail
  refine (RValid_c _ _ g (hgx.below (by repeat (first | exact Below.refl _ _ | assumption | (refine belA ?_ _) | (refine belD ?_ _))))).mono ?_
  rintro e w1 ⟨rfl, hb1⟩
  rw [hv]
  have hF : Fr w w1 #[Value.slice ao0 g.owner.length cap0, Value.slice ao1 g.prio.length cap1, Value.slice ao2 g.succ.length cap2] :=
    ⟨Boxed.start ((bel_box _).trans (hb1.mono (by simp))), (hb1.block _ (by simp)).trans (by (repeat (rw [alloc_get]; first | rw [if_pos (by first | (simp; done) | (simp; omega))] | rw [if_neg (by first | (simp; done) | (simp; omega))])); (try rfl))⟩
  have d0 : w1.cell? ⟨w.heap.size, 0, none⟩ = some (Value.slice ao0 g.owner.length cap0) := hF.bx.cell 0 rfl
  clear hb1
  obtain ⟨B, hBe⟩ : ∃ B, B = w.heap.size + 2 := ⟨_, rfl⟩
  have hB1 : B ≤ w1.heap.size := by have := hF.lt; omega
  go_wp2_with (at_make; refine mk_int rfl _ _ _ Tryd.underlying26 rfl B _ s.length rfl rfl rfl (by omega) hB1 ?_; intro w2 hown2 hg2)
  have hBl2 : Below B w1 w2 := (Below.refl _ _).grown hg2 hB1 (fun k hk => by cases hk)
  go_loopg [6, 8] s.length (fun gh vk i wr => ∃ (k : Nat) (l : List Int), gh = s.length - k ∧ i = .int .i64 k ∧ k ≤ s.length ∧ Below B w1 wr ∧ OI wr B (.slice (some ⟨w1.heap.size, 0, none⟩) s.length s.length) l ∧ Hid (l.length = s.length) ∧ Hid (∀ v, v < k → s.getD v false = true → l.getD v 0 = ((keptI s v).length : Int)) ∧ OI wr B vk (keptI s k) ∧ Apart (.slice (some ⟨w1.heap.size, 0, none⟩) s.length s.length) vk)
  case atStart => exact ⟨0, _, rfl, rfl, by omega, hBl2, hown2, by show _ = _; simp, fun v hv => absurd hv (by omega), OI_nil _ _, (apart_none rfl).symm⟩
  case round =>
    obtain ⟨k, l, hgk, rfl, hk, hB, hN, HL, HT, hK, hap⟩ := hrel
    have HG := Lib.hid hgk
    clear hgk hown2 hg2 hBl2
    by_cases hlt : k < s.length
    · obtain rfl := hs.ad (by omega)
      have hFr := hF.step (hBe ▸ hB)
      have c1 := cellB hFr.bx.bl (hs.el k hlt)
      unfold bvF at c1
      rw [getD_lt _ _ _ hlt] at c1
      have A1 : Hid (s.getD k false = s[k]) := getD_lt _ _ _ hlt
      have hlk : k < l.length := by rw [HL.out]; exact hlt
      have c2 := hN.at' HL.out.symm k hlk
      have f2 := hN.fz HL.out.symm k
      have hkl := keptI_len s k
      obtain ⟨aok, capk, hvk⟩ := hK.slice
      subst hvk
      have HN := Lib.hid hN
      have HK := Lib.hid hK
      have HB := Lib.hid hB
      have HTN : Hid (s.getD k false = true → ∀ v, v < k + 1 → s.getD v false = true → (l.set k ((keptI s k).length : Int)).getD v 0 = ((keptI s v).length : Int)) := fun _ v hv hsv => by
        by_cases e : k = v
        · subst e; simp [List.getD, hlk]
        · rw [List.getD, List.getElem?_set_ne e]; exact HT.out v (by omega) hsv
      have HTF : Hid (s.getD k false = false → ∀ v, v < k + 1 → s.getD v false = true → l.getD v 0 = ((keptI s v).length : Int)) := fun h v hv hsv => by
        by_cases e : v = k
        · subst e; rw [h] at hsv; cases hsv
        · exact HT.out v (by omega) hsv
      have hBs : B ≤ (wr.setCell ⟨w1.heap.size, k, none⟩ (.int .i64 ((keptI s k).length : Int))).heap.size := by rw [World.size_setCell]; exact Nat.le_trans hB1 hB.size
      have hnl : (keptI s k).length < 17592186043904 := by omega
      have HAP := Lib.hid hap
      clear hN hK hB hap
      cases hq : s[k]
      · rw [hq] at c1
        go_wp2
        go_roundg (s.length - (k + 1))
        case measure => have := HG.out; omega
        case rel => exact ⟨k + 1, _, rfl, by go_num, by omega, HB.out, HN.out, HL, HTF.out (by rw [A1.out, hq]), by rw [keptI_succ, A1.out, hq]; exact HK.out, HAP.out⟩
      · rw [hq] at c1
        have HN' : Hid (OI (wr.setCell ⟨w1.heap.size, k, none⟩ (.int .i64 ((keptI s k).length : Int))) B (.slice (some ⟨w1.heap.size, 0, none⟩) s.length s.length) (l.set k ((keptI s k).length : Int))) := HN.out.set HL.out.symm k _
        have HK' : Hid (OI (wr.setCell ⟨w1.heap.size, k, none⟩ (.int .i64 ((keptI s k).length : Int))) B (.slice aok (keptI s k).length capk) (keptI s k)) := HK.out.setNe (fun e => HAP.out _ rfl e)
        have HB' : Hid (Below B w1 (wr.setCell ⟨w1.heap.size, k, none⟩ (.int .i64 ((keptI s k).length : Int)))) := HB.out.setCell hB1 _
        go_wp2_with (at_builtin; refine app_int rfl _ _ (k : Int) rfl B _ _ HK'.out rfl _ (by simp) rfl hnl hBs ?_; intro v' w' hown' hg hmv)
        go_roundg (s.length - (k + 1))
        case measure => have := HG.out; omega
        case rel => exact ⟨k + 1, _, rfl, by go_num, by omega, HB'.out.grown hg hBs (fun g hg => HK'.out.ge g hg), HN'.out.grownA hg HAP.out, by show _ = _; rw [List.length_set]; exact HL.out, HTN.out (by rw [A1.out, hq]), by rw [keptI_succ, A1.out, hq]; exact hown', HAP.out.moved hmv (fun g hg => by rw [World.size_setCell]; exact HN'.out.lt' g hg |> fun h => by simpa using h)⟩
    · obtain rfl : k = s.length := by omega
      have hFr := hF.step (hBe ▸ hB)
      have hlN : Hid (l.length = s.length) := HL.out
      have HTL : Hid (∀ v, v < s.length → s.getD v false = true → l.getD v 0 = ((keptI s v).length : Int)) := HT.out
      obtain ⟨w3, rfl⟩ : ∃ w3 : World, w3 = wr := ⟨_, rfl⟩
      have hB3 : B ≤ w3.heap.size := Nat.le_trans hB1 hB.size
      have hkm := fun v (hv : v ∈ keptI s s.length) => keptI_mem hv
      have hkl0 := keptI_len s s.length
      generalize hks : keptI s s.length = ks at *
      clear hks HT HL HG hF hB hB1 d0
      have HKM := Lib.hid hkm
      clear hkm
      obtain ⟨aok, capk, hvk⟩ := hK.slice
      subst hvk
      have hSep : Sep [(.slice (some ⟨w1.heap.size, 0, none⟩) s.length s.length : Value), .slice aok ks.length capk] := List.pairwise_cons.2 ⟨(fun x hx => by rw [List.mem_singleton.1 hx]; exact hap), List.pairwise_cons.2 ⟨(fun x hx => by cases hx), List.Pairwise.nil⟩⟩
      have hGB := GB.start (B := B) (others := [(.slice (some ⟨w1.heap.size, 0, none⟩) s.length s.length : Value), .slice aok ks.length capk]) (w := w3) hB3 hSep (fun u hu g hg => by
        simp only [List.mem_cons, List.not_mem_nil, or_false] at hu
        rcases hu with rfl | rfl
        · exact hN.lt' g hg
        · exact hK.lt' g hg)
      have hN3 := hN.below (bel_box (.cells #[.slice none 0 0, .slice none 0 0, .slice none 0 0] 28))
      have hK3 := hK.below (bel_box (.cells #[.slice none 0 0, .slice none 0 0, .slice none 0 0] 28))
      clear hN hK hSep hap
      go_wp2
      generalize w1.heap.size = n1 at *
      go_loopg [5, 10] ks.length (fun gh r5 i wr => ∃ (k : Nat) (x0 x1 x2 : Value) (vals : List Value), gh = ks.length - k ∧ i = .int .i64 k ∧ r5 = .slice none 0 0 ∧ k ≤ ks.length ∧ Below B w3 wr ∧ GB wr B w3.heap.size x0 x1 x2 vals (partG g s (ks.take k)) [.slice (some ⟨n1, 0, none⟩) s.length s.length, .slice aok ks.length capk] ∧ OI wr B (.slice (some ⟨n1, 0, none⟩) s.length s.length) l ∧ OI wr B (.slice aok ks.length capk) ks ∧ Hid (partOK g s (ks.take k) = true))
      case atStart => exact ⟨0, _, _, _, _, rfl, rfl, rfl, by omega, (bel_box _).mono hB3, hGB, hN3, hK3, rfl⟩
      case round =>
        obtain ⟨k, x0, x1, x2, vals, hgk, rfl, rfl, hk, hB, hG, hN, hK, HP⟩ := hrel
        have HG := Lib.hid hgk
        clear hgk hGB hN3 hK3
        by_cases hlt : k < ks.length
        · have hFw := hFr.step (hBe ▸ hB)
          obtain ⟨gb, cb, hv', -, -⟩ := hK.row (by omega)
          simp only [Value.slice.injEq] at hv'
          obtain ⟨rfl, -, rfl⟩ := hv'
          have c1 := hK.at' rfl k hlt
          obtain ⟨n, hn, hns', hnb⟩ := HKM.out ks[k] (List.getElem_mem hlt)
          rw [hn] at c1
          have hn2 : n < g.succ.length := by rw [HON.out.2.2]; exact hns'
          have hn0 : n < g.owner.length := by rw [HON.out.1]; exact hns'
          have hn1 : n < g.prio.length := by rw [HON.out.2.1]; exact hns'
          obtain rfl := g2.ad (by omega)
          obtain rfl := g0.ad (by omega)
          obtain rfl := g1.ad (by omega)
          have c2 := cellB hFw.bx.bl (g2.el n hn2)
          obtain ⟨⟨ao3, cap3, b3, off3, hv3, g3⟩, -⟩ := hr n hn2
          rw [hv3] at c2
          have HV3 := Lib.hid hv3
          have hrg := HRG.out n hns'
          have hsl := HS.out n
          generalize hrow : g.succ.getD n [] = row at *
          have HRR := Lib.hid hrg
          have HKN := Lib.hid hn
          have HROW := Lib.hid hrow
          clear hrg hv3 hn hrow hnb
          have HC2 : Hid (∀ W : World, Below w.heap.size w W → W.cell? ⟨b2, off2 + n, none⟩ = some (.slice ao3 row.length cap3)) := fun W hW => by
            have hz := g2.el n hn2
            rw [HV3.out] at hz
            exact cellB hW hz
          have d2 : wr.cell? ⟨w.heap.size, 2, none⟩ = some (Value.slice (some ⟨b2, off2, none⟩) g.succ.length cap2) := hFw.bx.cell 2 rfl
          have hBr : B ≤ wr.heap.size := Nat.le_trans hB3 hB.size
          go_wp2
          obtain ⟨wo, rfl⟩ : ∃ wo : World, wo = wr := ⟨_, rfl⟩
          go_loopg [12, 13] row.length (fun gh vS i wx => ∃ (j : Nat), gh = row.length - j ∧ i = .int .i64 j ∧ j ≤ row.length ∧ Below B wo wx ∧ GB wx B w3.heap.size x0 x1 x2 vals (partG g s (ks.take k)) [vS, .slice (some ⟨n1, 0, none⟩) s.length s.length, .slice (some ⟨gb, 0, none⟩) ks.length capk] ∧ OI wx B vS (subI s (row.take j)) ∧ OI wx B (.slice (some ⟨n1, 0, none⟩) s.length s.length) l ∧ OI wx B (.slice (some ⟨gb, 0, none⟩) ks.length capk) ks)
          case atStart => exact ⟨0, rfl, rfl, by omega, Below.refl _ _, hG.add rfl, OI_nil _ _, hN, hK⟩
          case round =>
            obtain ⟨j, hgj, rfl, hj, hB2, hG2, hS2, hN2, hK2⟩ := hrel
            have HGJ := Lib.hid hgj
            clear hgj d2 c1 c2
            have hFy := hFw.step (hBe ▸ hB2)
            have d2 : wr.cell? ⟨w.heap.size, 2, none⟩ = some (Value.slice (some ⟨b2, off2, none⟩) g.succ.length cap2) := hFy.bx.cell 2 rfl
            have c2 := HC2.out wr hFy.bx.bl
            clear hFy
            by_cases hltj : j < row.length
            · obtain rfl := g3.ad (by omega)
              have hFx := hFw.step (hBe ▸ hB2)
              have c3 := cellB hFx.bx.bl (g3.el j hltj)
              unfold ivF at c3
              rw [getD_lt _ _ _ hltj] at c3
              obtain ⟨y0, y1⟩ := HRR.out row[j] (List.getElem_mem hltj)
              obtain ⟨m, hm⟩ := Int.eq_ofNat_of_zero_le y0
              have hms : m < s.length := by omega
              rw [hm] at c3
              obtain rfl := hs.ad (by omega)
              have c4 := cellB hFx.bx.bl (hs.el m hms)
              unfold bvF at c4
              rw [getD_lt _ _ _ hms] at c4
              have A1 : Hid (atB s row[j] = s[m]) := by show _ = _; rw [atB, hm]; simp [hms]
              have hml : m < l.length := by rw [hlN.out]; exact hms
              have hlm : Hid (s[m] = true → l[m] = ((keptI s m).length : Int)) := fun h => by
                have := HTL.out m hms (by rw [getD_lt _ _ _ hms]; exact h)
                rwa [getD_lt _ _ _ hml] at this
              have c5 := hN2.at' hlN.out.symm m hml
              have hsn := subI_snoc s (row.take j) row[j]
              rw [← List.take_succ_eq_append_getElem hltj, A1.out, hm, Int.toNat_natCast] at hsn
              have HSN := Lib.hid hsn
              have hsl2 : (subI s (row.take j)).length < 17592186043904 := by
                have h1 := subI_len s (row.take j)
                have h2 : (row.take j).length ≤ row.length := List.length_take_le' _ _
                omega
              have hBs : B ≤ wr.heap.size := Nat.le_trans hBr hB2.size
              have HN2 := Lib.hid hN2
              have HK2 := Lib.hid hK2
              have HS2 := Lib.hid hS2
              have HG2 := Lib.hid hG2
              have HB2 := Lib.hid hB2
              clear hsn y0 y1 hm hN2 hK2 hS2 hG2 hB2
              cases hq : s[m]
              · rw [hq] at c4
                clear c5 hml hlm
                go_wp2
                go_roundg (row.length - (j + 1))
                case measure => have := HGJ.out; omega
                case rel => exact ⟨j + 1, rfl, by go_num, by omega, HB2.out, HG2.out, by rw [HSN.out, hq]; exact HS2.out, HN2.out, HK2.out⟩
              · rw [hq] at c4
                rw [hlm.out hq] at c5
                clear hml hlm
                generalize ((keptI s m).length : Int) = km at *
                go_wp2_with (at_builtin; refine app_int rfl _ _ km rfl B _ _ HS2.out rfl _ (by simp) rfl hsl2 hBs ?_; intro v' w' hown' hg hmv)
                go_roundg (row.length - (j + 1))
                case measure => have := HGJ.out; omega
                case rel => exact ⟨j + 1, rfl, by go_num, by omega, HB2.out.grown hg hBs (fun g hg => HS2.out.ge g hg), HG2.out.other (i := 0) rfl hg hmv hown'.lt', by rw [HSN.out, hq]; exact hown', HN2.out.grownA hg (HG2.out.apart (i := 1) (j := 0) (by omega) rfl rfl), HK2.out.grownA hg (HG2.out.apart (i := 2) (j := 0) (by omega) rfl rfl)⟩
            · obtain rfl : j = row.length := by omega
              rw [List.take_length] at hS2
              have hFx := hFw.step (hBe ▸ hB2)
              obtain ⟨aoS, capS, hvS⟩ := hS2.slice
              subst hvS
              have hBs : B ≤ wr.heap.size := Nat.le_trans hBr hB2.size
              by_cases he : (subI s row).length = 0
              · have hz0 : (((subI s row).length : Int) == 0) = true := by simp [he]
                have HRX : Hid (partR g s = (⟨[], [], []⟩, [])) := HRF.out (all_false_of ks _ k hlt (by rw [HKN.out, Int.toNat_natCast, HROW.out]; simp [List.eq_nil_of_length_eq_zero he]))
                have z0 : wr.cell? ⟨w.heap.size + 1, 0, none⟩ = some (.slice none 0 0) := cell_of_row _ _ 0 _ _ _ hFx.rc
                have z1 : wr.cell? ⟨w.heap.size + 1, 1, none⟩ = some (.slice none 0 0) := cell_of_row _ _ 1 _ _ _ hFx.rc
                have z2 : wr.cell? ⟨w.heap.size + 1, 2, none⟩ = some (.slice none 0 0) := cell_of_row _ _ 2 _ _ _ hFx.rc
                have y0 : wr.frozen? ⟨w.heap.size + 1, 0, none⟩ = false := frozen_of_row _ _ 0 _ _ hFx.rc
                have y1 : wr.frozen? ⟨w.heap.size + 1, 1, none⟩ = false := frozen_of_row _ _ 1 _ _ hFx.rc
                have y2 : wr.frozen? ⟨w.heap.size + 1, 2, none⟩ = false := frozen_of_row _ _ 2 _ _ hFx.rc
                clear he
                go_wp2
                (have hc3 := three_set (a := Value.slice none 0 0) (b := Value.slice none 0 0) (c := Value.slice none 0 0) hFx.rc); (have c0 := cell_of_row _ _ 0 _ _ _ hc3); (have c1 := cell_of_row _ _ 1 _ _ _ hc3); (have c2 := cell_of_row _ _ 2 _ _ _ hc3); (refine bodyPost_ret (v := .tuple #[.agg #[Value.slice none 0 0, Value.slice none 0 0, Value.slice none 0 0], Value.slice none 0 0]) (by simp [results, Tryd.results16, go_sem, c0, c1, c2]) rfl ?_)
                exact nil_end HRX.out hFx
              · have hz0 : (((subI s row).length : Int) == 0) = false := by rw [beq_eq_false_iff_ne]; omega
                have HNE : Hid ((subI s row).length ≠ 0) := he
                have HP2 : Hid (partOK g s (ks.take (k + 1)) = true) := by
                  show _ = _
                  unfold partOK
                  rw [all_take_succ _ _ _ hlt, HKN.out, Int.toNat_natCast, HROW.out]
                  have h1 := HP.out
                  unfold partOK at h1
                  rw [h1]
                  cases hh : subI s row with
                  | nil => rw [hh] at he; exact absurd rfl he
                  | cons a b => rfl
                have hGL : (partG g s (ks.take k)).owner.length ≤ 3000 ∧ (partG g s (ks.take k)).prio.length ≤ 3000 ∧ (partG g s (ks.take k)).succ.length ≤ 3000 := by
                  have : (ks.take k).length ≤ 3000 := Nat.le_trans (List.length_take_le' k ks) (Nat.le_trans hkl0 hle)
                  simp only [partG, List.length_map]; exact ⟨this, this, this⟩
                have HGN : Hid (partG g s (ks.take (k + 1)) = ⟨(partG g s (ks.take k)).owner ++ [g.owner.getD n 0], (partG g s (ks.take k)).prio ++ [g.prio.getD n 0], (partG g s (ks.take k)).succ ++ [subI s row]⟩) := by
                  show _ = _
                  rw [List.take_succ_eq_append_getElem hlt, partG_snoc, HKN.out, Int.toNat_natCast, HROW.out]
                clear he HP
                generalize hgm : partG g s (ks.take k) = gm at *
                clear hgm
                have hGL0 := hGL.1
                have hGL1 := hGL.2.1
                have hGL2 := hGL.2.2
                clear hGL
                obtain ⟨w5, rfl⟩ : ∃ w5 : World, w5 = wr := ⟨_, rfl⟩
                have hzl := hG2.zlt
                have hi0 : (0 : Int) ≤ n := Int.natCast_nonneg _
                have HGP : Hid (∀ o : List Int, (⟨o, gm.prio, gm.succ⟩ : Gm).prio = gm.prio) := fun _ => rfl
                have how := g0.el n hn0
                have hpw := g1.el n hn1
                unfold ivF at how hpw
                generalize g.owner.getD n 0 = ow at *
                generalize g.prio.getD n 0 = pw at *
                have HC0 : Hid (∀ W : World, Below w.heap.size w W → W.cell? ⟨b0, off0 + n, none⟩ = some (.int .i64 ow)) := fun W hW => cellB hW how
                have HC1 : Hid (∀ W : World, Below w.heap.size w W → W.cell? ⟨b1, off1 + n, none⟩ = some (.int .i64 pw)) := fun W hW => cellB hW hpw
                clear how hpw
                have HG2 := Lib.hid hG2
                have HS2 := Lib.hid hS2
                have HN2 := Lib.hid hN2
                have HK2 := Lib.hid hK2
                have HFx := Lib.hid hFx
                have HBl := Lib.hid (hB2 : Below B wo w5)
                have HBo := Lib.hid (hB : Below B w3 wo)
                clear hG2 hS2 hN2 hK2 hFx hFw hG hN hK hB2 hB
                have q0 : w5.cell? ⟨w3.heap.size, 0, none⟩ = some x0 := cell_of_row _ _ 0 _ _ _ HG2.out.box
                have d0 : w5.cell? ⟨w.heap.size, 0, none⟩ = some (Value.slice (some ⟨b0, off0, none⟩) g.owner.length cap0) := HFx.out.bx.cell 0 rfl
                have c0 := HC0.out _ HFx.out.bx.bl
                have hzl := HG2.out.zlt
                have hi1 : (n : Int) < g.owner.length := by omega
                have hGo := HG2.out.o
                go_upto_region 24 with (fail)
                go_cut [] (fun wx => ∃ (y0 : Value) (wz : World), wz = wx ∧ GB wz B w3.heap.size y0 x1 x2 vals ⟨gm.owner ++ [ow], gm.prio, gm.succ⟩ [.slice aoS (subI s row).length capS, .slice (some ⟨n1, 0, none⟩) s.length s.length, .slice (some ⟨gb, 0, none⟩) ks.length capk] ∧ Kept B [.slice aoS (subI s row).length capS, .slice (some ⟨n1, 0, none⟩) s.length s.length, .slice (some ⟨gb, 0, none⟩) ks.length capk] w5 wz)
                case first =>
                  go_region_law ((rw [if_pos (by rfl)]; refine wp_app_int w5 _ _ ow (by rfl) B x0 _ (by rfl) hGo (by rfl) (by omega) hBs ?_; intro y0 w6 hown6 hg6 hmv6; obtain ⟨aoy, capy, hvy⟩ := hown6.slice; rw [List.length_append, List.length_singleton] at hvy; subst hvy; have hb6 : Below B w5 w6 := (Below.refl _ _).grown hg6 hBs (fun g hg => HG2.out.o.ge g hg); have hF6 := HFx.out.step (hBe ▸ hb6); have HST := Lib.hid (HG2.out.stepO hown6 hg6 hmv6 hBs); have k0 : w6.cell? ⟨w3.heap.size, 0, none⟩ = some x0 := cell_of_row _ _ 0 _ _ _ HST.out.1; have f0 : w6.frozen? ⟨w3.heap.size, 0, none⟩ = false := frozen_of_row _ _ 0 _ _ HST.out.1))
                  all_goals
                    go_wp2_with fail
                    go_meet
                    case rel => exact ⟨_, _, rfl, HST.out.2⟩
                case rest =>
                  obtain ⟨y1, w7, rfl, hG7, hK7⟩ := hcut
                  clear q0 d0 c0 hzl hi1 hGo
                  have HS7 := Lib.hid (hK7.oi _ (by simp) _ _ HS2.out)
                  have HN7 := Lib.hid (hK7.oi _ (by simp) _ _ HN2.out)
                  have HK7 := Lib.hid (hK7.oi _ (by simp) _ _ HK2.out)
                  have HF7 := Lib.hid (HFx.out.step (hBe ▸ hK7.bl))
                  have HBl7 := Lib.hid (HBl.out.trans hK7.bl)
                  have hBs7 : B ≤ w7.heap.size := Nat.le_trans hBs hK7.bl.size
                  have HG7 := Lib.hid hG7
                  clear hG7 hK7 HS2 HN2 HK2 HFx HBl HG2 hBs
                  have q0 : w7.cell? ⟨w3.heap.size, 1, none⟩ = some x1 := cell_of_row _ _ 1 _ _ _ HG7.out.box
                  have d0 : w7.cell? ⟨w.heap.size, 1, none⟩ = some (Value.slice (some ⟨b1, off1, none⟩) g.prio.length cap1) := HF7.out.bx.cell 1 rfl
                  have c0 := HC1.out _ HF7.out.bx.bl
                  have hzl := HG7.out.zlt
                  have hi1 : (n : Int) < g.prio.length := by omega
                  have hGo : OI w7 B x1 gm.prio := HG7.out.p
                  go_wp2_with fail
                  go_upto_region 25 with (fail)
                  go_cut [] (fun wx => ∃ (y0 : Value) (wz : World), wz = wx ∧ GB wz B w3.heap.size y1 y0 x2 vals ⟨gm.owner ++ [ow], gm.prio ++ [pw], gm.succ⟩ [.slice aoS (subI s row).length capS, .slice (some ⟨n1, 0, none⟩) s.length s.length, .slice (some ⟨gb, 0, none⟩) ks.length capk] ∧ Kept B [.slice aoS (subI s row).length capS, .slice (some ⟨n1, 0, none⟩) s.length s.length, .slice (some ⟨gb, 0, none⟩) ks.length capk] w7 wz)
                  case first =>
                    go_region_law ((rw [if_pos (by rfl)]; refine wp_app_int w7 _ _ pw (by rfl) B x1 _ (by rfl) hGo (by rfl) (by omega) hBs7 ?_; intro y0 w6 hown6 hg6 hmv6; obtain ⟨aoy, capy, hvy⟩ := hown6.slice; rw [List.length_append, List.length_singleton] at hvy; subst hvy; have hb6 : Below B w7 w6 := (Below.refl _ _).grown hg6 hBs7 (fun g hg => HG7.out.p.ge g hg); have HST := Lib.hid (HG7.out.stepP hown6 hg6 hmv6 hBs7); have k0 : w6.cell? ⟨w3.heap.size, 1, none⟩ = some x1 := cell_of_row _ _ 1 _ _ _ HST.out.1; have f0 : w6.frozen? ⟨w3.heap.size, 1, none⟩ = false := frozen_of_row _ _ 1 _ _ HST.out.1))
                    all_goals
                      go_wp2_with fail
                      go_meet
                      case rel => exact ⟨_, _, rfl, HST.out.2⟩
                  case rest =>
                    obtain ⟨y2, w8, rfl, hG8, hK8⟩ := hcut
                    clear q0 d0 c0 hzl hi1 hGo
                    have HS8 := Lib.hid (hK8.oi _ (by simp) _ _ HS7.out)
                    have HN8 := Lib.hid (hK8.oi _ (by simp) _ _ HN7.out)
                    have HK8 := Lib.hid (hK8.oi _ (by simp) _ _ HK7.out)
                    have HF8 := Lib.hid (HF7.out.step (hBe ▸ hK8.bl))
                    have HBl8 := Lib.hid (HBl7.out.trans hK8.bl)
                    have hBs8 : B ≤ w8.heap.size := Nat.le_trans hBs7 hK8.bl.size
                    have HG8 := Lib.hid hG8
                    have hzl := hG8.zlt
                    have q2 : w8.cell? ⟨w3.heap.size, 2, none⟩ = some x2 := cell_of_row _ _ 2 _ _ _ hG8.box
                    clear hG8 hK8 HS7 HN7 HK7 HF7 HBl7 HG7 hBs7
                    go_wp2_with (at_builtin; refine app_row rfl _ _ _ rfl B _ _ vals HG8.out.r rfl _ (by simp) rfl (OI_oneCell HS8.out) (by show gm.succ.length < _; omega) hBs8 ?_; intro v2' w9 hown9 hg9 hmv9; obtain ⟨ao9, cap9, hv9⟩ := ownsRow_slice hown9; subst hv9; have HST := Lib.hid (HG8.out.stepR HS8.out hown9 hg9 hmv9 hBs8); have k2 : w9.cell? ⟨w3.heap.size, 2, none⟩ = some x2 := cell_of_row _ _ 2 _ _ _ HST.out.1; have f2 : w9.frozen? ⟨w3.heap.size, 2, none⟩ = false := frozen_of_row _ _ 2 _ _ HST.out.1)
                    go_roundg (ks.length - (k + 1))
                    case measure => have := HG.out; omega
                    case rel =>
                      obtain ⟨-, h1, h2⟩ := HST.out
                      rw [← HGN.out] at h1
                      exact ⟨k + 1, y1, y2, _, _, rfl, by go_num, rfl, by omega, HBo.out.trans (HBl8.out.trans h2.bl), h1, h2.oi _ (by simp) _ _ HN8.out, h2.oi _ (by simp) _ _ HK8.out, HP2⟩
        · obtain rfl : k = ks.length := by omega
          rw [List.take_length] at hG HP
          have hFw := hFr.step (hBe ▸ hB)
          have HRX : Hid (partR g s = (partG g s ks, ks)) := HRT.out HP.out
          obtain ⟨oa0, oc0, hx0⟩ := hG.o.slice
          obtain ⟨oa1, oc1, hx1⟩ := hG.p.slice
          obtain ⟨oa2, oc2, hx2⟩ := ownsRow_slice hG.r
          subst hx0 hx1 hx2
          have q0 : wr.cell? ⟨w3.heap.size, 0, none⟩ = some (.slice oa0 (partG g s ks).owner.length oc0) := cell_of_row _ _ 0 _ _ _ hG.box
          have q1 : wr.cell? ⟨w3.heap.size, 1, none⟩ = some (.slice oa1 (partG g s ks).prio.length oc1) := cell_of_row _ _ 1 _ _ _ hG.box
          have q2 : wr.cell? ⟨w3.heap.size, 2, none⟩ = some (.slice oa2 (partG g s ks).succ.length oc2) := cell_of_row _ _ 2 _ _ _ hG.box
          have z0 : wr.cell? ⟨w.heap.size + 1, 0, none⟩ = some (.slice none 0 0) := cell_of_row _ _ 0 _ _ _ hFw.rc
          have z1 : wr.cell? ⟨w.heap.size + 1, 1, none⟩ = some (.slice none 0 0) := cell_of_row _ _ 1 _ _ _ hFw.rc
          have z2 : wr.cell? ⟨w.heap.size + 1, 2, none⟩ = some (.slice none 0 0) := cell_of_row _ _ 2 _ _ _ hFw.rc
          have y0 : wr.frozen? ⟨w.heap.size + 1, 0, none⟩ = false := frozen_of_row _ _ 0 _ _ hFw.rc
          have y1 : wr.frozen? ⟨w.heap.size + 1, 1, none⟩ = false := frozen_of_row _ _ 1 _ _ hFw.rc
          have y2 : wr.frozen? ⟨w.heap.size + 1, 2, none⟩ = false := frozen_of_row _ _ 2 _ _ hFw.rc
          have HGg := Lib.hid hG
          have HKk := Lib.hid hK
          have HBB : Hid (w.heap.size + 1 < B) := by show _ < _; omega
          clear hG hK hN hB
          go_wp2
          (have hc3 := three_set (a := Value.slice oa0 (partG g s ks).owner.length oc0) (b := Value.slice oa1 (partG g s ks).prio.length oc1) (c := Value.slice oa2 (partG g s ks).succ.length oc2) hFw.rc); (have c0 := cell_of_row _ _ 0 _ _ _ hc3); (have c1 := cell_of_row _ _ 1 _ _ _ hc3); (have c2 := cell_of_row _ _ 2 _ _ _ hc3); (refine bodyPost_ret (v := .tuple #[.agg #[Value.slice oa0 (partG g s ks).owner.length oc0, Value.slice oa1 (partG g s ks).prio.length oc1, Value.slice oa2 (partG g s ks).succ.length oc2], Value.slice aok ks.length capk]) (by simp [results, Tryd.results16, go_sem, c0, c1, c2]) rfl ?_)
          refine full_end HRX.out hFw HBB.out HGg.out HKk.out (by omega) (fun v hv => ?_) i0 i1 (fun i => HS.out i) (fun i => keptI_len s i) (fun v hv x hx => ?_)
          · obtain ⟨n, rfl, hn, -⟩ := HKM.out v hv
            unfold I64; omega
          · obtain ⟨n, rfl, hn, -⟩ := HKM.out v hv
            rw [Int.toNat_natCast] at hx
            have := HRG.out n hn x hx
            omega

end Go.Proofs.YtjadeffdcbchnaaDoor
