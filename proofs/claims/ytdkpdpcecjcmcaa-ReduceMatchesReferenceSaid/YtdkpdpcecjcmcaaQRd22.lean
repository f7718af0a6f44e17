/- What Trim returns. -/
import Derived.Test.YtdkpdpcecjcmcaaQRd19
import Derived.Test.YtdkpdpcecjcmcaaQRd20
import Derived.Test.YtdkpdpcecjcmcaaQRegG
namespace Go.Proofs.Ytdkpdpcecjcmcaa
open Go.RowKit

theorem fillL_congr {f g : Nat → Int} {k x : Nat} (h : ∀ j, j < x → f j = g j) : fillL f k x = fillL g k x := by
  unfold fillL
  refine List.map_congr_left fun j _ => ?_
  by_cases e : j < x
  · rw [if_pos e, if_pos e, h j e]
  · rw [if_neg e, if_neg e]
theorem fillL_idx (l row : List Int) : fillL (fun j => (l.idxOf (row.getD j 0) : Int)) row.length row.length = idxR l row := by
  rw [fillL_all]
  apply List.ext_getElem (by simp [idxR])
  intro i h1 h2
  have : i < row.length := by simpa using h1
  simp [idxR, this]
theorem addR_take {l row : List Int} {x : Nat} (hx : x < row.length) : addR l (row.take (x + 1)) = addI (addR l (row.take x)) (row.getD x 0) := by
  rw [← addR_snoc, List.take_succ_eq_append_getElem hx, getD_lt _ _ _ hx]

def R12_18 (C0 bw z bP oP gT n s N nl np x cP cT cC cQ : Nat) (aC aQ : Option Addr) (row : List Int) (ix : Nat) (u : Value) (W : World) : Prop :=
  match ix with
  | 0 => u = .pointer (some ⟨z, 3, none⟩)
  | 1 => u = .slice aC np cC
  | 2 => u = .pointer (some ⟨bw, 3, none⟩)
  | 3 => u = .slice (some ⟨bP, oP, none⟩) N cP
  | 4 => u = .slice (some ⟨gT, 0, none⟩) nl cT
  | 5 => u = .int .i64 (n : Int)
  | 6 => u = .pointer (some ⟨gT, n, none⟩)
  | 7 => u = .int .i64 (s : Int)
  | 8 => u = .pointer (some ⟨bP, oP + s, none⟩)
  | 9 => u = .slice aQ x cQ
  | 10 => FreshRow C0 row u W
  | 11 => FreshEl C0 row u W
  | 12 => True
  | 13 => u = .pointer (some ⟨z, 3, none⟩)
  | 14 => True
  | _ => True
theorem R12_18.mono (C0 bw z bP oP gT n s N nl np x cP cT cC cQ : Nat) (aC aQ : Option Addr) (row : List Int) (i : Nat) (v : Value) (W W' : World) (h : R12_18 C0 bw z bP oP gT n s N nl np x cP cT cC cQ aC aQ row i v W) (hb : Below W.heap.size W W') : R12_18 C0 bw z bP oP gT n s N nl np x cP cT cC cQ aC aQ row i v W' := by
  match i, h with
  | 0, h => exact h
  | 1, h => exact h
  | 2, h => exact h
  | 3, h => exact h
  | 4, h => exact h
  | 5, h => exact h
  | 6, h => exact h
  | 7, h => exact h
  | 8, h => exact h
  | 9, h => exact h
  | 10, h => exact FreshRow.below h hb
  | 11, h => exact FreshEl.below h hb
  | 12, h => exact h
  | 13, h => exact h
  | 14, h => exact h
  | _ + 15, h => exact h

set_option maxRecDepth 100000 in
set_option maxHeartbeats 8000000 in
theorem Trim_c (w : World) (v : Value) (a : Au) (ha : IsAuto w v a) : Calls Try.prog 12 #[v] w (NewAuto (trimF a) w) := by
  have HA := Lib.hid ha
  obtain ⟨vN, vP, rfl, hI, hN, hP⟩ := ha
  have hmx : Try.prog.follows .mixedOrders = true := by kernel_rfl
  cases hv : validA a with
  | false =>
    have hF := FA.start w #[.int .i64 a.letters, .int .i64 a.start, vN, vP]
    have HR : Hid (trimF a = noAu) := by show _ = _; simp [trimF, hv]
    have HV := Lib.hid (PValid_c ((w.alloc (.cells #[.int .i64 a.letters, .int .i64 a.start, vN, vP] 24)).alloc (.cells #[.int .i64 0, .int .i64 0, .slice none 0 0, .slice none 0 0] 24)) _ a (HA.out.below hF.bl))
    obtain ⟨c0, c1, c2, c3⟩ := hF.cells
    clear hI hN hP
    go_enter Try.func12, Try.ntmps12
    go_upto_region 1 with (fail)
    generalize ((w.alloc (.cells #[.int .i64 a.letters, .int .i64 a.start, vN, vP] 24)).alloc (.cells #[.int .i64 0, .int .i64 0, .slice none 0 0, .slice none 0 0] 24)) = w2 at *
    go_wp2_with fail
    refine HV.out.mono ?_
    rintro e w3 ⟨rfl, hb3⟩
    rw [hv]
    have hF3 := hF.below hb3
    obtain ⟨⟨z0, z1, z2, z3⟩, y0, y1, y2, y3⟩ := hF3.zero
    clear hb3 hF c0 c1 c2 c3 HV
    go_wp2
    (have hc4 := four_set (a := Value.int .i64 0) (b := Value.int .i64 0) (c := Value.slice none 0 0) (d := Value.slice none 0 0) hF3.rc); (have c0 := cell_of_row _ _ 0 _ _ _ hc4); (have c1 := cell_of_row _ _ 1 _ _ _ hc4); (have c2 := cell_of_row _ _ 2 _ _ _ hc4); (have c3 := cell_of_row _ _ 3 _ _ _ hc4); (refine bodyPost_ret (v := .agg #[Value.int .i64 0, Value.int .i64 0, Value.slice none 0 0, Value.slice none 0 0]) (by simp [results, Try.results12, go_sem, c0, c1, c2, c3]) rfl ?_)
    rw [HR.out]
    exact hF3.fin (fun W _ => noAu_is W)
  | true =>
    have hF := FA.start w #[.int .i64 a.letters, .int .i64 a.start, vN, vP]
    have hA := AuV.of hv
    have HR : Hid (trimF a = trimA a) := by show _ = _; simp [trimF, hv]
    obtain ⟨k, hk⟩ : ∃ k, k = a.letters.toNat := ⟨_, rfl⟩
    rw [← hk] at hA
    have HX := Lib.hid hA
    have hk1 : 1 ≤ k ∧ k ≤ 64 := hA.k1
    have HLk := Lib.hid hA.L
    have hn0 : 0 < a.next.length := by have := hA.n1; omega
    have hn3 : a.next.length ≤ 3000 := hA.n1.2
    clear hk
    obtain ⟨aN, cN, bN, oN, V, hvN, hdN, hmN, hVN⟩ := hN.data
    obtain ⟨aP, cP, bP, oP, VP, hvP, hdP, hmP, hVP⟩ := hP.data
    have HVN := Lib.hid hVN
    have hpl := hA.pn
    rw [hpl] at hdP hvP hVP
    have HVP := Lib.hid hVP
    obtain rfl := hdN hn0
    obtain rfl := hdP hn0
    subst hvN hvP
    have HI := Lib.hid hI
    have HPL := Lib.hid hpl
    have HV := Lib.hid (PValid_c ((w.alloc (.cells #[.int .i64 a.letters, .int .i64 a.start, .slice (some ⟨bN, oN, none⟩) a.next.length cN, .slice (some ⟨bP, oP, none⟩) a.next.length cP] 24)).alloc (.cells #[.int .i64 0, .int .i64 0, .slice none 0 0, .slice none 0 0] 24)) _ a (HA.out.below hF.bl))
    obtain ⟨c0, c1, c2, c3⟩ := hF.cells
    clear hI hN hP hVN hdN hA hdP hVP hpl hmP
    go_enter Try.func12, Try.ntmps12
    go_upto_region 1 with (fail)
    generalize ((w.alloc (.cells #[.int .i64 a.letters, .int .i64 a.start, .slice (some ⟨bN, oN, none⟩) a.next.length cN, .slice (some ⟨bP, oP, none⟩) a.next.length cP] 24)).alloc (.cells #[.int .i64 0, .int .i64 0, .slice none 0 0, .slice none 0 0] 24)) = w2 at *
    go_wp2_with fail
    refine HV.out.mono ?_
    rintro e w3 ⟨rfl, hb3⟩
    rw [hv]
    have HF3 := Lib.hid (hF.below hb3)
    clear c0 c1 c2 c3 HV hb3 hF
    have HMM := @run_makeMap Try.prog
    go_upto_region 5 with (fail)
    have HT5 : Hid (TS (((w3.alloc (.map #[] 0)).alloc (.cells #[.map (some w3.heap.size)] 42)).alloc (.cells #[.slice none 0 0] 29)) (w3.heap.size + 3) (w3.heap.size + 1) (w3.heap.size + 2) w3.heap.size (.slice none 0 0) []) := by
      refine ⟨?_, ?_, ?_, ⟨rfl, .inl ⟨rfl, rfl⟩⟩, ⟨by simp, by omega, by omega, by omega⟩, ⟨by omega, by omega, by omega⟩⟩
      · have := heap_alloc_new (w3.alloc (.map #[] 0)) (.cells #[.map (some w3.heap.size)] 42)
        refine ((bel_box _).block _ (by simp)).trans ?_
        simpa using this
      · have := heap_alloc_new ((w3.alloc (.map #[] 0)).alloc (.cells #[.map (some w3.heap.size)] 42)) (.cells #[.slice none 0 0] 29)
        simpa using this
      · exact ((NumI.made w3).below (bel_box _)).below (bel_box _)
    have hb5 : Below w3.heap.size w3 (((w3.alloc (.map #[] 0)).alloc (.cells #[.map (some w3.heap.size)] 42)).alloc (.cells #[.slice none 0 0] 29)) := (by repeat (first | exact Below.refl _ _ | assumption | (refine belA ?_ _) | (refine belD ?_ _)))
    generalize ((w3.alloc (.map #[] 0)).alloc (.cells #[.map (some w3.heap.size)] 42)).alloc (.cells #[.slice none 0 0] 29) = w5 at *
    obtain ⟨B3, hB3⟩ : ∃ B3, B3 = w3.heap.size := ⟨_, rfl⟩
    have hr3 := HF3.out.lt
    rw [← hB3] at HT5 hb5 hr3
    rw [← hB3]
    have HB5 := Lib.hid hb5
    have HB3 := Lib.hid hB3
    have HF5 := Lib.hid (HF3.out.belowB (by omega) hb5)
    clear HMM hb5 hB3
    obtain ⟨c0, c1, c2, c3⟩ := HF5.out.cells
    have hst := HX.out.st
    have HNum : Hid (∀ W vs l y, TS W (B3 + 3) (B3 + 1) (B3 + 2) B3 vs l → I64 y → l.length ≤ 3000 → Calls Try.prog 33 #[.int .i64 y, .pointer (some ⟨B3 + 1, 0, none⟩), .pointer (some ⟨B3 + 2, 0, none⟩)] W (NumOut W (B3 + 3) (B3 + 1) (B3 + 2) B3 vs l y)) := fun W vs l y h1 h2 h3 => trimNum_c W _ _ _ _ vs l y h1 h2 h3
    go_wp2_with fail
    refine (HNum.out _ _ _ _ HT5.out HI.out.2 (by simp)).mono ?_
    rintro e w6 ⟨rfl, vs6, hT6, hO6, hM6⟩
    have hB6 : Below B3 w5 w6 := hO6.below B3 (by rintro q (e | e | e) <;> first | omega | cases e) (by have := HT5.out.c.1; omega)
    have hT6 : TS w6 (B3 + 3) (B3 + 1) (B3 + 2) B3 vs6 [a.start] := hT6
    have HT6 := Lib.hid hT6
    have HB6 := Lib.hid (HB5.out.trans hB6)
    have HF6 := Lib.hid (HF5.out.belowB (by omega) hB6)
    clear hT6 hO6 hM6 hB6 c0 c1 c2 c3 HT5
    obtain ⟨c0, c1, c2, c3⟩ := HF6.out.cells
    go_upto_region 8 with (fail)
    have hAB := AB.start w6 a.letters 0
    have hb7 : Below w6.heap.size w6 (w6.alloc (.cells #[.int .i64 a.letters, .int .i64 0, .slice none 0 0, .slice none 0 0] 24)) := bel_box _
    have h6c := HT6.out.c
    have hAB1 := hAB.more (X1 := fun q => q ≤ w.heap.size + 1 ∨ hotTS (B3 + 2) B3 vs6 q) (fun q e => .inr ⟨by
      have h1 := hb7.size
      rcases e with e | e | e | e
      · omega
      · omega
      · omega
      · have := HT6.out.o.lt' q e; omega, by
      rcases e with e | e | e | e
      · omega
      · omega
      · omega
      · have := HT6.out.o.lt' q e; omega, fun e => (nomatch e), fun e => (nomatch e)⟩) rfl rfl
    have HAB := Lib.hid hAB1
    have HT7 := Lib.hid (HT6.out.below hb7)
    have HB7 := Lib.hid (HB6.out.trans (hb7.mono (by omega)))
    have hz7 : B3 + 3 ≤ w6.heap.size := h6c.1
    clear hAB hAB1 hb7 c0 c1 c2 c3 HT6 HB6 HF6 h6c HF5 HB5
    obtain ⟨z, hz⟩ : ∃ z, z = w6.heap.size := ⟨_, rfl⟩
    rw [← hz] at HAB hz7
    rw [← hz]
    generalize w6.alloc (.cells #[.int .i64 a.letters, .int .i64 0, .slice none 0 0, .slice none 0 0] 24) = w7 at *
    clear hz
    go_wp2
    go_loopg [7] a.next.length (fun gh i wx => ∃ (n : Nat) (l : List Int) (vs vN' vP' : Value) (nv pv : List Value) (nxs prs : List (List Int)), gh = a.next.length - n ∧ i = .int .i64 (n : Int) ∧ Hid (TrS a n l) ∧ Hid (nxs = nxsA a n l ∧ prs = prsA a n l) ∧ Hid (TS wx (B3 + 3) (B3 + 1) (B3 + 2) B3 vs l) ∧ Hid (AB wx z z a.letters 0 vN' vP' nv pv nxs prs (fun q => q ≤ w.heap.size + 1 ∨ hotTS (B3 + 2) B3 vs q)) ∧ Hid (Below B3 w3 wx))
    case atStart => exact ⟨0, [a.start], vs6, _, _, [], [], [], [], rfl, rfl, TrS.start HX.out, ⟨rfl, rfl⟩, HT7, HAB, HB7⟩
    case round =>
      clear HAB HT7 HB7
      obtain ⟨wo, rfl⟩ : ∃ wo : World, wo = wr := ⟨_, rfl⟩
      obtain ⟨n, l, vs, vN', vP', nv, pv, nxs, prs, hgn, rfl, HTr, HNS, HTo, HABo, HBo⟩ := hrel
      have HGN := Lib.hid hgn
      clear hgn
      have hll := HTr.out.len
      have hnl := HTr.out.nl
      have hln : nxs.length = n := by rw [HNS.out.1, nxsA_len hnl]
      have hlp : prs.length = n := by rw [HNS.out.2, prsA_len hnl]
      have HLN := Lib.hid hln
      have HLP := Lib.hid hlp
      obtain ⟨aA, cA, hvN'⟩ := ownsRow_slice HABo.out.oN
      obtain ⟨aC, cC, hvP'⟩ := ownsRow_slice HABo.out.oP
      obtain ⟨aS, cS, hvs⟩ := HTo.out.o.slice
      subst hvs
      have HFo := Lib.hid (HF3.out.belowB (by omega) HBo.out)
      have hzo := HABo.out.zlt
      obtain ⟨c0, c1, c2, c3⟩ := HFo.out.cells
      have s0 := cell_of_row _ _ 0 _ _ _ HTo.out.s
      clear hln hlp
      by_cases hn : n < l.length
      · as_aux_lemma =>
        clear c1 c3
        have hsr := HTr.out.at' hn
        obtain ⟨s, hs⟩ : ∃ s : Nat, l.getD n 0 = (s : Int) := ⟨(l.getD n 0).toNat, by omega⟩
        have hsn : s < a.next.length := by omega
        obtain ⟨q1, q2⟩ := HVN.out s hsn
        obtain ⟨aR, cR, hVs⟩ := q2.shape
        rw [(HX.out.ln s hsn).1] at hVs
        rw [hVs] at q1 q2
        have HRow : Hid (rowN a (l.getD n 0) = a.next.getD s [] ∧ (a.next.getD s []).length = k) := ⟨by unfold rowN; rw [hs]; rfl, (HX.out.ln s hsn).1⟩
        have HQ2 : Hid (∀ W, Below w.heap.size w W → IsInts W (.slice aR k cR) (a.next.getD s [])) := fun W hW => q2.below hW
        have q1 := cellB HFo.out.bl q1
        obtain ⟨gS, hgS⟩ := ownsRow_at HTo.out.o
        obtain rfl := hgS (by omega)
        have l1 := OI.at' HTo.out.o rfl n hn
        rw [← getD_lt l 0 n hn, hs] at l1
        have hn2 : (n : Int) < l.length := by omega
        have hs2 : (s : Int) < a.next.length := by omega
        have HS := Lib.hid hs
        clear q2 hgS hs hsr
        have hC : Hid (∀ q, hotAB z vN' vP' (fun q => q ≤ w.heap.size + 1 ∨ hotTS (B3 + 2) B3 (.slice (some ⟨gS, 0, none⟩) l.length cS) q) q → q < wo.heap.size) := HABo.out.hlt
        go_upto_region 11 with (fail)
        go_upto_region 12 with (at_make; refine mk_int rfl _ _ _ Try.underlying29 rfl wo.heap.size a.letters k rfl rfl HLk.out (by omega) (Nat.le_refl _) ?_; intro w8 hown hg1; have HO8 := Lib.hid hown; have hB8 : Below wo.heap.size wo w8 := below_of_grown hg1 (fun q e => (nomatch e)) (Nat.le_refl _); have HB8 := Lib.hid hB8; have c2 := cellB hB8 c2; have s0 := cellB hB8 s0; have l1 := cellB hB8 l1; have q1 := cellB hB8 q1; clear hown hg1 hB8)
        refine wp_region_quiet_lit (by kernel_rfl) (by kernel_rfl) ?_
        ((repeat (go_big_quiet_step (fail))); refine wpQuiet_nil ?_; rintro _ ⟨nq, rfl⟩)
        have HO9 : Hid (OI (w8.drewN nq) wo.heap.size (.slice (some ⟨wo.heap.size, 0, none⟩) k k) (List.replicate k 0)) := HO8.out.below (below_draws _ _ _)
        have HB9 : Hid (Below wo.heap.size wo (w8.drewN nq)) := HB8.out.trans ((below_draws _ _ _).mono HB8.out.size)
        clear c2 s0 l1 q1 HO8 HB8
        generalize w8.drewN nq = w9 at *
        obtain ⟨C, hCe⟩ : ∃ C, C = wo.heap.size := ⟨_, rfl⟩
        rw [← hCe] at HO9 HB9 hC
        rw [← hCe]
        have HCe := Lib.hid hCe
        have hzC : z < C := by omega
        have hk0 : (0 : Int) ≤ (k : Int) := by omega
        clear hCe
        rw [fillL_zero (fun j => (l.idxOf ((a.next.getD s []).getD j 0) : Int)) k] at HO9
        have HT9 := Lib.hid (HTo.out.below (by rw [← HCe.out]; exact HB9.out))
        have HP9 : Hid (Only (hotTS (B3 + 2) B3 (.slice (some ⟨gS, 0, none⟩) l.length cS)) wo w9) := Only.of_below (by rw [← HCe.out]; exact HB9.out)
        have HZ9 := Lib.hid (HBo.out.trans (HB9.out.mono (by omega)))
        have HN9 : Hid ((.slice (some ⟨gS, 0, none⟩) l.length cS : Value).ownBlock ≠ some C) := fun e => by have h1 := hC.out C (.inr (.inr (.inr (.inr (.inr (.inr e)))))); omega
        have HM9 : Hid (Moved wo (.slice (some ⟨gS, 0, none⟩) l.length cS) (.slice (some ⟨gS, 0, none⟩) l.length cS)) := Moved.refl _ _
        have HL9 : Hid (l = addR l ((a.next.getD s []).take 0)) := by show _ = _; simp [addR]
        go_wp2
        go_loopg [42] k (fun gh i wx => ∃ (x : Nat) (l1 : List Int) (vs1 : Value), gh = k - x ∧ i = .int .i64 (x : Int) ∧ x ≤ k ∧ Hid (l1 = addR l ((a.next.getD s []).take x)) ∧ Hid (TS wx (B3 + 3) (B3 + 1) (B3 + 2) B3 vs1 l1) ∧ Hid (OI wx C (.slice (some ⟨C, 0, none⟩) k k) (fillL (fun j => (l1.idxOf ((a.next.getD s []).getD j 0) : Int)) k x)) ∧
          Hid (vs1.ownBlock ≠ some C) ∧ Hid (Only (hotTS (B3 + 2) B3 (.slice (some ⟨gS, 0, none⟩) l.length cS)) wo wx) ∧ Hid (Moved wo (.slice (some ⟨gS, 0, none⟩) l.length cS) vs1) ∧ Hid (Below B3 w3 wx))
        case atStart => exact ⟨0, l, _, rfl, rfl, by omega, HL9, HT9, HO9, HN9, HP9, HM9, HZ9⟩
        case round =>
          clear HO9 HB9 HT9 HP9 HZ9 HN9 HM9 HL9
          obtain ⟨x, l1, vs1, hgx, rfl, hxk, HLx, HTx, HOx, HNx, HPx, HMx, HZx⟩ := hrel
          have HGX := Lib.hid hgx
          clear hgx
          have hsw := HPx.out.size
          have hrl : (a.next.getD s []).length = k := HRow.out.2
          have HRL := Lib.hid hrl
          have HRG : Hid (∀ y ∈ a.next.getD s [], 0 ≤ y ∧ y < a.next.length) := fun y hy => by
            have h1 := rowN_rg HX.out (s := l.getD n 0) (HTr.out.at' hn)
            rw [HRow.out.1] at h1
            exact h1.2 y hy
          have hl1 : l1.length ≤ a.next.length := by
            rw [HLx.out]
            refine nd_int (addR_nd HTr.out.nd) fun y hy => ?_
            rcases addR_mem.1 hy with h | h
            · exact HTr.out.rg y h
            · exact HRG.out y (List.mem_of_mem_take h)
          clear hrl
          by_cases hx : x < k
          · as_aux_lemma =>
            obtain ⟨bR, oR, had, -, hdt⟩ := (HQ2.out wr (HFo.out.bl.trans ((HPx.out.below w.heap.size (fun q e => by
              rcases e with e | e | e
              · omega
              · omega
              · have := HTo.out.o.ge q e; omega) HFo.out.bl.size)))).dat
            obtain rfl := had (by omega)
            have r1 : wr.cell? ⟨bR, oR + x, none⟩ = some (.int .i64 ((a.next.getD s []).getD x 0)) := hdt x (by have := HRL.out; omega)
            have hyr := HRG.out ((a.next.getD s []).getD x 0) (getD_mem (by have := HRL.out; omega))
            have HTk : Hid (addR l ((a.next.getD s []).take (x + 1)) = addI l1 ((a.next.getD s []).getD x 0)) := by
              show _ = _
              rw [addR_take (by have := HRL.out; omega), HLx.out]
            have HMem : Hid (∀ j, j < x → (a.next.getD s []).getD j 0 ∈ l1) := fun j hj => by
              rw [HLx.out]
              refine addR_mem.2 (.inr ?_)
              exact mem_take_getD hj (by have := HRL.out; omega)
            clear had hdt
            generalize hye : (a.next.getD s []).getD x 0 = y at *
            have HYE := Lib.hid hye
            have hy64 : I64 y := by unfold I64; omega
            have HY := Lib.hid hy64
            have hx2 : (x : Int) < k := by omega
            clear hye hyr hy64
            go_wp2_with fail
            refine (HNum.out wr vs1 l1 y HTx.out HY.out (by omega)).mono ?_
            rintro e w10 ⟨rfl, vs2, hT2, hO2, hM2⟩
            have hCwr : C < wr.heap.size := HOx.out.lt' C rfl
            have hOC : Hid (OI w10 C (.slice (some ⟨C, 0, none⟩) k k) (fillL (fun j => (l1.idxOf ((a.next.getD s []).getD j 0) : Int)) k x)) := HOx.out.only hO2 fun q e1 e2 => by
              have e1 : C = q := Option.some.inj e1
              have h1 := HTx.out.c
              rcases e2 with e2 | e2 | e2
              · omega
              · omega
              · rw [← e1] at e2; exact HNx.out e2
            have hcong : fillL (fun j => (l1.idxOf ((a.next.getD s []).getD j 0) : Int)) k x = fillL (fun j => ((addI l1 y).idxOf ((a.next.getD s []).getD j 0) : Int)) k x := fillL_congr fun j hj => by
              obtain ⟨e1, he1⟩ := addI_pre l1 y
              rw [he1, idxI_pre (HMem.out j hj)]
            rw [hcong] at hOC
            have k1 := OI.at' hOC.out (by rw [fillL_len]) x (by rw [fillL_len]; exact hx)
            have ho := hOC.out
            unfold OI at ho
            rw [fillL_len] at ho
            have f1 : w10.frozen? ⟨C, x, none⟩ = false := World.ownsRow.frozenAt ho x
            have HOn : Hid (OI (w10.setCell ⟨C, x, none⟩ (.int .i64 ((addI l1 y).idxOf y : Int))) C (.slice (some ⟨C, 0, none⟩) k k) (fillL (fun j => ((addI l1 y).idxOf ((a.next.getD s []).getD j 0) : Int)) k (x + 1))) := by
              have h := OI.set hOC.out (by rw [fillL_len]) x ((addI l1 y).idxOf y : Int)
              have h2 := fillL_set (fun j => ((addI l1 y).idxOf ((a.next.getD s []).getD j 0) : Int)) k x
              simp only [HYE.out] at h2
              rwa [h2] at h
            have HS1 : Hid (Only (fun q => q = C) w10 (w10.setCell ⟨C, x, none⟩ (.int .i64 ((addI l1 y).idxOf y : Int)))) := Only.set _ _ _ rfl
            have hv2 : vs2.ownBlock ≠ some C := fun e => (hM2 C e).elim HNx.out fun e => by omega
            have HN2 := Lib.hid hv2
            have HTn : Hid (TS (w10.setCell ⟨C, x, none⟩ (.int .i64 ((addI l1 y).idxOf y : Int))) (B3 + 3) (B3 + 1) (B3 + 2) B3 vs2 (addI l1 y)) := hT2.only HS1.out fun q e => by
              have h1 := HTx.out.c
              have h2 := HCe.out
              rw [e]
              exact ⟨by omega, by omega, by omega, hv2⟩
            have HPn : Hid (Only (hotTS (B3 + 2) B3 (.slice (some ⟨gS, 0, none⟩) l.length cS)) wo (w10.setCell ⟨C, x, none⟩ (.int .i64 ((addI l1 y).idxOf y : Int)))) := (HPx.out.chain hO2 fun q hq e => by
              rcases e with e | e | e
              · exact .inl e
              · exact .inr (.inl e)
              · exact (HMx.out q e).elim (fun k => .inr (.inr k)) fun k => by omega).chain HS1.out fun q hq e => by have := HCe.out; omega
            have HMn : Hid (Moved wo (.slice (some ⟨gS, 0, none⟩) l.length cS) vs2) := fun q e => (hM2 q e).elim (fun k => HMx.out q k) fun k => .inr (Nat.le_trans HPx.out.size k)
            have HZn : Hid (Below B3 w3 (w10.setCell ⟨C, x, none⟩ (.int .i64 ((addI l1 y).idxOf y : Int)))) := HZx.out.trans ((hO2.below B3 (fun q e => by
              have h1 := HTx.out.c
              rcases e with e | e | e
              · omega
              · omega
              · have := HTx.out.o.ge q e; omega) (by have := HTx.out.c; omega)).trans (HS1.out.below B3 (fun q e => by have := HTx.out.c; have := HCe.out; omega) (by have := hO2.size; have := HTx.out.c; omega)))
            have HLn : Hid (addI l1 y = addR l ((a.next.getD s []).take (x + 1))) := HTk.out.symm
            clear ho hT2 hO2 hM2 hv2 hOC hcong r1
            go_wp2
            go_roundg (k - (x + 1))
            case measure => have := HGX.out; omega
            case rel => exact ⟨x + 1, _, vs2, rfl, by go_num, by omega, HLn, HTn, HOn, HN2, HPn, HMn, HZn⟩
          · as_aux_lemma =>
            obtain rfl : x = k := by omega
            clear hx HGX hk0
            have HL1 : Hid (l1 = addR l (rowN a (l.getD n 0))) := by show _ = _; rw [HLx.out, HRow.out.1]; congr 1; exact List.take_of_length_le (Nat.le_of_eq HRL.out)
            have HOy : Hid (OI wr C (.slice (some ⟨C, 0, none⟩) x x) (idxR l1 (rowN a (l.getD n 0)))) := by
              have h := HOx.out
              have h2 := fillL_idx l1 (a.next.getD s [])
              rw [HRL.out] at h2
              rw [h2] at h
              rw [HRow.out.1]; exact h
            have HABx : Hid (AB wr z z a.letters 0 vN' vP' nv pv nxs prs (fun q => q ≤ w.heap.size + 1 ∨ hotTS (B3 + 2) B3 vs1 q)) := HABo.out.other (HPx.out.mono fun q _ e => .inr e) (fun q hq e => by
              rcases e with e | e | e | e
              · exact .inl e
              · exact .inr (.inl e)
              · exact .inr (.inr (.inl e))
              · exact (HMx.out q e).elim (fun k => .inr (.inr (.inr k))) fun k => by omega) fun q e => by
                have h1 := HTx.out.c
                rcases e with e | e | e | e
                · omega
                · omega
                · omega
                · exact HTx.out.o.lt' q e
            have HCh : Hid (¬ hotAB z vN' vP' (fun q => q ≤ w.heap.size + 1 ∨ hotTS (B3 + 2) B3 vs1 q) C) := by
              rintro (e | e | e | e | e | e | e)
              · omega
              · have := hC.out C (.inr (.inl e)); omega
              · have := hC.out C (.inr (.inr (.inl e))); omega
              · omega
              · omega
              · omega
              · exact HNx.out e
            have HI1 : Hid (∀ y ∈ idxR l1 (rowN a (l.getD n 0)), I64 y) := fun y hy => by
              obtain ⟨u, hu, rfl⟩ := List.mem_map.1 hy
              have h1 := List.idxOf_le_length (a := u) (l := l1)
              unfold I64; omega
            have HRk : Hid ((idxR l1 (rowN a (l.getD n 0))).length = x) := by show _ = _; unfold idxR; rw [List.length_map, HRow.out.1]; exact HRL.out
            have HU := Lib.hid (HABx.out.fresh HOy.out (fun q e => by obtain rfl : C = q := Option.some.inj e; exact HCh.out) (by rw [HRk.out]; omega) HI1.out)
            subst hvN'
            have n2 : wr.cell? ⟨z, 2, none⟩ = some (.slice aA nxs.length cA) := cell_of_row _ _ 2 _ _ _ HABx.out.box
            have hzz := HABx.out.zlt
            have hoN := HABx.out.oN
            have hpl : nxs.length < 5864062014000 := by have := HLN.out; omega
            clear HOx HABo HTo HOy
            go_wp2_with (at_builtin; refine app_row rfl _ _ (.slice (some ⟨C, 0, none⟩) x x) rfl z _ _ _ hoN rfl _ (by simp) rfl rfl hpl (Nat.le_of_lt hzz) ?_; intro v' w' hown' hg hmv; obtain ⟨ao', cap', hv'⟩ := ownsRow_slice hown'; subst hv'; have HST := Lib.hid (HABx.out.appN HU.out hown' hg hmv); have k2 := cell_of_row _ _ 2 _ _ _ HST.out.1; have f2 := frozen_of_row _ _ 2 _ _ HST.out.1; clear hown' hg hmv)
            have HABy := Lib.hid HST.out.2.1
            have HOy := Lib.hid HST.out.2.2.1
            have HBy := Lib.hid (HZx.out.trans (HST.out.2.2.2.mono (by omega)))
            have HTy : Hid (TS (w'.setCell ⟨z, 2, none⟩ (.slice ao' (nxs.length + 1) cap')) (B3 + 3) (B3 + 1) (B3 + 2) B3 vs1 l1) := HTx.out.only HOy.out fun q e => by
              have hc := HTx.out.c
              have hx := HABx.out.xz
              rcases e with e | e
              · rw [e]
                exact ⟨by omega, by omega, by omega, fun e2 => (hx z (.inr (.inr (.inr e2)))).2.1 rfl⟩
              · have h1 := (HABx.out.Nlt q e).1
                exact ⟨by omega, by omega, by omega, fun e2 => (hx q (.inr (.inr (.inr e2)))).2.2.1 e⟩
            clear k2 f2 HST hoN n2 hpl HTx HABx
            go_upto_region 18 with (fail)
            obtain ⟨w9, hw9⟩ : ∃ w9, w9 = w'.setCell ⟨z, 2, none⟩ (.slice ao' (nxs.length + 1) cap') := ⟨_, rfl⟩
            rw [← hw9] at HABy HOy HBy HTy
            rw [← hw9]
            clear hw9
            have HFy := Lib.hid (HF3.out.belowB (by omega) HBy.out)
            obtain ⟨p1, p2⟩ := HVP.out s hsn
            obtain ⟨aQ, cQ, hVq⟩ := p2.shape
            rw [(HX.out.ln s hsn).2] at hVq
            rw [hVq] at p1 p2
            have HIP : Hid (∀ W, Below w9.heap.size w9 W → IsInts W (.slice aQ x cQ) (a.prio.getD s [])) := fun W hW => p2.below (HFy.out.bl.trans (hW.mono HFy.out.bl.size))
            have hpc := cellB HFy.out.bl p1
            have hwp := (HFy.out.cells).2.2.2
            have hst := cell_of_row _ _ 0 _ _ _ HTy.out.s
            subst hvP'
            have hz3 : w9.cell? ⟨z, 3, none⟩ = some (.slice aC prs.length cC) := cell_of_row _ _ 3 _ _ _ HABy.out.box
            obtain ⟨aT, cT, hvT⟩ := HTy.out.o.slice
            subst hvT
            have hl1n : n < l1.length := by
              obtain ⟨e, he⟩ := addR_pre (rowN a (l.getD n 0)) l
              rw [HL1.out, he, List.length_append]
              omega
            obtain ⟨gT, hgT⟩ := ownsRow_at HTy.out.o
            obtain rfl := hgT (by omega)
            have hlt := OI.at' HTy.out.o rfl n hl1n
            have hgl : l1.getD n 0 = (s : Int) := by
              obtain ⟨e, he⟩ := addR_pre (rowN a (l.getD n 0)) l
              rw [HL1.out, he, getD_pre hn]
              exact HS.out
            rw [← getD_lt l1 0 n hl1n, hgl] at hlt
            have hn3 : (n : Int) < l1.length := by omega
            have HPR : Hid ((a.prio.getD s []).length ≤ 100000 ∧ ∀ y ∈ a.prio.getD s [], I64 y) := ⟨by have := (HX.out.ln s hsn).2; omega, fun y hy => by
              obtain ⟨j, hj, rfl⟩ := mem_getD hy
              have := HX.out.pr s j hsn (by have := (HX.out.ln s hsn).2; omega)
              unfold I64; omega⟩
            have hzw : z < w9.heap.size := HABy.out.zlt
            have hprl : prs.length < 5864062014000 := by have := HLP.out; omega
            have HABz : Hid (AB w9.drew z z a.letters 0 (.slice ao' (nxs.length + 1) cap') (.slice aC prs.length cC) (nv ++ [.slice (some ⟨C, 0, none⟩) x x]) pv (nxs ++ [idxR l1 (rowN a (l.getD n 0))]) prs (fun q => q ≤ w.heap.size + 1 ∨ hotTS (B3 + 2) B3 (.slice (some ⟨gT, 0, none⟩) l1.length cT) q)) := HABy.out.below (Below.drew (Below.refl _ _))
            clear p1 p2 hVq hgT hgl q1 HABy
            refine region_grow4 hmx (R12_18 w9.heap.size w.heap.size z bP oP gT n s a.next.length l1.length prs.length x cP cT cC cQ aC aQ (a.prio.getD s [])) (AppRow w9.heap.size z (a.prio.getD s []) (.slice aC prs.length cC) prs.length pv) (fun v' _ W' => ∃ y : Value, Hid (AB W' z z a.letters 0 (.slice ao' (nxs.length + 1) cap') v' (nv ++ [.slice (some ⟨C, 0, none⟩) x x]) (pv ++ [y]) (nxs ++ [idxR l1 (rowN a (l.getD n 0))]) (prs ++ [a.prio.getD s []]) (fun q => q ≤ w.heap.size + 1 ∨ hotTS (B3 + 2) B3 (.slice (some ⟨gT, 0, none⟩) l1.length cT) q)) ∧ Hid (Only (fun q => q = z ∨ (Value.slice aC prs.length cC).ownBlock = some q) w9.drew W') ∧ Hid (Below z w9.drew W') ∧ ∃ ay cy, v' = .slice ay (prs.length + 1) cy) (fun i => i == 13) 12 14 (fun vs => { tmps := (_ :: _ :: _ :: _ :: _ :: _ :: _ :: _ :: _ :: _ :: _ :: _ :: _ :: _ :: _ :: _ :: _ :: _ :: _ :: _ :: _ :: _ :: _ :: _ :: _ :: _ :: _ :: _ :: _ :: _ :: _ :: _ :: _ :: _ :: _ :: _ :: _ :: _ :: _ :: _ :: _ :: _ :: _ :: _ :: _ :: _ :: _ :: _ :: _ :: _ :: _ :: _ :: _ :: _ :: _ :: _ :: _ :: _ :: _ :: _ :: vs 0 :: vs 1 :: vs 2 :: vs 3 :: vs 4 :: vs 5 :: vs 6 :: vs 7 :: vs 8 :: vs 9 :: vs 10 :: vs 11 :: vs 12 :: vs 13 :: _ :: []).toArray, defers := _ }) (fun n => [u60, u61, u62, u63, u64, u65, u66, u67, u68, u69, u70, u71, u72, u73, undef].getD n undef) rfl (by kernel_rfl) (R12_18.mono w9.heap.size w.heap.size z bP oP gT n s a.next.length l1.length prs.length x cP cT cC cQ aC aQ (a.prio.getD s [])) ?step ?free ?app ?last ?fin
            case step =>
              intro ix o hp hm2 hf ho
              match ix, hp, hm2, hf, ho with
              | 0, _, _, _, ho =>
                  obtain rfl := Option.some.inj ho
                  intro vs W K hU hB hD hK
                  have HK := Lib.hid hK
                  clear hK hD hU ho
                  dsimp only
                  go_simp
                  have h := HK.out _ _ (Below.refl _ _) rfl
                  simp only [upd, Nat.reduceEqDiff, reduceIte] at h
                  exact h
              | 1, _, _, _, ho =>
                  obtain rfl := Option.some.inj ho
                  intro vs W K hU hB hD hK
                  have HK := Lib.hid hK
                  have e0 : vs 0 = .pointer (some ⟨z, 3, none⟩) := hD 0 (by rfl)
                  have c := cellB hB hz3
                  clear hK hD hU ho
                  dsimp only
                  go_simp
                  have h := HK.out _ _ (Below.refl _ _) rfl
                  simp only [upd, Nat.reduceEqDiff, reduceIte, e0] at h
                  exact h
              | 2, _, _, _, ho =>
                  obtain rfl := Option.some.inj ho
                  intro vs W K hU hB hD hK
                  have HK := Lib.hid hK
                  clear hK hD hU ho
                  dsimp only
                  go_simp
                  have h := HK.out _ _ (Below.refl _ _) rfl
                  simp only [upd, Nat.reduceEqDiff, reduceIte] at h
                  exact h
              | 3, _, _, _, ho =>
                  obtain rfl := Option.some.inj ho
                  intro vs W K hU hB hD hK
                  have HK := Lib.hid hK
                  have e2 : vs 2 = .pointer (some ⟨w.heap.size, 3, none⟩) := hD 2 (by rfl)
                  have c := cellB hB hwp
                  clear hK hD hU ho
                  dsimp only
                  go_simp
                  have h := HK.out _ _ (Below.refl _ _) rfl
                  simp only [upd, Nat.reduceEqDiff, reduceIte, e2] at h
                  exact h
              | 4, _, _, _, ho =>
                  obtain rfl := Option.some.inj ho
                  intro vs W K hU hB hD hK
                  have HK := Lib.hid hK
                  have c := cellB hB hst
                  clear hK hD hU ho
                  dsimp only
                  go_simp
                  have h := HK.out _ _ (Below.refl _ _) rfl
                  simp only [upd, Nat.reduceEqDiff, reduceIte] at h
                  exact h
              | 5, _, _, _, ho =>
                  obtain rfl := Option.some.inj ho
                  intro vs W K hU hB hD hK
                  have HK := Lib.hid hK
                  clear hK hD hU ho
                  dsimp only
                  go_simp
                  have h := HK.out _ _ (Below.refl _ _) rfl
                  simp only [upd, Nat.reduceEqDiff, reduceIte] at h
                  exact h
              | 6, _, _, _, ho =>
                  obtain rfl := Option.some.inj ho
                  intro vs W K hU hB hD hK
                  have HK := Lib.hid hK
                  have e4 : vs 4 = .slice (some ⟨gT, 0, none⟩) l1.length cT := hD 4 (by rfl)
                  have e5 : vs 5 = .int .i64 (n : Int) := hD 5 (by rfl)
                  clear hK hD hU ho
                  dsimp only
                  go_simp
                  have h := HK.out _ _ (Below.refl _ _) rfl
                  simp only [upd, Nat.reduceEqDiff, reduceIte, e4, e5] at h
                  exact h
              | 7, _, _, _, ho =>
                  obtain rfl := Option.some.inj ho
                  intro vs W K hU hB hD hK
                  have HK := Lib.hid hK
                  have e6 : vs 6 = .pointer (some ⟨gT, n, none⟩) := hD 6 (by rfl)
                  have c := cellB hB hlt
                  clear hK hD hU ho
                  dsimp only
                  go_simp
                  have h := HK.out _ _ (Below.refl _ _) rfl
                  simp only [upd, Nat.reduceEqDiff, reduceIte, e6] at h
                  exact h
              | 8, _, _, _, ho =>
                  obtain rfl := Option.some.inj ho
                  intro vs W K hU hB hD hK
                  have HK := Lib.hid hK
                  have e3 : vs 3 = .slice (some ⟨bP, oP, none⟩) a.next.length cP := hD 3 (by rfl)
                  have e7 : vs 7 = .int .i64 (s : Int) := hD 7 (by rfl)
                  clear hK hD hU ho
                  dsimp only
                  go_simp
                  have h := HK.out _ _ (Below.refl _ _) rfl
                  simp only [upd, Nat.reduceEqDiff, reduceIte, e3, e7] at h
                  exact h
              | 9, _, _, _, ho =>
                  obtain rfl := Option.some.inj ho
                  intro vs W K hU hB hD hK
                  have HK := Lib.hid hK
                  have e8 : vs 8 = .pointer (some ⟨bP, oP + s, none⟩) := hD 8 (by rfl)
                  have c := cellB hB hpc
                  clear hK hD hU ho
                  dsimp only
                  go_simp
                  have h := HK.out _ _ (Below.refl _ _) rfl
                  simp only [upd, Nat.reduceEqDiff, reduceIte, e8] at h
                  exact h
              | 10, _, _, _, ho =>
                  obtain rfl := Option.some.inj ho
                  intro vs W K hU hB hD hK
                  have HK := Lib.hid hK
                  have e9 : vs 9 = .slice aQ x cQ := hD 9 (by rfl)
                  clear hK hD hU ho
                  dsimp only
                  go_simp
                  refine (Clone_o W (.slice aQ x cQ) (a.prio.getD s []) (HIP.out W ((Below.drew (Below.refl _ _)).trans hB)) HPR.out.1).mono ?_
                  rintro e W' ⟨v9, rfl, hO, hb⟩
                  have h := HK.out v9 W' hb ⟨hO.slice, hO.base hB.size⟩
                  simp only [upd, Nat.reduceEqDiff, reduceIte, e9] at h
                  exact h
              | 11, _, _, _, ho =>
                  obtain rfl := Option.some.inj ho
                  intro vs W K hU hB hD hK
                  have HK := Lib.hid hK
                  have HM : Hid (FreshRow w9.heap.size (a.prio.getD s []) (vs 10) W) := hD 10 (by rfl)
                  have h1 : (vs 10).oneCell' = true := by obtain ⟨⟨a1, c1, e⟩, -⟩ := HM.out; rw [e]; rfl
                  clear hK hD hU ho
                  dsimp only
                  obtain ⟨⟨a1, c1, ey⟩, -⟩ := HM.out
                  go_simp
                  have h := HK.out _ _ (bel_box (.cells #[vs 10] 29)) (FreshEl.made HM.out)
                  simp only [upd, Nat.reduceEqDiff, reduceIte, ey] at h
                  exact h
              | 12, hp, _, _, _ => exact absurd rfl hp
              | 13, _, _, hf, _ => exact absurd hf (by decide)
              | 14, _, hm2, _, _ => exact absurd rfl hm2
              | q + 15, _, _, _, ho => exact absurd ho (by simp)
            case free =>
              intro ix o hf ho
              match ix, hf, ho with
              | 0, hf, _ => exact absurd hf (by decide)
              | 1, hf, _ => exact absurd hf (by decide)
              | 2, hf, _ => exact absurd hf (by decide)
              | 3, hf, _ => exact absurd hf (by decide)
              | 4, hf, _ => exact absurd hf (by decide)
              | 5, hf, _ => exact absurd hf (by decide)
              | 6, hf, _ => exact absurd hf (by decide)
              | 7, hf, _ => exact absurd hf (by decide)
              | 8, hf, _ => exact absurd hf (by decide)
              | 9, hf, _ => exact absurd hf (by decide)
              | 10, hf, _ => exact absurd hf (by decide)
              | 11, hf, _ => exact absurd hf (by decide)
              | 12, hf, _ => exact absurd hf (by decide)
              | 13, _, ho =>
                  obtain rfl := Option.some.inj ho
                  intro vs W K hU hD hK
                  have HK := Lib.hid hK
                  clear hK hD hU ho
                  dsimp only
                  go_simp
                  have h := HK.out _ (fun _ => rfl)
                  simp only [upd, Nat.reduceEqDiff, reduceIte] at h
                  exact h
              | 14, hf, _ => exact absurd hf (by decide)
              | q + 15, _, ho => exact absurd ho (by simp)
            case app =>
              intro o ho
              obtain rfl := Option.some.inj ho
              intro vs W K hU hB hD hK
              have e1 : vs 1 = .slice aC prs.length cC := hD 1 (by rfl)
              have hel : FreshEl w9.heap.size (a.prio.getD s []) (vs 11) W := hD 11 (by rfl)
              rw [if_pos (by rfl)]
              exact wp_app_rowU W _ _ (by rfl) z (.slice aC prs.length cC) prs.length pv (by show vs 1 = _; exact e1) (ownsRow_only HABz.out.oP (S := fun _ => False) (Only.of_below hB) fun _ _ e => e) _ rfl hel hprl (Nat.le_trans (Nat.le_of_lt hzw) hB.size) fun v' w' hA => hK v' w' hA
            case last =>
              intro o ho
              obtain rfl := Option.some.inj ho
              intro vs W9 W K hU hB hR hA hK
              have HK := Lib.hid hK
              have e13 : vs 13 = .pointer (some ⟨z, 3, none⟩) := hR 13 (by omega) (by omega)
              obtain ⟨y, hy, hown, hg, hm⟩ := hA
              obtain ⟨ay, cy, hvy⟩ := ownsRow_slice hown
              have hAB9 := HABz.out.below hB
              have hST := hAB9.appP (hAB9.fresh hy.2 (fun q e k => by have h1 := hy.2.ge q e; have h2 := HABz.out.hlt q k; exact Nat.lt_irrefl _ (Nat.lt_of_lt_of_le h2 h1)) HPR.out.1 HPR.out.2) hown hg hm
              have k2 := cell_of_row _ _ 3 _ _ _ hST.1
              have f2 := frozen_of_row _ _ 3 _ _ hST.1
              have HFIN : Hid ((fun v' _ W' => ∃ y : Value, Hid (AB W' z z a.letters 0 (.slice ao' (nxs.length + 1) cap') v' (nv ++ [.slice (some ⟨C, 0, none⟩) x x]) (pv ++ [y]) (nxs ++ [idxR l1 (rowN a (l.getD n 0))]) (prs ++ [a.prio.getD s []]) (fun q => q ≤ w.heap.size + 1 ∨ hotTS (B3 + 2) B3 (.slice (some ⟨gT, 0, none⟩) l1.length cT) q)) ∧ Hid (Only (fun q => q = z ∨ (Value.slice aC prs.length cC).ownBlock = some q) w9.drew W') ∧ Hid (Below z w9.drew W') ∧ ∃ ay cy, v' = .slice ay (prs.length + 1) cy) (vs 12) undef (W.setCell ⟨z, 3, none⟩ (vs 12))) := ⟨y, hST.2.1, (Only.of_below hB).trans hST.2.2.1, (hB.mono (Nat.le_of_lt hzw)).trans hST.2.2.2, ay, cy, hvy⟩
              clear hST hAB9 hg hm hown hy
              clear hK hR hU ho
              dsimp only
              go_simp
              have h := HK.out undef _ HFIN.out
              simp only [upd, Nat.reduceEqDiff, reduceIte, e13, hvy] at h
              exact h
            case fin =>
              intro vs W hR hF
              obtain ⟨y, HABn, HOn, HBn, ay, cy, hvy⟩ := hF
              clear hR
              generalize vs 0 = q18_0 at *
              generalize vs 1 = q18_1 at *
              generalize vs 2 = q18_2 at *
              generalize vs 3 = q18_3 at *
              generalize vs 4 = q18_4 at *
              generalize vs 5 = q18_5 at *
              generalize vs 6 = q18_6 at *
              generalize vs 7 = q18_7 at *
              generalize vs 8 = q18_8 at *
              generalize vs 9 = q18_9 at *
              generalize vs 10 = q18_10 at *
              generalize vs 11 = q18_11 at *
              generalize vs 12 = q18_12 at *
              generalize vs 13 = q18_13 at *
              clear vs
              have HTn : Hid (TS W (B3 + 3) (B3 + 1) (B3 + 2) B3 (.slice (some ⟨gT, 0, none⟩) l1.length cT) l1) := (HTy.out.below (Below.drew (Below.refl _ _))).only HOn.out fun q e => by
                have hc := HTy.out.c
                have hx := HABz.out.xz
                rcases e with e | e
                · rw [e]
                  exact ⟨by omega, by omega, by omega, fun e2 => (hx z (.inr (.inr (.inr e2)))).2.1 rfl⟩
                · have h1 := (HABz.out.Plt q e).1
                  exact ⟨by omega, by omega, by omega, fun e2 => (hx q (.inr (.inr (.inr e2)))).2.2.2 e⟩
              have HTr2 : Hid (TrS a (n + 1) l1) := by show TrS _ _ _; rw [HL1.out]; exact HTr.out.next HX.out hn
              have HNS2 : Hid (nxs ++ [idxR l1 (rowN a (l.getD n 0))] = nxsA a (n + 1) l1 ∧ prs ++ [a.prio.getD s []] = prsA a (n + 1) l1) := by
                refine ⟨?_, ?_⟩
                · rw [HNS.out.1, HL1.out, nxsA_next HTr.out hn]
                · rw [HNS.out.2, HL1.out, prsA_next hn]
                  unfold rowP
                  rw [HS.out]; rfl
              have HBn2 := Lib.hid (HBy.out.trans ((Below.drew (Below.refl _ _)).trans (HBn.out.mono (by omega))))
              go_wp2
              go_roundg (a.next.length - (n + 1))
              case measure => have := HGN.out; omega
              case rel => exact ⟨n + 1, l1, _, _, _, _, _, _, _, rfl, by go_num, HTr2, HNS2, HTn, HABn, HBn2⟩
      · as_aux_lemma =>
        obtain rfl : n = l.length := by omega
        have hT : Hid (trimA a = ⟨a.letters, 0, nxs, prs⟩) := by show _ = _; rw [trimA_of HTr.out, HNS.out.1, HNS.out.2]
        subst hvN' hvP'
        have n0 : wo.cell? ⟨z, 0, none⟩ = some (.int .i64 a.letters) := cell_of_row _ _ 0 _ _ _ HABo.out.box
        have n1 : wo.cell? ⟨z, 1, none⟩ = some (.int .i64 0) := cell_of_row _ _ 1 _ _ _ HABo.out.box
        have n2 : wo.cell? ⟨z, 2, none⟩ = some (.slice aA nxs.length cA) := cell_of_row _ _ 2 _ _ _ HABo.out.box
        have n3 : wo.cell? ⟨z, 3, none⟩ = some (.slice aC prs.length cC) := cell_of_row _ _ 3 _ _ _ HABo.out.box
        obtain ⟨⟨z0, z1, z2, z3⟩, y0, y1, y2, y3⟩ := HFo.out.zero
        have HABf : Hid (AB wo z z a.letters 0 (.slice aA nxs.length cA) (.slice aC prs.length cC) nv pv nxs prs (fun q => q ≤ w.heap.size + 1)) := HABo.out.other (Only.refl _ _) (fun q _ e => .inl e) fun q e => by have := HFo.out.lt; omega
        clear c0 c1 c2 c3
        go_wp2
        (have hc4 := four_set (a := Value.int .i64 a.letters) (b := Value.int .i64 0) (c := Value.slice aA nxs.length cA) (d := Value.slice aC prs.length cC) HFo.out.rc); (have c0 := cell_of_row _ _ 0 _ _ _ hc4); (have c1 := cell_of_row _ _ 1 _ _ _ hc4); (have c2 := cell_of_row _ _ 2 _ _ _ hc4); (have c3 := cell_of_row _ _ 3 _ _ _ hc4); (refine bodyPost_ret (v := .agg #[Value.int .i64 a.letters, Value.int .i64 0, Value.slice aA nxs.length cA, Value.slice aC prs.length cC]) (by simp [results, Try.results12, go_sem, c0, c1, c2, c3]) rfl ?_)
        rw [HR.out, hT.out]
        exact HABf.out.fin HFo.out ⟨HI.out.1, by unfold I64; omega⟩ (by have := HLN.out; omega) (by have := HLP.out; omega)

end Go.Proofs.Ytdkpdpcecjcmcaa
