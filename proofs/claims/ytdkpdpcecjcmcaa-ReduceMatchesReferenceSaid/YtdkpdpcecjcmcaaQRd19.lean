/- What Prios returns. -/
import Derived.Test.YtdkpdpcecjcmcaaQRdA
import Derived.Test.YtdkpdpcecjcmcaaQRdV
namespace Go.Proofs.Ytdkpdpcecjcmcaa
open Go.RowKit

def NewO (l : List Int) (w : World) (e : Ending) (w' : World) : Prop := ∃ v, e = .returned v ∧ OI w' w.heap.size v l ∧ Below w.heap.size w w'
set_option maxHeartbeats 2000000 in
theorem Clone_o (w : World) (vl : Value) (l : List Int) (hl : IsInts w vl l) (hlen : l.length ≤ 100000) :
    Calls Try.prog 34 #[vl] w (NewO l w) := by
  have hb0 : Below w.heap.size w (w.alloc (.cells #[] 3)) := bel_box _
  have hl2 := hl.below hb0
  have HO := Lib.hid (OI_empty0 w)
  obtain ⟨⟨ao, cap, b, off, rfl, hl⟩, -⟩ := hl
  cases ao with
  | none =>
    have hc := hl.nc rfl
    have h0 : l.length = 0 := by have := hl.lc; omega
    have hnil : l = [] := List.eq_nil_of_length_eq_zero h0
    subst hnil
    subst hc
    clear hl hl2 HO
    have hE := nil_eq w
    go_enter Try.func34, Try.ntmps34
    go_wp2
    go_ret
    exact ⟨_, rfl, OI_nil _ _, Below.refl _ _⟩
  | some ad =>
    have HL := Lib.hid hl2
    clear hl2
    have hE := some_eq w ad l.length cap
    go_enter Try.func34, Try.ntmps34
    go_wp2_with (at_builtin; refine app_ints rfl _ _ rfl w.heap.size _ _ [] l HO.out rfl HL.out rfl (by simp; omega) (by simp) ?_; intro v' w' hown' hg hmv; have HO2 := Lib.hid hown'; clear hown')
    go_ret
    exact ⟨_, rfl, HO2.out, hb0.grown hg hb0.size HO.out.ge⟩

set_option maxRecDepth 100000 in
set_option maxHeartbeats 8000000 in
theorem Prios_c (w : World) (v : Value) (a : Au) (ha : IsAuto w v a) (hn2 : a.next.length ≤ 2000) : Calls Try.prog 13 #[v] w (NewAuto (priosF a) w) := by
  have HA := Lib.hid ha
  obtain ⟨vN, vP, rfl, hI, hN, hP⟩ := ha
  have hmx : Try.prog.follows .mixedOrders = true := by kernel_rfl
  cases hv : validA a with
  | false =>
    have hF := FA.start w #[.int .i64 a.letters, .int .i64 a.start, vN, vP]
    have HR : Hid (priosF a = noAu) := by show _ = _; simp [priosF, hv]
    have HV := Lib.hid (PValid_c ((w.alloc (.cells #[.int .i64 a.letters, .int .i64 a.start, vN, vP] 24)).alloc (.cells #[.int .i64 0, .int .i64 0, .slice none 0 0, .slice none 0 0] 24)) _ a (HA.out.below hF.bl))
    obtain ⟨c0, c1, c2, c3⟩ := hF.cells
    clear hI hN hP
    go_enter Try.func13, Try.ntmps13
    go_upto_region 1 with (fail)
    generalize ((w.alloc (.cells #[.int .i64 a.letters, .int .i64 a.start, vN, vP] 24)).alloc (.cells #[.int .i64 0, .int .i64 0, .slice none 0 0, .slice none 0 0] 24)) = w2 at *
    go_wp2_with fail
    refine HV.out.mono ?_
    rintro e w3 ⟨rfl, hb3⟩
    rw [hv]
    have hF3 := hF.below hb3
    obtain ⟨⟨z0, z1, z2, z3⟩, y0, y1, y2, y3⟩ := hF3.zero
    clear hb3 hF c0 c1 c2 c3 HV
    go_wp2
    (have hc4 := four_set (a := Value.int .i64 0) (b := Value.int .i64 0) (c := Value.slice none 0 0) (d := Value.slice none 0 0) hF3.rc); (have c0 := cell_of_row _ _ 0 _ _ _ hc4); (have c1 := cell_of_row _ _ 1 _ _ _ hc4); (have c2 := cell_of_row _ _ 2 _ _ _ hc4); (have c3 := cell_of_row _ _ 3 _ _ _ hc4); (refine bodyPost_ret (v := .agg #[Value.int .i64 0, Value.int .i64 0, Value.slice none 0 0, Value.slice none 0 0]) (by simp [results, Try.results13, go_sem, c0, c1, c2, c3]) rfl ?_)
    rw [HR.out]
    exact hF3.fin (fun W _ => noAu_is W)
  | true =>
    have hF := FA.start w #[.int .i64 a.letters, .int .i64 a.start, vN, vP]
    have hA := AuV.of hv
    have HAV := Lib.hid hA
    have HR : Hid (priosF a = priosA a) := by show _ = _; simp [priosF, hv]
    have HX := Lib.hid (hA.ax hn2)
    obtain ⟨k, hk⟩ : ∃ k, k = a.letters.toNat := ⟨_, rfl⟩
    have hLk : a.letters = (k : Int) := by rw [hk]; exact hA.L
    have hk1 : 1 ≤ k ∧ k ≤ 64 := by rw [hk]; exact hA.k1
    rw [← hk] at HX
    have HK := Lib.hid hk
    have HLk := Lib.hid hLk
    clear hk hLk
    obtain ⟨aN, cN, bN, oN, V, hvN, hdN, hmN, hVN⟩ := hN.data
    have HN := Lib.hid hN
    have HP := Lib.hid hP
    obtain ⟨aP, cP, bP, oP, VP, hvP, -, -, -⟩ := hP.data
    have HVN := Lib.hid hVN
    have hn0 : 0 < a.next.length := HX.out.n0
    obtain rfl := hdN hn0
    subst hvN hvP
    have HI := Lib.hid hI
    have HV := Lib.hid (PValid_c ((w.alloc (.cells #[.int .i64 a.letters, .int .i64 a.start, .slice (some ⟨bN, oN, none⟩) a.next.length cN, .slice aP a.prio.length cP] 24)).alloc (.cells #[.int .i64 0, .int .i64 0, .slice none 0 0, .slice none 0 0] 24)) _ a (HA.out.below hF.bl))
    obtain ⟨c0, c1, c2, c3⟩ := hF.cells
    clear hI hN hP hVN hdN hA
    go_enter Try.func13, Try.ntmps13
    go_upto_region 1 with (fail)
    generalize ((w.alloc (.cells #[.int .i64 a.letters, .int .i64 a.start, .slice (some ⟨bN, oN, none⟩) a.next.length cN, .slice aP a.prio.length cP] 24)).alloc (.cells #[.int .i64 0, .int .i64 0, .slice none 0 0, .slice none 0 0] 24)) = w2 at *
    go_wp2_with fail
    refine HV.out.mono ?_
    rintro e w3 ⟨rfl, hb3⟩
    rw [hv]
    have hF3 := hF.below hb3
    clear c0 c1 c2 c3 HV hb3 hF
    obtain ⟨c0, c1, c2, c3⟩ := hF3.cells
    have HLs := Lib.hid (leasts_c w3 k _ _ a (HN.out.below hF3.bl) (HP.out.below hF3.bl) HI.out HX.out)
    have HF3 := Lib.hid hF3
    clear hF3
    go_wp2_with fail
    refine HLs.out.mono ?_
    rintro e w4 ⟨mb, keys, f, rfl, hM4, hb4, hf4⟩
    have HM4 := Lib.hid hM4
    have hF4 := HF3.out.below hb4
    have HF4 := Lib.hid hF4
    have HFv : Hid (∀ s x, s < a.next.length → x < k → (s, x) ∈ keys ∧ f (s, x) = valF a (s, x)) := fun s x hs hx => by
      obtain ⟨h1, h2⟩ := hf4 (s, x) ⟨hs, hx⟩
      refine ⟨h1, (valF_eq ?_).symm⟩
      rw [← HK.out]
      exact h2.val fun m hm => AllM.mem hm
    clear c0 c1 c2 c3 hM4 hb4 hf4 HLs HF3
    obtain ⟨c0, c1, c2, c3⟩ := hF4.cells
    have hr4 := hF4.lt
    have hAB := AB.start w4 a.letters a.start
    have hb5 : Below w4.heap.size w4 (w4.alloc (.cells #[.int .i64 a.letters, .int .i64 a.start, .slice none 0 0, .slice none 0 0] 24)) := bel_box _
    have hAB1 := hAB.more (X1 := fun q => q ≤ w.heap.size + 1) (fun q e => .inr ⟨by have := hb5.size; omega, by omega, fun e => (nomatch e), fun e => (nomatch e)⟩) rfl rfl
    have HAB := Lib.hid hAB1
    have HB5 := Lib.hid hb5
    clear hAB hAB1 hb5 hF4
    go_upto_region 5 with (fail)
    obtain ⟨z, hz⟩ : ∃ z, z = w4.heap.size := ⟨_, rfl⟩
    rw [← hz] at HAB hr4
    rw [← hz]
    have HZ := Lib.hid hz
    generalize w4.alloc (.cells #[.int .i64 a.letters, .int .i64 a.start, .slice none 0 0, .slice none 0 0] 24) = w5 at *
    have HB5 : Hid (Below z w4 w5) := by show Below _ _ _; rw [hz]; exact HB5.out
    have HF5 := Lib.hid (HF4.out.belowB (by omega) HB5.out)
    clear c0 c1 c2 c3 hz
    obtain ⟨c0, c1, c2, c3⟩ := HF5.out.cells
    go_wp2
    clear c0 c1 c2 c3
    go_loopg [23] a.next.length (fun gh i wx => ∃ (s : Nat) (vN' vP' : Value) (nv pv : List Value) (nxs prs : List (List Int)), gh = a.next.length - s ∧ i = .int .i64 (s : Int) ∧ s ≤ a.next.length ∧ Hid (nxs = a.next.take s ∧ prs = (priosA a).prio.take s) ∧ Hid (AB wx z z a.letters a.start vN' vP' nv pv nxs prs (fun q => q ≤ w.heap.size + 1)) ∧ Hid (Below z w4 wx))
    case atStart => exact ⟨0, _, _, [], [], [], [], rfl, rfl, by omega, ⟨rfl, rfl⟩, HAB, HB5⟩
    case round =>
      clear HAB HB5 HF5
      obtain ⟨wo, rfl⟩ : ∃ wo : World, wo = wr := ⟨_, rfl⟩
      obtain ⟨s, vN', vP', nv, pv, nxs, prs, hgs, rfl, hsn, HNS, HABo, HBo⟩ := hrel
      have HGS := Lib.hid hgs
      clear hgs
      have hln : nxs.length = s := by rw [HNS.out.1, List.length_take]; omega
      have hlp : prs.length = s := by rw [HNS.out.2, List.length_take]; simp [priosA]; omega
      have HLN := Lib.hid hln
      have HLP := Lib.hid hlp
      obtain ⟨aA, cA, hvN'⟩ := ownsRow_slice HABo.out.oN
      obtain ⟨aC, cC, hvP'⟩ := ownsRow_slice HABo.out.oP
      have HFo := Lib.hid (HF4.out.belowB (by omega) HBo.out)
      have hzo := HABo.out.zlt
      obtain ⟨c0, c1, c2, c3⟩ := HFo.out.cells
      by_cases hs : s < a.next.length
      · as_aux_lemma =>
        clear c1 c2 c3
        obtain ⟨q1, q2⟩ := HVN.out s hs
        obtain ⟨aR, cR, hVs⟩ := q2.shape
        rw [(HX.out.nx.lr s hs)] at hVs
        rw [hVs] at q1 q2
        have HQ2 : Hid (∀ W, Below w.heap.size w W → IsInts W (.slice aR k cR) (a.next.getD s [])) := fun W hW => q2.below hW
        have q1 := cellB HFo.out.bl q1
        have hs2 : (s : Int) < a.next.length := by omega
        clear q2 hln hlp
        have hC : Hid (∀ q, hotAB z vN' vP' (fun q => q ≤ w.heap.size + 1) q → q < wo.heap.size) := HABo.out.hlt
        go_wp2_with (at_make; refine mk_int rfl _ _ _ Try.underlying29 rfl wo.heap.size a.letters k rfl rfl HLk.out (by omega) (Nat.le_refl _) ?_; intro w6 hown hg1; have HO6 := Lib.hid hown; have HB6 : Hid (Below wo.heap.size wo w6) := below_of_grown hg1 (fun q e => (nomatch e)) (Nat.le_refl _); clear hown hg1)
        clear c0 q1
        rw [fillL_zero (fun j => valF a (s, j)) k] at HO6
        obtain ⟨C, hCe⟩ : ∃ C, C = wo.heap.size := ⟨_, rfl⟩
        rw [← hCe] at HO6 HB6 hC
        rw [← hCe]
        have HCe := Lib.hid hCe
        have hzC : z < C := by omega
        have hk0 : (0 : Int) ≤ (k : Int) := by omega
        clear hCe
        go_loopg [33] k (fun gh i wx => ∃ (x : Nat), gh = k - x ∧ i = .int .i64 (x : Int) ∧ x ≤ k ∧ Hid (OI wx C (.slice (some ⟨C, 0, none⟩) k k) (fillL (fun j => valF a (s, j)) k x)) ∧ Hid (Below C wo wx))
        case atStart => exact ⟨0, rfl, rfl, by omega, HO6, HB6⟩
        case round =>
          clear HO6 HB6
          obtain ⟨x, hgx, rfl, hxk, HOx, HBx⟩ := hrel
          have HGX := Lib.hid hgx
          clear hgx
          by_cases hx : x < k
          · as_aux_lemma =>
            obtain ⟨hmem, hfx⟩ := HFv.out s x hs hx
            have hwf : WfM (s, x) := by
              have h1 := HX.out.nx.n3
              exact ⟨by show s ≤ _; omega, by show x ≤ _; omega⟩
            have hrun : (Instr.lookup 46 (.map (some mb)) (.agg #[.int .i64 (s : Int), .int .i64 (x : Int)]) false).run Try.prog wr = .ok (.int .i64 (valF a (s, x))) wr := by
              rw [← hfx]
              exact ((HM4.out.blk (by rw [HBx.out.block mb (by have := HM4.out.lt; have := HZ.out; omega)]; exact HBo.out.block mb (by have := HM4.out.lt; have := HZ.out; omega))).get hwf hmem)
            have hx2 : (x : Int) < k := by omega
            have k1 := OI.at' HOx.out (by rw [fillL_len]) x (by rw [fillL_len]; exact hx)
            have ho := HOx.out
            unfold OI at ho
            rw [fillL_len] at ho
            have f1 : wr.frozen? ⟨C, x, none⟩ = false := World.ownsRow.frozenAt ho x
            clear ho
            have HOn : Hid (OI (wr.setCell ⟨C, x, none⟩ (.int .i64 (valF a (s, x)))) C (.slice (some ⟨C, 0, none⟩) k k) (fillL (fun j => valF a (s, j)) k (x + 1))) := by
              have h := OI.set HOx.out (by rw [fillL_len]) x (valF a (s, x))
              rwa [fillL_set (fun j => valF a (s, j))] at h
            have HBn : Hid (Below C wo (wr.setCell ⟨C, x, none⟩ (.int .i64 (valF a (s, x))))) := HBx.out.trans (((Only.set (S := fun q => q = C) _ _ _ rfl).below C (fun q e => by omega) (by have := HBx.out.size; have := HCe.out; omega)))
            clear hmem hfx hwf
            go_wp2
            go_roundg (k - (x + 1))
            case measure => have := HGX.out; omega
            case rel => exact ⟨x + 1, rfl, by go_num, by omega, HOn, HBn⟩
          · as_aux_lemma =>
            obtain rfl : x = k := by omega
            rw [fillL_all] at HOx
            clear hx HGX hk0
            go_upto_region 14 with (fail)
            obtain ⟨w8, rfl⟩ : ∃ w8 : World, w8 = wr := ⟨_, rfl⟩
            have HA8 : Hid (AB w8.drew z z a.letters a.start vN' vP' nv pv nxs prs (fun q => q ≤ w.heap.size + 1)) := HABo.out.below (by rw [← HCe.out]; exact Below.drew HBx.out)
            have HBz8 : Hid (Below z w4 w8.drew) := HBo.out.trans (Below.drew (HBx.out.mono (by omega)))
            have HO8 : Hid (OI w8.drew C (.slice (some ⟨C, 0, none⟩) x x) ((List.range x).map fun j => valF a (s, j))) := HOx.out.below (Below.drew (Below.refl _ _))
            subst hvN'
            have z2 : w8.cell? ⟨z, 2, none⟩ = some (.slice aA nxs.length cA) := cell_of_row _ _ 2 _ _ _ HA8.out.box
            have hz8 : z < w8.heap.size := HA8.out.zlt
            have HI8 : Hid (IsInts w8.drew (.slice aR x cR) (a.next.getD s [])) := HQ2.out _ (HFo.out.bl.trans (Below.drew (HBx.out.mono (by omega))))
            have hlr : (a.next.getD s []).length = x := HX.out.nx.lr s hs
            have HLR := Lib.hid hlr
            have HR64 : Hid (∀ y ∈ a.next.getD s [], I64 y) := fun y hy => by have h1 := HX.out.nx.rg s hs y hy; have h2 := HX.out.nx.n3; unfold I64; omega
            clear hlr
            go_cut [] (fun wx => ∃ (vN2 : Value) (nv2 : List Value) (wz : World), wz = wx ∧ Hid (AB wz z z a.letters a.start vN2 vP' nv2 pv (nxs ++ [a.next.getD s []]) prs (fun q => q ≤ w.heap.size + 1)) ∧ Hid (Below z w4 wz) ∧ Hid (OI wz C (.slice (some ⟨C, 0, none⟩) x x) ((List.range x).map fun j => valF a (s, j))) ∧ Hid (¬ hotAB z vN2 vP' (fun q => q ≤ w.heap.size + 1) C))
            case first =>
              go_region_law (first | ((rw [if_pos (by rfl)]; refine wp_app_rowA w9 _ _ (.slice a9 x c9) (by rfl) z (.slice aA nxs.length cA) _ nv (by rfl) HA9.out.oN (by rfl) rfl (by have := HLN.out; have := hsn; have := HX.out.n2; omega) (Nat.le_of_lt hz9) ?_; intro v10 w10 hown10 hg10 hmv10; obtain ⟨ao10, cap10, hv10⟩ := ownsRow_slice hown10; subst hv10; have HST := Lib.hid (HA9.out.appN HU9.out hown10 hg10 hmv10); have k0 := cell_of_row _ _ 2 _ _ _ HST.out.1; have f0 := frozen_of_row _ _ 2 _ _ HST.out.1)) | ((go_simp; go_at_call 34; refine (Clone_o _ _ (a.next.getD s []) HI8.out (by have := HLR.out; omega)).mono ?_; rintro e w9 ⟨v9, rfl, hO9, hb9⟩; obtain ⟨a9, c9, hv9⟩ := hO9.slice; rw [HLR.out] at hv9; subst hv9; have HA9 := Lib.hid (HA8.out.below hb9); have z29 : w9.cell? ⟨z, 2, none⟩ = some (.slice aA nxs.length cA) := cell_of_row _ _ 2 _ _ _ HA9.out.box; have hz9 : z < w9.heap.size := HA9.out.zlt; have HU9 : Hid (∀ W', Only (hotAB z (.slice aA nxs.length cA) vP' (fun q => q ≤ w.heap.size + 1)) w9 W' → IsInts W' (.slice a9 x c9) (a.next.getD s [])) := HA9.out.fresh hO9 (fun q e k => by have h1 := hO9.ge q e; have h2 := HA8.out.hlt q k; omega) (by have := HLR.out; omega) HR64.out; have HB9 := Lib.hid hb9; clear hO9 hb9)))
              all_goals
                go_wp2_with fail
                go_meet
                case rel => exact ⟨_, _, _, rfl, HST.out.2.1, (HBz8.out.trans (HB9.out.mono (Nat.le_of_lt hz8))).trans HST.out.2.2.2, (HO8.out.below HB9.out).only HST.out.2.2.1 (fun q e k => by have h1 := HO8.out.ge q e; have h2 := hC.out q (k.elim .inl fun k => .inr (.inl k)); omega), hot_movedN (fun k => by have h2 := hC.out C k; omega) (by have h1 := HO8.out.lt' C rfl; have h2 := HB9.out.size; omega) hmv10⟩
            case rest =>
              obtain ⟨vN2, nv2, wz, rfl, HA10, HBz10, HO10, HC10⟩ := hcut
              subst hvP'
              have n3 : wz.cell? ⟨z, 3, none⟩ = some (.slice aC prs.length cC) := cell_of_row _ _ 3 _ _ _ HA10.out.box
              have hzz := HA10.out.zlt
              have hoP := HA10.out.oP
              have hpl : prs.length < 5864062014000 := by have := HLP.out; have := HX.out.n2; omega
              have HVR : Hid (∀ y ∈ (List.range x).map (fun j => valF a (s, j)), I64 y) := fun y hy => by
                obtain ⟨j, hj, rfl⟩ := List.mem_map.1 hy
                have h1 := HAV.out.prios.pr s j hs (by have := HK.out; have := List.mem_range.1 hj; omega)
                rw [priosA_at a hs (by have := HK.out; have := List.mem_range.1 hj; omega)] at h1
                unfold I64; omega
              have HU := Lib.hid (HA10.out.fresh HO10.out (fun q e => by obtain rfl : C = q := Option.some.inj e; exact HC10.out) (by simp; omega) HVR.out)
              clear z2 hz8 HA8 HBz8 HO8 HI8 HOx HBx
              go_wp2_with (at_builtin; refine app_row rfl _ _ (.slice (some ⟨C, 0, none⟩) x x) rfl z _ _ _ hoP rfl _ (by simp) rfl rfl hpl (Nat.le_of_lt hzz) ?_; intro v' w' hown' hg hmv; obtain ⟨ao', cap', hv'⟩ := ownsRow_slice hown'; subst hv'; have HST := Lib.hid (HA10.out.appP HU.out hown' hg hmv); have k2 := cell_of_row _ _ 3 _ _ _ HST.out.1; have f2 := frozen_of_row _ _ 3 _ _ HST.out.1; clear hown' hg hmv)
              have HNS2 : Hid (nxs ++ [a.next.getD s []] = a.next.take (s + 1) ∧ prs ++ [(List.range x).map fun j => valF a (s, j)] = (priosA a).prio.take (s + 1)) := by
                have hs3 : s < (priosA a).prio.length := by simp [priosA]; exact hs
                refine ⟨by rw [HNS.out.1, List.take_succ_eq_append_getElem hs, getD_lt _ _ _ hs], ?_⟩
                rw [HNS.out.2, List.take_succ_eq_append_getElem hs3, ← getD_lt _ _ _ hs3, priosA_row a hs, ← HK.out]
              have HAn := Lib.hid HST.out.2.1
              have HBn := Lib.hid (HBz10.out.trans HST.out.2.2.2)
              clear k2 f2 HST hoP n3 hpl
              go_roundg (a.next.length - (s + 1))
              case measure => have := HGS.out; omega
              case rel => exact ⟨s + 1, vN2, _, nv2, _, _, _, rfl, by go_num, by omega, HNS2, HAn, HBn⟩
      · as_aux_lemma =>
        obtain rfl : s = a.next.length := by omega
        have hN1 : nxs = a.next := by rw [HNS.out.1, List.take_length]
        have hP1 : prs = (priosA a).prio := by rw [HNS.out.2]; exact List.take_of_length_le (by simp [priosA])
        subst hN1 hP1
        have HLP : Hid ((priosA a).prio.length = a.next.length) := HLP
        have n0 : wo.cell? ⟨z, 0, none⟩ = some (.int .i64 a.letters) := cell_of_row _ _ 0 _ _ _ HABo.out.box
        have n1 : wo.cell? ⟨z, 1, none⟩ = some (.int .i64 a.start) := cell_of_row _ _ 1 _ _ _ HABo.out.box
        have n2 : wo.cell? ⟨z, 2, none⟩ = some vN' := cell_of_row _ _ 2 _ _ _ HABo.out.box
        have n3 : wo.cell? ⟨z, 3, none⟩ = some vP' := cell_of_row _ _ 3 _ _ _ HABo.out.box
        subst hvN' hvP'
        obtain ⟨⟨z0, z1, z2, z3⟩, y0, y1, y2, y3⟩ := HFo.out.zero
        clear c0 c1 c2 c3 hlp hln HLN
        go_wp2
        (have hc4 := four_set (a := Value.int .i64 a.letters) (b := Value.int .i64 a.start) (c := Value.slice aA a.next.length cA) (d := Value.slice aC (priosA a).prio.length cC) HFo.out.rc); (have c0 := cell_of_row _ _ 0 _ _ _ hc4); (have c1 := cell_of_row _ _ 1 _ _ _ hc4); (have c2 := cell_of_row _ _ 2 _ _ _ hc4); (have c3 := cell_of_row _ _ 3 _ _ _ hc4); (refine bodyPost_ret (v := .agg #[Value.int .i64 a.letters, Value.int .i64 a.start, Value.slice aA a.next.length cA, Value.slice aC (priosA a).prio.length cC]) (by simp [results, Try.results13, go_sem, c0, c1, c2, c3]) rfl ?_)
        rw [HR.out]
        exact HABo.out.fin HFo.out HI.out (by have := HX.out.n2; omega) (by have := HX.out.n2; have := HLP.out; omega)

end Go.Proofs.Ytdkpdpcecjcmcaa
