/- The law AttractTraps returns true: its walk. -/
import Derived.Test.YtjppebbeobgmoaaL4
namespace Go.Proofs.Ytjppebbeobgmoaa
open Go.RowKit

theorem OB_new (w : World) {base m : Nat} (hb : base ≤ w.heap.size) (hm : m = w.heap.size) : OB (w.alloc (.cells #[] 4)) base (.slice (some ⟨m, 0, none⟩) 0 0) [] := by
  subst hm; exact World.ownsRow_made w #[] 0 hb (by simp [maxLen]) rfl

set_option maxRecDepth 100000 in
set_option maxHeartbeats 8000000 in
theorem L5_walk (w : World) (vg vs vu : Value) (g : Gm) (b : Bool) (s u : List Bool) (hg : IsGame w vg g) (hs : IsBools w vs s) (hu : IsBools w vu u) :
    Calls Try.prog 7 #[vg, .bool b, vs, vu] w (Calm (.bool true) w) := by
  have hux := hu
  have hgx := hg
  have hsx := hs
  obtain ⟨v0, v1, v2, rfl, ⟨⟨ao0, cap0, b0, off0, rfl, g0⟩, _⟩, ⟨⟨ao1, cap1, b1, off1, rfl, g1⟩, _⟩, ⟨V, ⟨ao2, cap2, b2, off2, rfl, g2⟩, hr⟩⟩ := hg
  obtain ⟨aos, caps, bs, offs, rfl, hs⟩ := hs
  have hns := hs.nb
  obtain ⟨aou, capu, bu, offu, rfl, hu⟩ := hu
  have hnu := hu.nb
  clear g0 g1 g2 hr
  cases hrt : rightB g s.length
  · go_enter Try.func7, Try.ntmps7
    go_wp2_with fail
    refine (head_c _).mono ?_
    rintro e w1 ⟨rfl, hb1⟩
    have hB1 := Boxed.start hb1
    (have d0 : w1.cell? ⟨w.heap.size, 0, none⟩ = some (Value.slice ao0 g.owner.length cap0) := hB1.cell 0 rfl); (have d1 : w1.cell? ⟨w.heap.size, 1, none⟩ = some (Value.slice ao1 g.prio.length cap1) := hB1.cell 1 rfl); (have d2 : w1.cell? ⟨w.heap.size, 2, none⟩ = some (Value.slice ao2 g.succ.length cap2) := hB1.cell 2 rfl)
    clear hb1
    go_wp2_with fail
    refine (right_c _ _ g _ _ _ (hgx.below hB1.bl)).mono ?_
    rintro e w2 ⟨rfl, hb2⟩
    rw [hrt]
    go_wp2
    go_ret
    exact ⟨rfl, hB1.bl.trans (hb2.mono hB1.bl.size)⟩
  by_cases hl : u.length = s.length
  case neg =>
    have hne : ((u.length : Int) != s.length) = true := by simp; omega
    go_enter Try.func7, Try.ntmps7
    go_wp2_with fail
    refine (head_c _).mono ?_
    rintro e w1 ⟨rfl, hb1⟩
    have hB1 := Boxed.start hb1
    (have d0 : w1.cell? ⟨w.heap.size, 0, none⟩ = some (Value.slice ao0 g.owner.length cap0) := hB1.cell 0 rfl); (have d1 : w1.cell? ⟨w.heap.size, 1, none⟩ = some (Value.slice ao1 g.prio.length cap1) := hB1.cell 1 rfl); (have d2 : w1.cell? ⟨w.heap.size, 2, none⟩ = some (Value.slice ao2 g.succ.length cap2) := hB1.cell 2 rfl)
    clear hb1
    go_wp2_with fail
    refine (right_c _ _ g _ _ _ (hgx.below hB1.bl)).mono ?_
    rintro e w2 ⟨rfl, hb2⟩
    rw [hrt]
    go_wp2
    go_ret
    exact ⟨rfl, hB1.bl.trans (hb2.mono hB1.bl.size)⟩
  have hne : ((u.length : Int) != s.length) = false := by simp; omega
  obtain ⟨hS, h24⟩ := right_small hrt
  obtain ⟨p, hp⟩ : ∃ p : Int, p = if b then 1 else 0 := ⟨_, rfl⟩
  have hp1 : p = 0 ∨ p = 1 := by rw [hp]; cases b <;> simp
  have hf := right_fits hrt hp1
  have F := fits_of hf
  have HPB := Lib.hid hp
  obtain ⟨x, y, z, T⟩ := L5_facts F hS (a := s) (b := u) rfl hl
  obtain ⟨ta, hta⟩ : ∃ ta, ta = trapB g p s := ⟨_, rfl⟩
  have HC1 : Hid (∀ (W : World), Below w.heap.size w W → Calls Try.prog 17 #[.agg #[Value.slice ao0 g.owner.length cap0, Value.slice ao1 g.prio.length cap1, Value.slice ao2 g.succ.length cap2], .int .i64 (1 - p), Value.slice aos s.length caps] W (SetOr true x W)) := fun W hW => by
    have := Closed_yes W _ _ g (1 - p) s rfl (hgx.below hW) (hsx.below hW) hS (fits_other hf)
    rwa [T.e1] at this
  have HC2 : Hid (∀ (W : World), Below w.heap.size w W → Calls Try.prog 17 #[.agg #[Value.slice ao0 g.owner.length cap0, Value.slice ao1 g.prio.length cap1, Value.slice ao2 g.succ.length cap2], .int .i64 (1 - p), Value.slice aou u.length capu] W (SetOr true y W)) := fun W hW => by
    have := Closed_yes W _ _ g (1 - p) u hl (hgx.below hW) (hux.below hW) hS (fits_other hf)
    rwa [T.e2] at this
  have HC3 : Hid (∀ (W : World) (v : Value), Below w.heap.size w W → IsBools W v (orK s u s.length) → Calls Try.prog 17 #[.agg #[Value.slice ao0 g.owner.length cap0, Value.slice ao1 g.prio.length cap1, Value.slice ao2 g.succ.length cap2], .int .i64 (1 - p), v] W (SetOr true z W)) := fun W v hW hv => by
    have := Closed_yes W _ _ g (1 - p) _ (orK_len s u s.length) (hgx.below hW) hv hS (fits_other hf)
    rwa [T.e3] at this
  have HTA : Hid (∀ (W : World), Below w.heap.size w W → Calls Try.prog 15 #[.agg #[Value.slice ao0 g.owner.length cap0, Value.slice ao1 g.prio.length cap1, Value.slice ao2 g.succ.length cap2], .int .i64 p, Value.slice aos s.length caps] W (Calm (.bool ta) W)) := fun W hW => by
    have := Trap_c W _ _ g p s (hgx.below hW) (hsx.below hW)
    rwa [hf, Bool.true_and, ← hta] at this
  have hTr : Hid (∀ (W : World) (q : Int) (v : Value), Below w.heap.size w W → TrOK g W q v → Calls Try.prog 15 #[.agg #[Value.slice ao0 g.owner.length cap0, Value.slice ao1 g.prio.length cap1, Value.slice ao2 g.succ.length cap2], .int .i64 q, v] W (Calm (.bool true) W)) := fun W q v hW ⟨l, h1, h2, h3⟩ => by
    have := Trap_c W _ _ g q l (hgx.below hW) h1
    rwa [h2, h3] at this
  have HL : Hid (x.length = s.length ∧ y.length = s.length ∧ z.length = s.length) := ⟨T.l1, T.l2, T.l3⟩
  have HF : Hid (fitsB g p s.length = true) := hf
  have HT : Hid (trapB g p (List.replicate s.length true) = true ∧ trapB g p (notL (List.replicate s.length true)) = true ∧ trapB g p (orK x y s.length) = true ∧ partB (orK x y s.length) z = true) := ⟨T.t1, T.t2, T.t3, T.p1⟩
  have HTP : Hid (ta = true → partB s z = true) := fun h => T.p2 (hta ▸ h)
  have hpr : 0 ≤ p ∧ p ≤ 1 := by omega
  have HU := Lib.hid hl
  clear T F hta hp hp1 hf hS hl
  go_enter Try.func7, Try.ntmps7
  go_wp2_with fail
  refine (head_c _).mono ?_
  rintro e w1 ⟨rfl, hb1⟩
  have hB1 := Boxed.start hb1
  (have d0 : w1.cell? ⟨w.heap.size, 0, none⟩ = some (Value.slice ao0 g.owner.length cap0) := hB1.cell 0 rfl); (have d1 : w1.cell? ⟨w.heap.size, 1, none⟩ = some (Value.slice ao1 g.prio.length cap1) := hB1.cell 1 rfl); (have d2 : w1.cell? ⟨w.heap.size, 2, none⟩ = some (Value.slice ao2 g.succ.length cap2) := hB1.cell 2 rfl)
  clear hb1
  go_wp2_with fail
  refine (right_c _ _ g _ _ _ (hgx.below hB1.bl)).mono ?_
  rintro e w2 ⟨rfl, hb2⟩
  rw [hrt]
  have hB2 := hB1.step hb2
  clear d0 d1 d2 hb2 hB1
  (have d0 : w2.cell? ⟨w.heap.size, 0, none⟩ = some (Value.slice ao0 g.owner.length cap0) := hB2.cell 0 rfl); (have d1 : w2.cell? ⟨w.heap.size, 1, none⟩ = some (Value.slice ao1 g.prio.length cap1) := hB2.cell 1 rfl); (have d2 : w2.cell? ⟨w.heap.size, 2, none⟩ = some (Value.slice ao2 g.succ.length cap2) := hB2.cell 2 rfl)
  go_upto_if 31 with (fail)
  go_cut [10] (fun v wx => w2 = wx ∧ v = .int .i64 p)
  case first =>
    cases b
    all_goals
      go_wp2
      go_meet
      case rel => exact ⟨rfl, by rw [HPB.out]; rfl⟩
  case rest =>
    obtain ⟨hw, rfl⟩ := hcut
    subst hw
    clear HPB
    go_wp2
    go_loopg [11, 12, 13] s.length (fun gh v1 v2 i wr => ∃ k : Nat, gh = s.length - k ∧ i = .int .i64 k ∧ k ≤ s.length ∧ OB wr w2.heap.size v1 (List.replicate k true) ∧ OB wr w2.heap.size v2 (orK s u k) ∧ Apart v1 v2 ∧ Below w2.heap.size w2 wr)
    case atStart =>
      exact ⟨0, rfl, rfl, by omega, (OB_new w2 (Nat.le_refl _) rfl).below (bel_box _), OB_new (w2.alloc _) (by simp) (by simp), Apart.of_lt (w := w2.alloc (.cells #[] 4)) (fun g hg => by cases hg; simp) (fun g hg => by cases hg; simp), (by repeat (first | exact Below.refl _ _ | assumption | (refine belA ?_ _) | (refine belD ?_ _)))⟩
    case round =>
      obtain ⟨k, hgk, rfl, hk, hown1, hown2, hap, hB⟩ := hrel
      have HG := Lib.hid hgk
      clear hgk d0 d1 d2
      by_cases hlt : k < s.length
      · have hltu : k < u.length := by rw [HU.out]; exact hlt
        obtain rfl := hs.ad (by omega)
        obtain rfl := hu.ad (by omega)
        have hBs := hB.size
        have A1 : Hid (s.getD k false = s[k]) := getD_lt _ _ _ hlt
        have A2 : Hid (u.getD k false = u[k]) := getD_lt _ _ _ hltu
        have hnl : (orK s u k).length < 140737488351232 := by rw [orK_len]; omega
        have hnr : (List.replicate k true).length < 140737488351232 := by simp; omega
        have HO1 := Lib.hid hown1
        have HO2 := Lib.hid hown2
        have HBw := Lib.hid hB
        clear hown1 hown2 hB
        have tok1 : True := trivial
        cases hq : s[k]
        all_goals
          obtain ⟨bo, hbo⟩ : ∃ bo, bo = (s.getD k false || u.getD k false) := ⟨_, rfl⟩
          have HBO := Lib.hid hbo
          rw [A1.out, A2.out, hq] at hbo
          simp only [Bool.true_or, Bool.false_or] at hbo
          go_wp2_with (first | (at_builtin; have _t := tok1; refine app_bool rfl _ _ true rfl w2.heap.size _ _ HO1.out rfl _ (by simp) rfl hnr hBs ?_; intro v1' w' hown1' hg1 hmv1; clear tok1; have hB' := HBw.out.grown hg1 hBs (fun g hg => (HO1.out.lt g hg).1); have c1 := cellB (hB2.bl.trans (hB'.mono hB2.bl.size)) (hs.el k hlt); have c2 := cellB (hB2.bl.trans (hB'.mono hB2.bl.size)) (hu.el k hltu); unfold bvF at c1 c2; rw [getD_lt _ _ _ hlt, hq] at c1; rw [getD_lt _ _ _ hltu] at c2; have hBs' := hB'.size; have HO2' := Lib.hid (HO2.out.grown hg1 hap.symm.ne); have hap2 := (hap.symm.moved hmv1 HO2.out.lt').symm; have HO1' := Lib.hid hown1'; have HBw' := Lib.hid hB'; clear hown1' hg1 hB') | (at_builtin; refine app_bool rfl _ _ _ rfl w2.heap.size _ _ HO2'.out rfl _ (by simp) rfl hnl hBs' ?_; intro v2' w'' hown2' hg2 hmv2))
          go_roundg (s.length - (k + 1))
          case measure => have := HG.out; omega
          case rel =>
            refine ⟨k + 1, rfl, by go_num, by omega, ?_, ?_, hap2.moved hmv2 HO1'.out.lt', HBw'.out.grown hg2 hBs' (fun g hg => (HO2'.out.lt g hg).1)⟩
            · rw [List.replicate_succ']; exact HO1'.out.grown hg2 hap2.ne
            · rw [orK_succ, A1.out, A2.out, hq]; exact hown2'
      · obtain rfl : k = s.length := by omega
        have hB3 := hB2.step hB
        have i1 := hown1.is (by simp; exact hns)
        have i2 := hown2.is (by rw [orK_len]; exact hns)
        clear hown1 hown2 hap hB hB2 HG
        obtain ⟨w3, rfl⟩ : ∃ w3 : World, w3 = wr := ⟨_, rfl⟩
        (have d0 : w3.cell? ⟨w.heap.size, 0, none⟩ = some (Value.slice ao0 g.owner.length cap0) := hB3.cell 0 rfl); (have d1 : w3.cell? ⟨w.heap.size, 1, none⟩ = some (Value.slice ao1 g.prio.length cap1) := hB3.cell 1 rfl); (have d2 : w3.cell? ⟨w.heap.size, 2, none⟩ = some (Value.slice ao2 g.succ.length cap2) := hB3.cell 2 rfl)
        have hz3 := Below.refl w3.heap.size w3
        have hF1 : Hid (fitsB g p (List.replicate s.length true).length = true) := by show _ = _; rw [List.length_replicate]; exact HF.out
        have hF2 : Hid (fitsB g p (notL (List.replicate s.length true)).length = true) := by show _ = _; rw [notL_len, List.length_replicate]; exact HF.out
        have hnr : (notL (List.replicate s.length true)).length ≤ maxN := by rw [notL_len, List.length_replicate]; exact hns
        have tr3 : TrOK g w3.drew p u11 := ⟨_, IsArr.below i1 (Below.drew (Below.refl _ _)), hF1.out, HT.out.1⟩
        go_wp2_with fail
        go_cut [68] (fun v wx => ∃ w5, w5 = wx ∧ v = .bool false ∧ Below w3.heap.size w3 w5)
        case first =>
          go_region_held3 (fun w' => w'.cell? ⟨w.heap.size, 0, none⟩ = some (Value.slice ao0 g.owner.length cap0) ∧ w'.cell? ⟨w.heap.size, 1, none⟩ = some (Value.slice ao1 g.prio.length cap1) ∧ w'.cell? ⟨w.heap.size, 2, none⟩ = some (Value.slice ao2 g.succ.length cap2)) (exact ⟨d0, d1, d2⟩) (first | (go_at_call_of 15 u11; refine (hTr.out _ _ _ (hB3.bl.trans ((Below.drew (Below.refl w3.heap.size w3)).mono hB3.bl.size)) tr3).mono ?_; rintro e w4 ⟨rfl, hs4⟩; have hz4 := (Below.drew (Below.refl w3.heap.size w3)).trans hs4; have hB4 := hB3.step hz4; have d0 : w4.cell? ⟨w.heap.size, 0, none⟩ = some (Value.slice ao0 g.owner.length cap0) := hB4.cell 0 rfl; have d1 : w4.cell? ⟨w.heap.size, 1, none⟩ = some (Value.slice ao1 g.prio.length cap1) := hB4.cell 1 rfl; have d2 : w4.cell? ⟨w.heap.size, 2, none⟩ = some (Value.slice ao2 g.succ.length cap2) := hB4.cell 2 rfl) | (go_at_call 21; refine (Not_c _ _ _ (IsArr.below i1 hz4)).mono ?_; rintro e w5 ⟨vn, rfl, hn, hs5⟩; have hz5 := hz4.trans (hs5.mono hz4.size); have hB5 := hB4.step hs5; have tr5 : TrOK g w5 p vn := ⟨_, hn.is hnr, hF2.out, HT.out.2.1⟩; have d0 : w5.cell? ⟨w.heap.size, 0, none⟩ = some (Value.slice ao0 g.owner.length cap0) := hB5.cell 0 rfl; have d1 : w5.cell? ⟨w.heap.size, 1, none⟩ = some (Value.slice ao1 g.prio.length cap1) := hB5.cell 1 rfl; have d2 : w5.cell? ⟨w.heap.size, 2, none⟩ = some (Value.slice ao2 g.succ.length cap2) := hB5.cell 2 rfl) | (go_at_call_of 15 vn; refine (hTr.out _ _ _ hB5.bl tr5).mono ?_; rintro e w6 ⟨rfl, hs6⟩; have hz6 := hz5.trans (hs6.mono hz5.size); have hB6 := hB5.step hs6; have d0 : w6.cell? ⟨w.heap.size, 0, none⟩ = some (Value.slice ao0 g.owner.length cap0) := hB6.cell 0 rfl; have d1 : w6.cell? ⟨w.heap.size, 1, none⟩ = some (Value.slice ao1 g.prio.length cap1) := hB6.cell 1 rfl; have d2 : w6.cell? ⟨w.heap.size, 2, none⟩ = some (Value.slice ao2 g.succ.length cap2) := hB6.cell 2 rfl))
          all_goals go_wp2_with fail
          all_goals
            go_meet
            case rel => exact ⟨_, rfl, rfl, hz6⟩
        case rest =>
          obtain ⟨w5, rfl, rfl, hz5⟩ := hcut
          have hB5 := hB3.step hz5
          have i25 := i2.below hz5
          clear d0 d1 d2 hB3 hz3 i1 tr3 hz5 i2
          (have d0 : w5.cell? ⟨w.heap.size, 0, none⟩ = some (Value.slice ao0 g.owner.length cap0) := hB5.cell 0 rfl); (have d1 : w5.cell? ⟨w.heap.size, 1, none⟩ = some (Value.slice ao1 g.prio.length cap1) := hB5.cell 1 rfl); (have d2 : w5.cell? ⟨w.heap.size, 2, none⟩ = some (Value.slice ao2 g.succ.length cap2) := hB5.cell 2 rfl)
          have hsub : IntKind.i64.wrap (1 - p) = 1 - p := IntWalk.i64_in _ (by omega)
          go_wp2_with fail
          refine (HC1.out _ hB5.bl).mono ?_
          rintro e w6 ⟨vx, rfl, hx, hb6, -⟩
          simp only [if_true] at hx
          have hB6 := hB5.step hb6
          have i26 := i25.below hb6
          clear d0 d1 d2 hB5 hb6 i25 HC1
          (have d0 : w6.cell? ⟨w.heap.size, 0, none⟩ = some (Value.slice ao0 g.owner.length cap0) := hB6.cell 0 rfl); (have d1 : w6.cell? ⟨w.heap.size, 1, none⟩ = some (Value.slice ao1 g.prio.length cap1) := hB6.cell 1 rfl); (have d2 : w6.cell? ⟨w.heap.size, 2, none⟩ = some (Value.slice ao2 g.succ.length cap2) := hB6.cell 2 rfl)
          go_wp2_with fail
          refine (HC2.out _ hB6.bl).mono ?_
          rintro e w7 ⟨vy, rfl, hy, hb7, -⟩
          simp only [if_true] at hy
          have hB7 := hB6.step hb7
          have i27 := i26.below hb7
          have ix : IsBools w7 vx x := (hx.below hb7).is (by rw [HL.out.1]; exact hns)
          have iy : IsBools w7 vy y := hy.is (by rw [HL.out.2.1]; exact hns)
          clear d0 d1 d2 hB6 hb7 i26 HC2 hx hy
          (have d0 : w7.cell? ⟨w.heap.size, 0, none⟩ = some (Value.slice ao0 g.owner.length cap0) := hB7.cell 0 rfl); (have d1 : w7.cell? ⟨w.heap.size, 1, none⟩ = some (Value.slice ao1 g.prio.length cap1) := hB7.cell 1 rfl); (have d2 : w7.cell? ⟨w.heap.size, 2, none⟩ = some (Value.slice ao2 g.succ.length cap2) := hB7.cell 2 rfl)
          obtain ⟨aox, capx, bx, offx, rfl, hx⟩ := ix
          obtain ⟨aoy, capy, by', offy, rfl, hy⟩ := iy
          rw [HL.out.1] at hx
          rw [HL.out.2.1] at hy
          simp only [HL.out.1, HL.out.2.1]
          go_wp2
          go_loopg [16, 17] s.length (fun gh v i wr => ∃ k : Nat, gh = s.length - k ∧ i = .int .i64 k ∧ k ≤ s.length ∧ OB wr w7.heap.size v (orK x y k) ∧ Below w7.heap.size w7 wr)
          case atStart =>
            exact ⟨0, rfl, rfl, by omega, OB_new w7 (Nat.le_refl _) rfl, (by repeat (first | exact Below.refl _ _ | assumption | (refine belA ?_ _) | (refine belD ?_ _)))⟩
          case round =>
            obtain ⟨k, hgk, rfl, hk, hown, hB⟩ := hrel
            have HG := Lib.hid hgk
            clear hgk d0 d1 d2
            by_cases hlt : k < s.length
            · obtain rfl := hx.ad (by omega)
              obtain rfl := hy.ad (by omega)
              have c1 := cellB hB (hx.el k hlt)
              have c2 := cellB hB (hy.el k hlt)
              unfold bvF at c1 c2
              have hBs := hB.size
              have hnl : (orK x y k).length < 140737488351232 := by rw [orK_len]; omega
              have HO := Lib.hid hown
              clear hown
              obtain ⟨xk, hxk⟩ : ∃ b, b = x.getD k false := ⟨_, rfl⟩
              obtain ⟨yk, hyk⟩ : ∃ b, b = y.getD k false := ⟨_, rfl⟩
              rw [← hxk] at c1
              rw [← hyk] at c2
              have HX : Hid ((x.getD k false || y.getD k false) = (xk || yk)) := by show _ = _; rw [hxk, hyk]
              clear hxk hyk
              cases xk
              · go_wp2_with (at_builtin; refine app_bool rfl _ _ yk rfl w7.heap.size _ _ HO.out rfl _ (by simp) rfl hnl hBs ?_; intro v' w' hown' hg hmv)
                go_roundg (s.length - (k + 1))
                case measure => have := HG.out; omega
                case rel => exact ⟨k + 1, rfl, by go_num, by omega, by rw [orK_succ, HX.out]; exact hown', hB.grown hg hBs (fun g hg => (HO.out.lt g hg).1)⟩
              · go_wp2_with (at_builtin; refine app_bool rfl _ _ true rfl w7.heap.size _ _ HO.out rfl _ (by simp) rfl hnl hBs ?_; intro v' w' hown' hg hmv)
                go_roundg (s.length - (k + 1))
                case measure => have := HG.out; omega
                case rel => exact ⟨k + 1, rfl, by go_num, by omega, by rw [orK_succ, HX.out]; exact hown', hB.grown hg hBs (fun g hg => (HO.out.lt g hg).1)⟩
            · obtain rfl : k = s.length := by omega
              have hB8 := hB7.step hB
              have i28 := i27.below hB
              obtain ⟨aob, capb, hvb⟩ := hown.slice
              rw [orK_len] at hvb
              subst hvb
              have ib := hown.is (by rw [orK_len]; exact hns)
              have hFb : Hid (fitsB g p (orK x y s.length).length = true) := by show _ = _; rw [orK_len]; exact HF.out
              have tr8 : TrOK g wr p _ := ⟨_, ib, hFb.out, HT.out.2.2.1⟩
              clear hown hB hB7 i27 HG hx hy
              (have d0 : wr.cell? ⟨w.heap.size, 0, none⟩ = some (Value.slice ao0 g.owner.length cap0) := hB8.cell 0 rfl); (have d1 : wr.cell? ⟨w.heap.size, 1, none⟩ = some (Value.slice ao1 g.prio.length cap1) := hB8.cell 1 rfl); (have d2 : wr.cell? ⟨w.heap.size, 2, none⟩ = some (Value.slice ao2 g.succ.length cap2) := hB8.cell 2 rfl)
              go_wp2_with fail
              refine (hTr.out _ _ _ hB8.bl tr8).mono ?_
              rintro e w9 ⟨rfl, hs9⟩
              have hB9 := hB8.step hs9
              have i29 := i28.below hs9
              have ib9 := IsBools.below ib hs9
              clear d0 d1 d2 hB8 hs9 i28 ib tr8
              (have d0 : w9.cell? ⟨w.heap.size, 0, none⟩ = some (Value.slice ao0 g.owner.length cap0) := hB9.cell 0 rfl); (have d1 : w9.cell? ⟨w.heap.size, 1, none⟩ = some (Value.slice ao1 g.prio.length cap1) := hB9.cell 1 rfl); (have d2 : w9.cell? ⟨w.heap.size, 2, none⟩ = some (Value.slice ao2 g.succ.length cap2) := hB9.cell 2 rfl)
              go_wp2_with fail
              refine (HC3.out _ _ hB9.bl i29).mono ?_
              rintro e w10 ⟨vz, rfl, hz, hs10, -⟩
              simp only [if_true] at hz
              have hB10 := hB9.step hs10
              have i210 := i29.below hs10
              clear d0 d1 d2
              go_wp2_with fail
              refine (part_c _ _ _ _ _ (IsBools.below ib9 hs10) (hz.is (by rw [HL.out.2.2]; exact hns))).mono ?_
              rintro e w10 ⟨rfl, rfl⟩
              rw [HT.out.2.2.2]
              clear hz ib9 hs10 hB9 i29
              (have d0 : w10.cell? ⟨w.heap.size, 0, none⟩ = some (Value.slice ao0 g.owner.length cap0) := hB10.cell 0 rfl); (have d1 : w10.cell? ⟨w.heap.size, 1, none⟩ = some (Value.slice ao1 g.prio.length cap1) := hB10.cell 1 rfl); (have d2 : w10.cell? ⟨w.heap.size, 2, none⟩ = some (Value.slice ao2 g.succ.length cap2) := hB10.cell 2 rfl)
              go_wp2_with fail
              refine (HTA.out _ hB10.bl).mono ?_
              rintro e w11 ⟨rfl, hs11⟩
              have hB11 := hB10.step hs11
              have i211 := i210.below hs11
              clear d0 d1 d2 hB10 hs11 i210
              (have d0 : w11.cell? ⟨w.heap.size, 0, none⟩ = some (Value.slice ao0 g.owner.length cap0) := hB11.cell 0 rfl); (have d1 : w11.cell? ⟨w.heap.size, 1, none⟩ = some (Value.slice ao1 g.prio.length cap1) := hB11.cell 1 rfl); (have d2 : w11.cell? ⟨w.heap.size, 2, none⟩ = some (Value.slice ao2 g.succ.length cap2) := hB11.cell 2 rfl)
              cases ta
              · go_wp2
                go_ret
                exact ⟨rfl, hB11.bl⟩
              · have hpp : Hid (partB s z = true) := HTP.out rfl
                go_wp2_with fail
                refine (HC3.out _ _ hB11.bl i211).mono ?_
                rintro e w12 ⟨vz, rfl, hz, hs12, -⟩
                simp only [if_true] at hz
                have hB12 := hB11.step hs12
                clear d0 d1 d2
                go_wp2_with fail
                refine (part_c _ _ _ s z (hsx.below hB12.bl) (hz.is (by rw [HL.out.2.2]; exact hns))).mono ?_
                rintro e w12 ⟨rfl, rfl⟩
                rw [hpp.out]
                go_wp2
                go_ret
                exact ⟨rfl, hB12.bl⟩

end Go.Proofs.Ytjppebbeobgmoaa
