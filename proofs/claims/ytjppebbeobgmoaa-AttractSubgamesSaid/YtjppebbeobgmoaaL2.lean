/- The law AttractTargets returns true: its walk. -/
import Derived.Test.YtjppebbeobgmoaaC17
import Derived.Test.YtjppebbeobgmoaaP21
namespace Go.Proofs.Ytjppebbeobgmoaa
open Go.RowKit

theorem right_small {g : Gm} {n : Nat} (h : rightB g n = true) : (∀ i, (g.succ.getD i []).length ≤ 1000) ∧ n ≤ 24 := by
  simp only [rightB, Bool.and_eq_true, decide_eq_true_eq] at h
  refine ⟨fun i => ?_, ?_⟩
  · have h1 := h.1.1
    simp only [smallB, Bool.and_eq_true, List.all_eq_true, decide_eq_true_eq] at h1
    rcases Nat.lt_or_ge i g.succ.length with hi | hi
    · rw [getD_lt _ _ _ hi]
      have := h1.2 _ (List.getElem_mem hi)
      omega
    · simp [List.getD, Nat.not_lt.2 hi]
  · have h1 := h.1.1
    simp only [smallB, Bool.and_eq_true, decide_eq_true_eq] at h1
    omega

theorem right_fits {g : Gm} {n : Nat} {p : Int} (h : rightB g n = true) (hp : p = 0 ∨ p = 1) : fitsB g p n = true := by
  simp only [rightB, Bool.and_eq_true, decide_eq_true_eq] at h
  simp only [fitsB, Bool.and_eq_true, Bool.or_eq_true, decide_eq_true_eq]
  exact ⟨⟨hp, h.1.2⟩, h.2⟩

theorem Attract_yes (w : World) (vg vs : Value) (g : Gm) (p : Int) (s : List Bool) {n : Nat} (hn : s.length = n) (hg : IsGame w vg g) (hs : IsBools w vs s) (hS : ∀ i, (g.succ.getD i []).length ≤ 1000) (hf : fitsB g p n = true) :
    Calls Try.prog 11 #[vg, .int .i64 p, vs] w (TwoOr true (attQ g p s).inn (attQ g p s).mv w) := by
  subst hn
  have := Attract_c w vg vs g p s hg hs hS
  rwa [hf] at this

theorem OI.arr {w : World} {base : Nat} {v : Value} {l : List Int} (h : OI w base v l) (hn : l.length ≤ maxN) : IsArr w v l.length (ivF l) :=
  ownsRow_arr h hn _ fun j hj => by simp [ivF, hj]

/-- What the law asks of the three attractors. -/
structure L2F (g : Gm) (p : Int) (s u la lc : List Bool) (lm ln lb lo : List Int) : Prop where
  e1 : attQ g p s = ⟨la, lm, (attQ g p s).lf, (attQ g p s).q⟩
  e2 : (attQ g p la).inn = la ∧ (attQ g p la).mv = lo
  e3 : (attQ g p (orK s u s.length)).inn = lc ∧ (attQ g p (orK s u s.length)).mv = ln
  l1 : la.length = s.length
  l2 : lc.length = s.length
  l3 : lm.length = s.length
  l4 : ln.length = s.length
  p1 : partB s la = true
  p2 : partB la lc = true
  i1 : ∀ i, i < s.length → la.getD i false = decide (0 ≤ lm.getD i 0) ∧ s.getD i false = decide (lm.getD i 0 = 0) ∧ (0 ≤ lm.getD i 0 → ln.getD i 0 ≤ lm.getD i 0)

theorem L2_facts {g : Gm} {p : Int} {s : List Bool} (u : List Bool) (hf : fitsB g p s.length = true) (hS : ∀ i, (g.succ.getD i []).length ≤ 1000) :
    ∃ la lc lm ln lb lo, L2F g p s u la lc lm ln lb lo := by
  have F := fits_of hf
  have A := F.attr hS (t := s) rfl
  have A2 := F.attr hS (t := (attQ g p s).inn) A.li
  have A3 := F.attr hS (t := orK s u s.length) (orK_len _ _ _)
  have M := A.mono A3 (orK_len _ _ _) F.rg (fun i hi h => by rw [orK_get _ _ _ _ hi, h]; rfl)
  refine ⟨(attQ g p s).inn, (attQ g p (orK s u s.length)).inn, (attQ g p s).mv, (attQ g p (orK s u s.length)).mv, [], (attQ g p (attQ g p s).inn).mv, ⟨rfl, ⟨(A.idem A2 F.rg).symm, rfl⟩, ⟨rfl, rfl⟩, A.li, ?_, A.lm, ?_, ?_, ?_, fun i hi => ⟨?_, ?_, fun h => (M i hi ((A.im i hi).2 h)).2⟩⟩⟩
  · rw [A3.li, orK_len]
  · rw [A3.lm, orK_len]
  · rw [partB_iff A.li.symm]
    exact A.mem
  · rw [partB_iff (by rw [A.li, A3.li, orK_len])]
    exact fun i hi h => (M i (by rw [← A.li]; exact hi) h).1
  · rw [Bool.eq_iff_iff, decide_eq_true_eq]; exact A.im i hi
  · rw [Bool.eq_iff_iff, decide_eq_true_eq]; exact A.tg i hi

set_option maxRecDepth 100000 in
set_option maxHeartbeats 8000000 in
theorem L2_walk (w : World) (vg vs vu : Value) (g : Gm) (b : Bool) (s u : List Bool) (hg : IsGame w vg g) (hs : IsBools w vs s) (hu : IsBools w vu u) :
    Calls Try.prog 4 #[vg, .bool b, vs, vu] w (Calm (.bool true) w) := by
  have hgx := hg
  have hsx := hs
  have hux := hu
  obtain ⟨v0, v1, v2, rfl, ⟨⟨ao0, cap0, b0, off0, rfl, g0⟩, _⟩, ⟨⟨ao1, cap1, b1, off1, rfl, g1⟩, _⟩, ⟨V, ⟨ao2, cap2, b2, off2, rfl, g2⟩, hr⟩⟩ := hg
  obtain ⟨aos, caps, bs, offs, rfl, hs⟩ := hs
  obtain ⟨aou, capu, bu, offu, rfl, hu⟩ := hu
  have hns := hs.nb
  have hnu := hu.nb
  clear g0 g1 g2 hr
  cases hrt : rightB g s.length
  · go_enter Try.func4, Try.ntmps4
    go_wp2_with fail
    refine (head_c _).mono ?_
    rintro e w1 ⟨rfl, hb1⟩
    have hB1 := Boxed.start hb1
    (have d0 : w1.cell? ⟨w.heap.size, 0, none⟩ = some (Value.slice ao0 g.owner.length cap0) := hB1.cell 0 rfl); (have d1 : w1.cell? ⟨w.heap.size, 1, none⟩ = some (Value.slice ao1 g.prio.length cap1) := hB1.cell 1 rfl); (have d2 : w1.cell? ⟨w.heap.size, 2, none⟩ = some (Value.slice ao2 g.succ.length cap2) := hB1.cell 2 rfl)
    clear hb1
    go_wp2_with fail
    refine (right_c _ _ g _ _ _ (hgx.below hB1.bl)).mono ?_
    rintro e w2 ⟨rfl, hb2⟩
    rw [hrt]
    go_wp2
    go_ret
    exact ⟨rfl, hB1.bl.trans (hb2.mono hB1.bl.size)⟩
  obtain ⟨hS, h24⟩ := right_small hrt
  by_cases hl : u.length = s.length
  case neg =>
    have hne : ((u.length : Int) != s.length) = true := by simp; omega
    go_enter Try.func4, Try.ntmps4
    go_wp2_with fail
    refine (head_c _).mono ?_
    rintro e w1 ⟨rfl, hb1⟩
    have hB1 := Boxed.start hb1
    (have d0 : w1.cell? ⟨w.heap.size, 0, none⟩ = some (Value.slice ao0 g.owner.length cap0) := hB1.cell 0 rfl); (have d1 : w1.cell? ⟨w.heap.size, 1, none⟩ = some (Value.slice ao1 g.prio.length cap1) := hB1.cell 1 rfl); (have d2 : w1.cell? ⟨w.heap.size, 2, none⟩ = some (Value.slice ao2 g.succ.length cap2) := hB1.cell 2 rfl)
    clear hb1
    go_wp2_with fail
    refine (right_c _ _ g _ _ _ (hgx.below hB1.bl)).mono ?_
    rintro e w2 ⟨rfl, hb2⟩
    rw [hrt]
    go_wp2
    go_ret
    exact ⟨rfl, hB1.bl.trans (hb2.mono hB1.bl.size)⟩
  have hne : ((u.length : Int) != s.length) = false := by simp; omega
  obtain ⟨p, hp⟩ : ∃ p : Int, p = if b then 1 else 0 := ⟨_, rfl⟩
  have hp1 : p = 0 ∨ p = 1 := by rw [hp]; cases b <;> simp
  have hf := right_fits hrt hp1
  obtain ⟨la, lc, lm, ln, lb, lo, L⟩ := L2_facts u hf hS
  have HA1 : Hid (∀ W : World, Below w.heap.size w W → Calls Try.prog 11 #[.agg #[Value.slice ao0 g.owner.length cap0, Value.slice ao1 g.prio.length cap1, Value.slice ao2 g.succ.length cap2], .int .i64 p, Value.slice aos s.length caps] W (TwoOr true la lm W)) := fun W hW => by
    have := Attract_yes W _ _ g p s rfl (hgx.below hW) (hsx.below hW) hS hf
    rwa [L.e1] at this
  have HA2 : Hid (∀ (W : World) (v : Value), Below w.heap.size w W → IsBools W v la → Calls Try.prog 11 #[.agg #[Value.slice ao0 g.owner.length cap0, Value.slice ao1 g.prio.length cap1, Value.slice ao2 g.succ.length cap2], .int .i64 p, v] W (TwoOr true la lo W)) := fun W v hW hv => by
    have := Attract_yes W _ _ g p la L.l1 (hgx.below hW) hv hS hf
    rwa [L.e2.1, L.e2.2] at this
  have HA3 : Hid (∀ (W : World) (v : Value), Below w.heap.size w W → IsBools W v (orK s u s.length) → Calls Try.prog 11 #[.agg #[Value.slice ao0 g.owner.length cap0, Value.slice ao1 g.prio.length cap1, Value.slice ao2 g.succ.length cap2], .int .i64 p, v] W (TwoOr true lc ln W)) := fun W v hW hv => by
    have := Attract_yes W _ _ g p _ (orK_len _ _ _) (hgx.below hW) hv hS hf
    rwa [L.e3.1, L.e3.2] at this
  have HL : Hid (la.length = s.length ∧ lc.length = s.length ∧ lm.length = s.length ∧ ln.length = s.length) := ⟨L.l1, L.l2, L.l3, L.l4⟩
  have HP : Hid (partB s la = true ∧ partB la lc = true) := ⟨L.p1, L.p2⟩
  have HI : Hid (∀ i, i < s.length → la.getD i false = decide (0 ≤ lm.getD i 0) ∧ s.getD i false = decide (lm.getD i 0 = 0) ∧ (0 ≤ lm.getD i 0 → ln.getD i 0 ≤ lm.getD i 0)) := L.i1
  have HU := Lib.hid hl
  have HPB := Lib.hid hp
  clear L hl hp hp1 hf hS
  go_enter Try.func4, Try.ntmps4
  go_wp2_with fail
  refine (head_c _).mono ?_
  rintro e w1 ⟨rfl, hb1⟩
  have hB1 := Boxed.start hb1
  (have d0 : w1.cell? ⟨w.heap.size, 0, none⟩ = some (Value.slice ao0 g.owner.length cap0) := hB1.cell 0 rfl); (have d1 : w1.cell? ⟨w.heap.size, 1, none⟩ = some (Value.slice ao1 g.prio.length cap1) := hB1.cell 1 rfl); (have d2 : w1.cell? ⟨w.heap.size, 2, none⟩ = some (Value.slice ao2 g.succ.length cap2) := hB1.cell 2 rfl)
  clear hb1
  go_wp2_with fail
  refine (right_c _ _ g _ _ _ (hgx.below hB1.bl)).mono ?_
  rintro e w2 ⟨rfl, hb2⟩
  have hB2 := hB1.step hb2
  rw [hrt]
  clear d0 d1 d2 hb2 hB1
  (have d0 : w2.cell? ⟨w.heap.size, 0, none⟩ = some (Value.slice ao0 g.owner.length cap0) := hB2.cell 0 rfl); (have d1 : w2.cell? ⟨w.heap.size, 1, none⟩ = some (Value.slice ao1 g.prio.length cap1) := hB2.cell 1 rfl); (have d2 : w2.cell? ⟨w.heap.size, 2, none⟩ = some (Value.slice ao2 g.succ.length cap2) := hB2.cell 2 rfl)
  go_upto_if 33 with (fail)
  go_cut [10] (fun v wx => w2 = wx ∧ v = .int .i64 p)
  case first =>
    cases b
    all_goals
      go_wp2
      go_meet
      case rel => exact ⟨rfl, by rw [HPB.out]; rfl⟩
  case rest =>
    obtain ⟨hw, rfl⟩ := hcut
    subst hw
    clear HPB
    go_wp2_with fail
    refine (HA1.out _ hB2.bl).mono ?_
    rintro e w3 ⟨va, vm, rfl, ha, hm, hb3⟩
    simp only [if_true] at ha hm
    obtain ⟨aoa, capa, hva⟩ := ha.slice
    rw [HL.out.1] at hva
    subst hva
    obtain ⟨aom, capm, hvm⟩ := hm.slice
    rw [HL.out.2.2.1] at hvm
    subst hvm
    have hB3 := hB2.step hb3
    clear d0 d1 d2 hb3 hB2
    (have d0 : w3.cell? ⟨w.heap.size, 0, none⟩ = some (Value.slice ao0 g.owner.length cap0) := hB3.cell 0 rfl); (have d1 : w3.cell? ⟨w.heap.size, 1, none⟩ = some (Value.slice ao1 g.prio.length cap1) := hB3.cell 1 rfl); (have d2 : w3.cell? ⟨w.heap.size, 2, none⟩ = some (Value.slice ao2 g.succ.length cap2) := hB3.cell 2 rfl)
    go_wp2_with fail
    refine (HA2.out _ _ hB3.bl (ha.is (by rw [HL.out.1]; exact hns))).mono ?_
    rintro e w4 ⟨vb, vo, rfl, hb, -, hb4⟩
    simp only [if_true] at hb
    have ha4 := ha.below hb4
    have hm4 := hm.below hb4
    have hB4 := hB3.step hb4
    clear d0 d1 d2 hb4 hB3 ha hm HA1 HA2
    (have d0 : w4.cell? ⟨w.heap.size, 0, none⟩ = some (Value.slice ao0 g.owner.length cap0) := hB4.cell 0 rfl); (have d1 : w4.cell? ⟨w.heap.size, 1, none⟩ = some (Value.slice ao1 g.prio.length cap1) := hB4.cell 1 rfl); (have d2 : w4.cell? ⟨w.heap.size, 2, none⟩ = some (Value.slice ao2 g.succ.length cap2) := hB4.cell 2 rfl)
    have hz4 := hB4.lt
    go_wp2
    go_loopg [15, 16] s.length (fun gh v i wr => ∃ k : Nat, gh = s.length - k ∧ i = .int .i64 k ∧ k ≤ s.length ∧ OB wr w4.heap.size v (orK s u k) ∧ Below w4.heap.size w4 wr)
    case atStart =>
      exact ⟨0, rfl, rfl, by omega, World.ownsRow_made w4 #[] 0 (Nat.le_refl _) (by simp [maxLen]) rfl, (by repeat (first | exact Below.refl _ _ | assumption | (refine belA ?_ _) | (refine belD ?_ _)))⟩
    case round =>
      obtain ⟨k, hgk, rfl, hk, hown, hB⟩ := hrel
      have HG := Lib.hid hgk
      clear hgk d0 d1 d2
      by_cases hlt : k < s.length
      · have hltu : k < u.length := by rw [HU.out]; exact hlt
        obtain rfl := hs.ad (by omega)
        obtain rfl := hu.ad (by omega)
        have hBB := hB4.bl.trans (hB.mono hB4.bl.size)
        have c1 := cellB hBB (hs.el k hlt)
        have c2 := cellB hBB (hu.el k hltu)
        unfold bvF at c1 c2
        rw [getD_lt _ _ _ hlt] at c1
        rw [getD_lt _ _ _ hltu] at c2
        have A1 : Hid (s.getD k false = s[k]) := getD_lt _ _ _ hlt
        have A2 : Hid (u.getD k false = u[k]) := getD_lt _ _ _ hltu
        have hBs := hB.size
        have hnl : (orK s u k).length < 140737488351232 := by rw [orK_len]; omega
        have HO := Lib.hid hown
        clear hown
        cases hq : s[k]
        · rw [hq] at c1
          go_wp2_with (at_builtin; refine app_bool rfl _ _ u[k] rfl w4.heap.size _ _ HO.out rfl _ (by simp) rfl hnl hBs ?_; intro v' w' hown' hg hmv)
          go_roundg (s.length - (k + 1))
          case measure => have := HG.out; omega
          case rel => exact ⟨k + 1, rfl, by go_num, by omega, by rw [orK_succ, A1.out, A2.out, hq]; exact hown', hB.grown hg hBs (fun g hg => (HO.out.lt g hg).1)⟩
        · rw [hq] at c1
          go_wp2_with (at_builtin; refine app_bool rfl _ _ true rfl w4.heap.size _ _ HO.out rfl _ (by simp) rfl hnl hBs ?_; intro v' w' hown' hg hmv)
          go_roundg (s.length - (k + 1))
          case measure => have := HG.out; omega
          case rel => exact ⟨k + 1, rfl, by go_num, by omega, by rw [orK_succ, A1.out, A2.out, hq]; exact hown', hB.grown hg hBs (fun g hg => (HO.out.lt g hg).1)⟩
      · obtain rfl : k = s.length := by omega
        clear HG
        have hB5 := hB4.step hB
        (have d0 : wr.cell? ⟨w.heap.size, 0, none⟩ = some (Value.slice ao0 g.owner.length cap0) := hB5.cell 0 rfl); (have d1 : wr.cell? ⟨w.heap.size, 1, none⟩ = some (Value.slice ao1 g.prio.length cap1) := hB5.cell 1 rfl); (have d2 : wr.cell? ⟨w.heap.size, 2, none⟩ = some (Value.slice ao2 g.succ.length cap2) := hB5.cell 2 rfl)
        have ha5 := ha4.below hB
        have hm5 := hm4.below hB
        have hb5 := hb.below hB
        clear hB hB4 ha4 hm4 hb hz4
        go_wp2_with fail
        refine (HA3.out _ _ hB5.bl (hown.is (by rw [orK_len]; exact hns))).mono ?_
        rintro e w6 ⟨vc, vn, rfl, hc, hn, hb6⟩
        simp only [if_true] at hc hn
        have hB6 := hB5.step hb6
        obtain ⟨aoc, capc, hvc⟩ := hc.slice
        rw [HL.out.2.1] at hvc
        subst hvc
        obtain ⟨aon, capn, hvn⟩ := hn.slice
        rw [HL.out.2.2.2] at hvn
        subst hvn
        have ia : IsBools w6 _ la := (ha5.below hb6).is (by rw [HL.out.1]; exact hns)
        have ib : IsBools w6 _ la := (hb5.below hb6).is (by rw [HL.out.1]; exact hns)
        have ic : IsBools w6 _ lc := hc.is (by rw [HL.out.2.1]; exact hns)
        have hm6 := hm5.below hb6
        clear d0 d1 d2 hb6 hB5 ha5 hm5 hb5 hown HA3
        have is6 := hsx.below hB6.bl
        go_wp2_with fail
        refine (part_c _ _ _ s la is6 ia).mono ?_
        rintro e w6 ⟨rfl, rfl⟩
        rw [HP.out.1]
        go_wp2_with fail
        refine (Bools_c _ _ _ la la ia ib).mono ?_
        rintro e w7 ⟨rfl, n7, rfl⟩
        rw [decide_eq_true (rfl : la = la)]
        go_wp2_with fail
        refine (part_c _ _ _ la lc (ia.below (below_draws _ _ _)) (ic.below (below_draws _ _ _))).mono ?_
        rintro e w' ⟨rfl, rfl⟩
        rw [HP.out.2]
        go_wp2_with fail
        have in6 : IsArr w6 _ ln.length (ivF ln) := hn.arr (by rw [HL.out.2.2.2]; exact hns)
        have im6 : IsArr w6 _ lm.length (ivF lm) := hm6.arr (by rw [HL.out.2.2.1]; exact hns)
        obtain ⟨ao', cap', ba, offa, hv, ia⟩ := ia
        simp only [Value.slice.injEq] at hv
        obtain ⟨rfl, -, rfl⟩ := hv
        obtain ⟨ao', cap', bm, offm, hv, im6⟩ := im6
        simp only [Value.slice.injEq] at hv
        obtain ⟨rfl, -, rfl⟩ := hv
        obtain ⟨ao', cap', bn, offn, hv, in6⟩ := in6
        simp only [Value.slice.injEq] at hv
        obtain ⟨rfl, -, rfl⟩ := hv
        have hBL := hB6.bl
        clear hn hm6 hc ib ic is6 hB6
        go_loopg [8, 19] s.length (fun gh r i wr => ∃ (k n : Nat), gh = s.length - k ∧ i = .int .i64 k ∧ r = .bool false ∧ k ≤ s.length ∧ wr = w6.drewN n)
        case atStart => exact ⟨0, n7, rfl, rfl, rfl, by omega, rfl⟩
        case round =>
          obtain ⟨k, n, hgk, rfl, rfl, hk, rfl⟩ := hrel
          have HG := Lib.hid hgk
          clear hgk
          by_cases hlt : k < s.length
          · obtain rfl := hs.ad (by omega)
            obtain rfl := ia.ad (by rw [HL.out.1]; omega)
            obtain rfl := im6.ad (by rw [HL.out.2.2.1]; omega)
            obtain rfl := in6.ad (by rw [HL.out.2.2.2]; omega)
            have c1 := cellB hBL (hs.el k hlt)
            have c2 := ia.el k (by rw [HL.out.1]; omega)
            have c3 := im6.el k (by rw [HL.out.2.2.1]; omega)
            have c4 := in6.el k (by rw [HL.out.2.2.2]; omega)
            unfold bvF at c1 c2
            unfold ivF at c3 c4
            obtain ⟨i1, i2, i3⟩ := HI.out k hlt
            rw [i2] at c1
            rw [i1] at c2
            clear i1 i2
            generalize lm.getD k 0 = m at *
            generalize ln.getD k 0 = m' at *
            go_wp2
            refine wp_region_quiet_lit (by kernel_rfl) (by kernel_rfl) ?_
            rcases (by omega : m < 0 ∨ m = 0 ∨ 0 < m) with hm | hm | hm
            · have q1 : decide (0 ≤ m) = false := by simp; omega
              have q2 : decide (m = 0) = false := by simp; omega
              have q3 : (m == 0) = false := by simp; omega
              rw [q2] at c1
              rw [q1] at c2
              clear q2 i3
              ((repeat (go_big_quiet_step (fail))); refine wpQuiet_nil ?_; rintro _ ⟨nq, rfl⟩)
              go_wp2
              go_roundg (s.length - (k + 1))
              case measure => have := HG.out; omega
              case rel => exact ⟨k + 1, _, rfl, by go_num, rfl, by omega, rfl⟩
            · subst hm
              have i4 := i3 (Int.le_refl 0)
              have q4 : decide (0 < m') = false := by simp; omega
              rw [show decide ((0 : Int) = 0) = true from rfl] at c1
              rw [show decide ((0 : Int) ≤ 0) = true from rfl] at c2
              clear i3
              ((repeat (go_big_quiet_step (fail))); refine wpQuiet_nil ?_; rintro _ ⟨nq, rfl⟩)
              go_wp2
              go_roundg (s.length - (k + 1))
              case measure => have := HG.out; omega
              case rel => exact ⟨k + 1, _, rfl, by go_num, rfl, by omega, rfl⟩
            · have q1 : decide (0 ≤ m) = true := by simp; omega
              have q2 : decide (m = 0) = false := by simp; omega
              have q3 : (m == 0) = false := by simp; omega
              have i4 := i3 (by omega)
              have q4 : decide (m < m') = false := by simp; omega
              rw [q2] at c1
              rw [q1] at c2
              clear q2 i3
              ((repeat (go_big_quiet_step (fail))); refine wpQuiet_nil ?_; rintro _ ⟨nq, rfl⟩)
              go_wp2
              go_roundg (s.length - (k + 1))
              case measure => have := HG.out; omega
              case rel => exact ⟨k + 1, _, rfl, by go_num, rfl, by omega, rfl⟩
          · go_wp2
            go_ret
            exact ⟨rfl, belD hBL _⟩

end Go.Proofs.Ytjppebbeobgmoaa
