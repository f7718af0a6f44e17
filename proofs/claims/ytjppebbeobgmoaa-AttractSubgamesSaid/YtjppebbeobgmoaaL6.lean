/- The law AttractSubgames returns true: its walk. -/
import Derived.Test.YtjppebbeobgmoaaL2
import Derived.Test.YtjppebbeobgmoaaC19
namespace Go.Proofs.Ytjppebbeobgmoaa
open Go.RowKit

/-- What the law asks of the part outside an attractor. -/
structure L6F (g : Gm) (r : List Bool) (H : Gm) (P : List Int) : Prop where
  e : partR g r = (H, P)
  z : (keptI r r.length).length = 0 → P.length = 0
  y : 0 < (keptI r r.length).length → validB H = true ∧ P.length = (keptI r r.length).length ∧ H.owner.length = (keptI r r.length).length

theorem L6_facts {g : Gm} {p : Int} {r : List Bool} (F : Fits g p r.length) (hv : validB g = true) (hT : trapB g p r = true) : ∃ H P, L6F g r H P := by
  have hl : r.length = g.owner.length := F.on.symm
  refine ⟨(partR g r).1, (partR g r).2, ⟨rfl, fun h => ?_, fun h => ?_⟩⟩
  · have hn := List.eq_nil_of_length_eq_zero h
    unfold partR
    split
    · exact h
    · rfl
  · obtain ⟨h1, h2⟩ := part_valid F hT h hv
    have e : partR g r = (partG g r (keptI r r.length), keptI r r.length) := by unfold partR; rw [hv, h1, decide_eq_true hl]; rfl
    rw [e]
    exact ⟨h2, rfl, by simp [partG]⟩

set_option maxRecDepth 100000 in
set_option maxHeartbeats 8000000 in
theorem L6_walk (w : World) (vg vs : Value) (g : Gm) (b : Bool) (s : List Bool) (hg : IsGame w vg g) (hs : IsBools w vs s) :
    Calls Try.prog 8 #[vg, .bool b, vs] w (Calm (.bool true) w) := by
  have hgx := hg
  have hsx := hs
  obtain ⟨v0, v1, v2, rfl, ⟨⟨ao0, cap0, b0, off0, rfl, g0⟩, _⟩, ⟨⟨ao1, cap1, b1, off1, rfl, g1⟩, _⟩, ⟨V, ⟨ao2, cap2, b2, off2, rfl, g2⟩, hr⟩⟩ := hg
  obtain ⟨aos, caps, bs, offs, rfl, hs⟩ := hs
  have hns := hs.nb
  clear g0 g1 g2 hr hs
  cases hrt : rightB g s.length
  · go_enter Try.func8, Try.ntmps8
    go_wp2_with fail
    refine (head_c _).mono ?_
    rintro e w1 ⟨rfl, hb1⟩
    have hB1 := Boxed.start hb1
    (have d0 : w1.cell? ⟨w.heap.size, 0, none⟩ = some (Value.slice ao0 g.owner.length cap0) := hB1.cell 0 rfl); (have d1 : w1.cell? ⟨w.heap.size, 1, none⟩ = some (Value.slice ao1 g.prio.length cap1) := hB1.cell 1 rfl); (have d2 : w1.cell? ⟨w.heap.size, 2, none⟩ = some (Value.slice ao2 g.succ.length cap2) := hB1.cell 2 rfl)
    clear hb1
    go_wp2_with fail
    refine (right_c _ _ g _ _ _ (hgx.below hB1.bl)).mono ?_
    rintro e w2 ⟨rfl, hb2⟩
    rw [hrt]
    go_wp2
    go_ret
    exact ⟨rfl, hB1.bl.trans (hb2.mono hB1.bl.size)⟩
  obtain ⟨hS, h24⟩ := right_small hrt
  obtain ⟨p, hp⟩ : ∃ p : Int, p = if b then 1 else 0 := ⟨_, rfl⟩
  have hp1 : p = 0 ∨ p = 1 := by rw [hp]; cases b <;> simp
  have hf := right_fits hrt hp1
  have F := fits_of hf
  have HPB := Lib.hid hp
  have hvB : validB g = true := by
    have h := hrt
    simp only [rightB, Bool.and_eq_true] at h
    exact h.1.2
  have A := F.attr hS (t := s) rfl
  have TR := F.trap hS (t := s) rfl
  obtain ⟨la, hla⟩ : ∃ x, x = (attQ g p s).inn := ⟨_, rfl⟩
  obtain ⟨lm, hlm⟩ : ∃ x, x = (attQ g p s).mv := ⟨_, rfl⟩
  have HA1 : Hid (∀ W : World, Below w.heap.size w W → Calls Try.prog 11 #[.agg #[Value.slice ao0 g.owner.length cap0, Value.slice ao1 g.prio.length cap1, Value.slice ao2 g.succ.length cap2], .int .i64 p, Value.slice aos s.length caps] W (TwoOr true la lm W)) := fun W hW => by
    have := Attract_yes W _ _ g p s rfl (hgx.below hW) (hsx.below hW) hS hf
    rwa [← hla, ← hlm] at this
  rw [← hla] at A TR
  have hrl : (notL la).length = s.length := by rw [notL_len, A.li]
  obtain ⟨H, P, LF⟩ := L6_facts (r := notL la) (by rw [hrl]; exact F) hvB TR
  have HPT : Hid (∀ (W : World) (v : Value), Below w.heap.size w W → IsBools W v (notL la) → Calls Try.prog 22 #[.agg #[Value.slice ao0 g.owner.length cap0, Value.slice ao1 g.prio.length cap1, Value.slice ao2 g.succ.length cap2], v] W (GameInts H P W)) := fun W v hW hv => by
    have := Part_c W _ v g (notL la) (hgx.below hW) hv hS
    rwa [LF.e] at this
  have hLz := LF.z
  have hLy := LF.y
  rw [hrl] at hLz hLy
  have HZ := Lib.hid hLz
  have HY := Lib.hid hLy
  have HL : Hid (la.length = s.length ∧ (notL la).length = s.length) := ⟨A.li, hrl⟩
  clear A TR LF F hvB hla hlm hp hp1 hf hS hrl hLz hLy
  go_enter Try.func8, Try.ntmps8
  go_wp2_with fail
  refine (head_c _).mono ?_
  rintro e w1 ⟨rfl, hb1⟩
  have hB1 := Boxed.start hb1
  (have d0 : w1.cell? ⟨w.heap.size, 0, none⟩ = some (Value.slice ao0 g.owner.length cap0) := hB1.cell 0 rfl); (have d1 : w1.cell? ⟨w.heap.size, 1, none⟩ = some (Value.slice ao1 g.prio.length cap1) := hB1.cell 1 rfl); (have d2 : w1.cell? ⟨w.heap.size, 2, none⟩ = some (Value.slice ao2 g.succ.length cap2) := hB1.cell 2 rfl)
  clear hb1
  go_wp2_with fail
  refine (right_c _ _ g _ _ _ (hgx.below hB1.bl)).mono ?_
  rintro e w2 ⟨rfl, hb2⟩
  rw [hrt]
  have hB2 := hB1.step hb2
  clear d0 d1 d2 hb2 hB1
  (have d0 : w2.cell? ⟨w.heap.size, 0, none⟩ = some (Value.slice ao0 g.owner.length cap0) := hB2.cell 0 rfl); (have d1 : w2.cell? ⟨w.heap.size, 1, none⟩ = some (Value.slice ao1 g.prio.length cap1) := hB2.cell 1 rfl); (have d2 : w2.cell? ⟨w.heap.size, 2, none⟩ = some (Value.slice ao2 g.succ.length cap2) := hB2.cell 2 rfl)
  go_upto_if 22 with (fail)
  go_cut [8] (fun v wx => w2 = wx ∧ v = .int .i64 p)
  case first =>
    cases b
    all_goals
      go_wp2
      go_meet
      case rel => exact ⟨rfl, by rw [HPB.out]; rfl⟩
  case rest =>
    obtain ⟨hw, rfl⟩ := hcut
    subst hw
    clear HPB
    go_wp2_with fail
    refine (HA1.out _ hB2.bl).mono ?_
    rintro e w3 ⟨va, vm, rfl, ha, -, hb3⟩
    simp only [if_true] at ha
    have hB3 := hB2.step hb3
    clear d0 d1 d2 hb3 hB2 HA1
    (have d0 : w3.cell? ⟨w.heap.size, 0, none⟩ = some (Value.slice ao0 g.owner.length cap0) := hB3.cell 0 rfl); (have d1 : w3.cell? ⟨w.heap.size, 1, none⟩ = some (Value.slice ao1 g.prio.length cap1) := hB3.cell 1 rfl); (have d2 : w3.cell? ⟨w.heap.size, 2, none⟩ = some (Value.slice ao2 g.succ.length cap2) := hB3.cell 2 rfl)
    go_wp2_with fail
    refine (Not_c _ _ la (ha.is (by rw [HL.out.1]; exact hns))).mono ?_
    rintro e w4 ⟨vr, rfl, hr4, hb4⟩
    have hB4 := hB3.step hb4
    have ir : IsBools w4 vr (notL la) := hr4.is (by rw [HL.out.2]; exact hns)
    clear d0 d1 d2 hb4 hB3 ha hr4
    (have d0 : w4.cell? ⟨w.heap.size, 0, none⟩ = some (Value.slice ao0 g.owner.length cap0) := hB4.cell 0 rfl); (have d1 : w4.cell? ⟨w.heap.size, 1, none⟩ = some (Value.slice ao1 g.prio.length cap1) := hB4.cell 1 rfl); (have d2 : w4.cell? ⟨w.heap.size, 2, none⟩ = some (Value.slice ao2 g.succ.length cap2) := hB4.cell 2 rfl)
    generalize notL la = rs at *
    have hir := ir
    obtain ⟨aor, capr, br, offr, rfl, ir⟩ := ir
    rw [HL.out.2] at ir hir
    simp only [HL.out.2]
    go_wp2
    go_loopg [12, 13] s.length (fun gh n i wr => ∃ k : Nat, gh = s.length - k ∧ i = .int .i64 k ∧ n = .int .i64 ((keptI rs k).length : Int) ∧ k ≤ s.length ∧ w4 = wr)
    case atStart => exact ⟨0, rfl, rfl, rfl, by omega, rfl⟩
    case round =>
      obtain ⟨k, hgk, rfl, rfl, hk, rfl⟩ := hrel
      have HG := Lib.hid hgk
      clear hgk
      by_cases hlt : k < s.length
      · obtain rfl := ir.ad (by omega)
        have c1 := ir.el k hlt
        unfold bvF at c1
        have hks := keptI_succ rs k
        have hkl := keptI_len rs k
        have h24' : s.length ≤ 24 := h24
        cases hq : rs.getD k false
        · rw [hq] at c1 hks
          have HK := Lib.hid hks
          clear hks hq
          go_wp2
          go_roundg (s.length - (k + 1))
          case measure => have := HG.out; omega
          case rel => exact ⟨k + 1, rfl, by go_num, by rw [HK.out]; rfl, by omega, rfl⟩
        · rw [hq] at c1 hks
          have HK := Lib.hid hks
          clear hks hq
          go_wp2
          go_roundg (s.length - (k + 1))
          case measure => have := HG.out; omega
          case rel => exact ⟨k + 1, rfl, by go_num, by rw [HK.out, if_pos trivial, List.length_append]; go_num, by omega, rfl⟩
      · obtain rfl : k = s.length := by omega
        have hkl := keptI_len rs s.length
        generalize hN : (keptI rs s.length).length = N at *
        clear hN HG
        (have d0 : w4.cell? ⟨w.heap.size, 0, none⟩ = some (Value.slice ao0 g.owner.length cap0) := hB4.cell 0 rfl); (have d1 : w4.cell? ⟨w.heap.size, 1, none⟩ = some (Value.slice ao1 g.prio.length cap1) := hB4.cell 1 rfl); (have d2 : w4.cell? ⟨w.heap.size, 2, none⟩ = some (Value.slice ao2 g.succ.length cap2) := hB4.cell 2 rfl)
        go_wp2_with fail
        refine (HPT.out _ _ hB4.bl hir).mono ?_
        rintro e w5 ⟨vh, vp, rfl, hh, hp, hb5⟩
        have hB5 := hB4.step hb5
        obtain ⟨u0, u1, u2, rfl, ⟨⟨ah0, ch0, bh0, oh0, rfl, h0⟩, y0⟩, ⟨⟨ah1, ch1, bh1, oh1, rfl, h1⟩, y1⟩, ⟨V', ⟨ah2, ch2, bh2, oh2, rfl, h2⟩, y2⟩⟩ := id hh
        obtain ⟨⟨ap, cp, bp, op, rfl, hp⟩, -⟩ := hp
        have hHn : H.owner.length ≤ 140737488351232 := h0.nb
        have hPn : P.length ≤ 140737488351232 := hp.nb
        clear h0 h1 h2 y0 y1 y2 hp d0 d1 d2 hb5 hB4 hir ir
        have HBx := Lib.hid hB5.bl
        clear hB5
        rcases Nat.eq_zero_or_pos N with hN0 | hN0
        · subst hN0
          have hP0 := HZ.out rfl
          have e1 : ((P.length : Int) == 0) = true := by rw [hP0]; rfl
          clear hP0 HZ HY
          go_wp2
          go_ret
          exact ⟨rfl, HBx.out.trans ((bel_box _).mono HBx.out.size)⟩
        · obtain ⟨hv, hp1, hp2⟩ := HY.out hN0
          have e0 : ((N : Int) == 0) = false := by rw [beq_eq_false_iff_ne]; omega
          have e1 : ((P.length : Int) == (N : Int)) = true := by rw [hp1]; simp
          have e2 : ((H.owner.length : Int) == (N : Int)) = true := by rw [hp2]; simp
          have HV := Lib.hid hv
          clear hp1 hp2 HY HZ hv
          go_wp2_with fail
          refine (AValid_c _ _ H (hh.below (bel_box _))).mono ?_
          rintro e w6 ⟨rfl, hb6⟩
          rw [HV.out]
          have d0 : w6.cell? ⟨w5.heap.size, 0, none⟩ = some (Value.slice ah0 H.owner.length ch0) := boxCell 0 hb6 rfl
          go_wp2
          go_ret
          exact ⟨rfl, HBx.out.trans (((bel_box _).trans (hb6.mono (by simp))).mono HBx.out.size)⟩

end Go.Proofs.Ytjppebbeobgmoaa
