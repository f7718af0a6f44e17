/- The law AttractMoves returns true: its walk. -/
import Derived.Test.YtjppebbeobgmoaaL2
import Derived.Test.YtjppebbeobgmoaaP22
import Derived.Deep.RegionHeld3
namespace Go.Proofs.Ytjppebbeobgmoaa
open Go.RowKit

set_option maxRecDepth 100000 in
set_option maxHeartbeats 8000000 in
theorem L3_walk (w : World) (vg vs : Value) (g : Gm) (b : Bool) (s : List Bool) (hg : IsGame w vg g) (hs : IsBools w vs s) :
    Calls Try.prog 5 #[vg, .bool b, vs] w (Calm (.bool true) w) := by
  have hgx := hg
  have hsx := hs
  obtain ⟨v0, v1, v2, rfl, ⟨⟨ao0, cap0, b0, off0, rfl, g0⟩, _⟩, ⟨⟨ao1, cap1, b1, off1, rfl, g1⟩, _⟩, ⟨V, ⟨ao2, cap2, b2, off2, rfl, g2⟩, hr⟩⟩ := hg
  obtain ⟨aos, caps, bs, offs, rfl, hs⟩ := hs
  have hns := hs.nb
  have hn0 := g0.nb
  have hn2 := g2.nb
  cases hrt : rightB g s.length
  · clear g0 g1 g2 hr
    go_enter Try.func5, Try.ntmps5
    go_wp2_with fail
    refine (head_c _).mono ?_
    rintro e w1 ⟨rfl, hb1⟩
    have hB1 := Boxed.start hb1
    (have d0 : w1.cell? ⟨w.heap.size, 0, none⟩ = some (Value.slice ao0 g.owner.length cap0) := hB1.cell 0 rfl); (have d1 : w1.cell? ⟨w.heap.size, 1, none⟩ = some (Value.slice ao1 g.prio.length cap1) := hB1.cell 1 rfl); (have d2 : w1.cell? ⟨w.heap.size, 2, none⟩ = some (Value.slice ao2 g.succ.length cap2) := hB1.cell 2 rfl)
    clear hb1
    go_wp2_with fail
    refine (right_c _ _ g _ _ _ (hgx.below hB1.bl)).mono ?_
    rintro e w2 ⟨rfl, hb2⟩
    rw [hrt]
    go_wp2
    go_ret
    exact ⟨rfl, hB1.bl.trans (hb2.mono hB1.bl.size)⟩
  obtain ⟨hS, h24⟩ := right_small hrt
  obtain ⟨p, hp⟩ : ∃ p : Int, p = if b then 1 else 0 := ⟨_, rfl⟩
  have hp1 : p = 0 ∨ p = 1 := by rw [hp]; cases b <;> simp
  have hf := right_fits hrt hp1
  have F := fits_of hf
  have HPB := Lib.hid hp
  have A := F.attr hS (t := s) rfl
  obtain ⟨la, hla⟩ : ∃ x, x = (attQ g p s).inn := ⟨_, rfl⟩
  obtain ⟨lm, hlm⟩ : ∃ x, x = (attQ g p s).mv := ⟨_, rfl⟩
  have HA1 : Hid (∀ W : World, Below w.heap.size w W → Calls Try.prog 11 #[.agg #[Value.slice ao0 g.owner.length cap0, Value.slice ao1 g.prio.length cap1, Value.slice ao2 g.succ.length cap2], .int .i64 p, Value.slice aos s.length caps] W (TwoOr true la lm W)) := fun W hW => by
    have := Attract_yes W _ _ g p s rfl (hgx.below hW) (hsx.below hW) hS hf
    rwa [← hla, ← hlm] at this
  rw [← hla, ← hlm] at A
  have HL : Hid (la.length = s.length ∧ lm.length = s.length) := ⟨A.li, A.lm⟩
  have HM : Hid (∀ i, i < s.length → MoveOK g p lm i) := A.moves (by omega) F.rg
  have HU : Hid (∀ i, i < s.length → lm.getD i 0 ≤ 24 ∧ -1 ≤ lm.getD i 0) := fun i hi => by
    have h1 := A.ub i hi
    refine ⟨by omega, ?_⟩
    cases hb : la.getD i false
    · have := A.ng i hi hb; omega
    · have := (A.im i hi).1 hb; omega
  have HON : Hid (g.owner.length = s.length ∧ g.succ.length = s.length) := ⟨F.on, F.sn⟩
  have HRG : Hid (∀ i, i < s.length → ∀ x ∈ g.succ.getD i [], 0 ≤ x ∧ x < s.length) := F.rg
  have HS := Lib.hid hS
  clear A F hla hlm hp hp1 hf hS
  go_enter Try.func5, Try.ntmps5
  go_wp2_with fail
  refine (head_c _).mono ?_
  rintro e w1 ⟨rfl, hb1⟩
  have hB1 := Boxed.start hb1
  (have d0 : w1.cell? ⟨w.heap.size, 0, none⟩ = some (Value.slice ao0 g.owner.length cap0) := hB1.cell 0 rfl); (have d1 : w1.cell? ⟨w.heap.size, 1, none⟩ = some (Value.slice ao1 g.prio.length cap1) := hB1.cell 1 rfl); (have d2 : w1.cell? ⟨w.heap.size, 2, none⟩ = some (Value.slice ao2 g.succ.length cap2) := hB1.cell 2 rfl)
  clear hb1
  go_wp2_with fail
  refine (right_c _ _ g _ _ _ (hgx.below hB1.bl)).mono ?_
  rintro e w2 ⟨rfl, hb2⟩
  rw [hrt]
  have hB2 := hB1.step hb2
  clear d0 d1 d2 hb2 hB1
  (have d0 : w2.cell? ⟨w.heap.size, 0, none⟩ = some (Value.slice ao0 g.owner.length cap0) := hB2.cell 0 rfl); (have d1 : w2.cell? ⟨w.heap.size, 1, none⟩ = some (Value.slice ao1 g.prio.length cap1) := hB2.cell 1 rfl); (have d2 : w2.cell? ⟨w.heap.size, 2, none⟩ = some (Value.slice ao2 g.succ.length cap2) := hB2.cell 2 rfl)
  go_upto_if 25 with (fail)
  go_cut [8] (fun v wx => w2 = wx ∧ v = .int .i64 p)
  case first =>
    cases b
    all_goals
      go_wp2
      go_meet
      case rel => exact ⟨rfl, by rw [HPB.out]; rfl⟩
  case rest =>
    obtain ⟨hw, rfl⟩ := hcut
    subst hw
    clear HPB
    go_wp2_with fail
    refine (HA1.out _ hB2.bl).mono ?_
    rintro e w3 ⟨va, vm, rfl, ha, hm, hb3⟩
    simp only [if_true] at ha hm
    obtain ⟨aoa, capa, hva⟩ := ha.slice
    rw [HL.out.1] at hva
    subst hva
    have hmA := hm.arr (by rw [HL.out.2]; exact hns)
    obtain ⟨aom, capm, hvm⟩ := hm.slice
    rw [HL.out.2] at hvm
    subst hvm
    obtain ⟨ao', cap', bm, offm, hv, im⟩ := hmA
    simp only [Value.slice.injEq] at hv
    obtain ⟨rfl, -, rfl⟩ := hv
    have hB3 := hB2.step hb3
    clear d0 d1 d2 hb3 hB2 ha hm HA1
    (have d0 : w3.cell? ⟨w.heap.size, 0, none⟩ = some (Value.slice ao0 g.owner.length cap0) := hB3.cell 0 rfl); (have d1 : w3.cell? ⟨w.heap.size, 1, none⟩ = some (Value.slice ao1 g.prio.length cap1) := hB3.cell 1 rfl); (have d2 : w3.cell? ⟨w.heap.size, 2, none⟩ = some (Value.slice ao2 g.succ.length cap2) := hB3.cell 2 rfl)
    go_wp2
    go_loopg [6, 11] s.length (fun gh r i wr => ∃ k : Nat, gh = s.length - k ∧ i = .int .i64 k ∧ r = .bool false ∧ k ≤ s.length ∧ w3 = wr)
    case atStart => exact ⟨0, rfl, rfl, rfl, by omega, rfl⟩
    case round =>
      obtain ⟨k, hgk, rfl, rfl, hk, rfl⟩ := hrel
      have HG := Lib.hid hgk
      clear hgk
      by_cases hlt : k < s.length
      · have hko : k < g.owner.length := by rw [HON.out.1]; exact hlt
        have hks : k < g.succ.length := by rw [HON.out.2]; exact hlt
        have hkm : k < lm.length := by rw [HL.out.2]; exact hlt
        obtain rfl := g0.ad (by omega)
        obtain rfl := g2.ad (by omega)
        obtain rfl := im.ad (by omega)
        have c0 := cellB hB3.bl (g0.el k hko)
        have c2 := cellB hB3.bl (g2.el k hks)
        have cm := im.el k hkm
        obtain ⟨⟨ao3, cap3, b3, off3, hv3, g3⟩, -⟩ := hr k hks
        rw [hv3] at c2
        unfold ivF at c0 cm
        have hn3 := g3.nb
        clear hv3
        have hrg := HRG.out k hlt
        have hmo := HM.out k hlt
        have hmu := HU.out k hlt
        have hsl := HS.out k
        unfold MoveOK at hmo
        generalize g.succ.getD k [] = row at *
        generalize hmk : lm.getD k 0 = mk at *
        clear hmk
        generalize g.owner.getD k 0 = ow at *
        have HMO := Lib.hid hmo
        have HRR := Lib.hid hrg
        clear hmo hrg
        go_wp2
        go_loopg [12, 13, 14, 15] row.length (fun gh ls ms os i wr => ∃ j : Nat, gh = row.length - j ∧ i = .int .i64 j ∧ ls = .int .i64 (leastL lm (row.take j)) ∧ ms = .int .i64 (mostL lm (row.take j)) ∧ os = .int .i64 (outL lm (row.take j)) ∧ j ≤ row.length ∧ w3 = wr)
        case atStart => exact ⟨0, rfl, rfl, rfl, rfl, rfl, by omega, rfl⟩
        case round =>
          obtain ⟨j, hgj, rfl, rfl, rfl, rfl, hj, rfl⟩ := hrel
          have HGJ := Lib.hid hgj
          clear hgj
          by_cases hltj : j < row.length
          · obtain rfl := g3.ad (by omega)
            have c3 := cellB hB3.bl (g3.el j hltj)
            unfold ivF at c3
            rw [getD_lt _ _ _ hltj] at c3
            obtain ⟨x0, x1⟩ := HRR.out row[j] (List.getElem_mem hltj)
            obtain ⟨m, hm⟩ := Int.eq_ofNat_of_zero_le x0
            have hml : m < lm.length := by rw [HL.out.2]; omega
            have hms : m < s.length := by omega
            have c4 := im.el m hml
            unfold ivF at c4
            rw [hm] at c3
            have hl2 := leastL_snoc lm (row.take j) row[j]
            have hm2 := mostL_snoc lm (row.take j) row[j]
            have ho2 := outL_snoc lm (row.take j) row[j]
            rw [← List.take_succ_eq_append_getElem hltj, hm, Int.toNat_natCast] at hl2 hm2 ho2
            have HX := Lib.hid (And.intro hl2 (And.intro hm2 ho2))
            have hob := outL_is lm (row.take j)
            have ho0 := hob.1
            have ho1 : outL lm (row.take j) ≤ 1000 := by have := hob.2.1; have h3 : (row.take j).length ≤ row.length := List.length_take_le' _ _; omega
            have hmu2 := HU.out m hms
            clear hl2 hm2 ho2 hob x0 x1 hm
            generalize leastL lm (row.take j) = lj at *
            generalize mostL lm (row.take j) = mj at *
            generalize outL lm (row.take j) = oj at *
            generalize lm.getD m 0 = mx at *
            by_cases hneg : mx < 0
            · go_wp2
              go_roundg (row.length - (j + 1))
              case measure => have := HGJ.out; omega
              case rel => exact ⟨j + 1, rfl, by go_num, by rw [HX.out.1, if_pos hneg], by rw [HX.out.2.1, if_pos hneg], by rw [HX.out.2.2, if_pos hneg], by omega, rfl⟩
            · go_wp2
              all_goals
                go_roundg (row.length - (j + 1))
                case measure => have := HGJ.out; omega
                case rel => exact ⟨j + 1, rfl, by go_num, by rw [HX.out.1, if_neg (by omega)]; congr 1; omega, by rw [HX.out.2.1, if_neg (by omega)]; congr 1; omega, by rw [HX.out.2.2, if_neg (by omega)], by omega, rfl⟩
          · obtain rfl : j = row.length := by omega
            simp only [List.take_length]
            have hob := outL_is lm row
            have ho0 := hob.1
            have ho1 : outL lm row ≤ row.length := hob.2.1
            have hmm := (mostL_is lm row).2.2
            clear hob
            have hrl : row.length ≤ 1000 := hsl
            generalize leastL lm row = lj at *
            generalize mostL lm row = mj at *
            generalize outL lm row = oj at *
            obtain ⟨q1, q2, q3, q4⟩ := HMO.out
            rcases (by omega : 0 < mk ∨ mk = 0 ∨ mk < 0) with hk0 | hk0 | hk0
            · by_cases ho : ow = p
              · have h1 := q1 hk0 ho
                have e1 : (ow == p) = true := by simpa using ho
                subst h1
                have e2 : (mk - 1 != mk - 1) = false := by simp
                clear ho q1 q2 q3 q4 HMO
                go_wp2
                go_roundg (s.length - (k + 1))
                case measure => have := HG.out; omega
                case rel => exact ⟨k + 1, rfl, by go_num, rfl, by omega, rfl⟩
              · obtain ⟨h1, h2⟩ := q2 hk0 ho
                have e1 : (ow == p) = false := by simpa using ho
                subst h1
                subst h2
                have e2 : (mk - 1 != mk - 1) = false := by simp
                clear ho q1 q2 q3 q4 HMO
                go_wp2
                go_roundg (s.length - (k + 1))
                case measure => have := HG.out; omega
                case rel => exact ⟨k + 1, rfl, by go_num, rfl, by omega, rfl⟩
            · subst hk0
              clear q1 q2 q3 q4 HMO
              cases e1 : (ow == p)
              all_goals
                go_wp2
                go_roundg (s.length - (k + 1))
                case measure => have := HG.out; omega
                case rel => exact ⟨k + 1, rfl, by go_num, rfl, by omega, rfl⟩
            · by_cases ho : ow = p
              · have h1 := q3 hk0 ho
                have e1 : (ow == p) = true := by simpa using ho
                have e2 : decide (0 < (row.length : Int) - oj) = false := by simp; omega
                have e3 : (row.length : Int) - oj ≤ 0 := by omega
                clear ho q1 q2 q3 q4 HMO h1
                go_wp2
                go_roundg (s.length - (k + 1))
                case measure => have := HG.out; omega
                case rel => exact ⟨k + 1, rfl, by go_num, rfl, by omega, rfl⟩
              · have h1 := q4 hk0 ho
                have e1 : (ow == p) = false := by simpa using ho
                have e2 : (oj == 0) = false := by simp; omega
                clear ho q1 q2 q3 q4 HMO
                go_wp2
                go_roundg (s.length - (k + 1))
                case measure => have := HG.out; omega
                case rel => exact ⟨k + 1, rfl, by go_num, rfl, by omega, rfl⟩
      · go_wp2
        go_ret
        exact ⟨rfl, hB3.bl⟩

end Go.Proofs.Ytjppebbeobgmoaa
