/- The law RankWork: its walk. -/
import Derived.Test.YtijkjhcigdfdgaaQRkA4
namespace Go.Proofs.Ytijkjhcigdfdgaa
open Go.RowKit

theorem IsGame.prioI {w : World} {a b c : Value} {g : Gm} (h : IsGame w (.agg #[a, b, c]) g) : IsInts w b g.prio := by
  obtain ⟨v0, v1, v2, hv, i0, i1, i2⟩ := h
  simp only [Value.agg.injEq, Array.mk.injEq, List.cons.injEq] at hv
  obtain ⟨rfl, rfl, rfl, -⟩ := hv
  exact i1

set_option maxRecDepth 100000 in
set_option maxHeartbeats 8000000 in
theorem Work_walk (w : World) (vg : Value) (g : Gm) (x : Int) (hg : IsGame w vg g) (hx8 : 0 ≤ x ∧ x ≤ 255) : Calls Try.prog 7 #[vg, .int .u8 x] w (Calm (.bool true) w) := by
  obtain ⟨hx0, hx1⟩ := hx8
  have HPP : Hid (x % 2 = 0 ∨ x % 2 = 1) := by show _ ∨ _; omega
  obtain ⟨a0, c0, a1, c1, a2, c2, rfl⟩ := hg.shape
  generalize hn0 : g.owner.length = n0 at *
  generalize hn1 : g.prio.length = n1 at *
  generalize hn2 : g.succ.length = n2 at *
  have HN0 := Lib.hid hn0
  have HN1 := Lib.hid hn1
  clear hn0 hn1 hn2
  go_enter Try.func7, Try.ntmps7
  go_upto_region 1 with (fail)
  obtain ⟨hx, hb, hB⟩ := box_new (w0 := w) (Below.refl _ _) (Nat.le_refl _) #[.slice a0 n0 c0, .slice a1 n1 c1, .slice a2 n2 c2] 25
  replace hg := hg.below hb
  generalize w.alloc (.cells #[.slice a0 n0 c0, .slice a1 n1 c1, .slice a2 n2 c2] 25) = w1 at *
  clear hb
  go_wp2_with fail
  refine (head_c _).mono ?_
  rintro e w2 ⟨rfl, hb⟩
  replace hx := (hb.block _ (Array.getElem?_eq_some_iff.1 hx).1).trans hx
  replace hg := hg.below hb
  replace hB := hB.trans (hb.mono hB.size)
  clear hb 
  have k0 := cell_of_row _ _ 0 _ _ _ hx
  have k1 := cell_of_row _ _ 1 _ _ _ hx
  have k2 := cell_of_row _ _ 2 _ _ _ hx
  go_wp2_with fail
  refine (Small_c _ _ g 60 hg).mono ?_
  rintro e w3 ⟨rfl, hb⟩
  replace hx := (hb.block _ (Array.getElem?_eq_some_iff.1 hx).1).trans hx
  replace hg := hg.below hb
  replace hB := hB.trans (hb.mono hB.size)
  clear hb k0 k1 k2
  cases hs : smallB g 60 with
  | false =>
    clear hs
    go_wp2_with fail
    go_ret
    exact ⟨rfl, hB⟩
  | true =>
  have HSM := Lib.hid (small_prio hs)
  clear hs
  have k0 := cell_of_row _ _ 0 _ _ _ hx
  have k1 := cell_of_row _ _ 1 _ _ _ hx
  have k2 := cell_of_row _ _ 2 _ _ _ hx
  go_wp2_with fail
  refine (RValid_c _ _ g hg).mono ?_
  rintro e w4 ⟨rfl, hb⟩
  replace hx := (hb.block _ (Array.getElem?_eq_some_iff.1 hx).1).trans hx
  replace hg := hg.below hb
  replace hB := hB.trans (hb.mono hB.size)
  clear hb k0 k1 k2
  cases hv : validB g with
  | false =>
    clear hv
    go_wp2_with fail
    go_ret
    exact ⟨rfl, hB⟩
  | true =>
  have k0 := cell_of_row _ _ 0 _ _ _ hx
  have k1 := cell_of_row _ _ 1 _ _ _ hx
  have k2 := cell_of_row _ _ 2 _ _ _ hx
  go_wp2_with fail
  refine (Greatest_c _ _ g hg (by have := HSM.out.1; omega)).mono ?_
  rintro e w5 ⟨rfl, hb⟩
  replace hx := (hb.block _ (Array.getElem?_eq_some_iff.1 hx).1).trans hx
  replace hg := hg.below hb
  replace hB := hB.trans (hb.mono hB.size)
  clear hb k0 k1 k2
  by_cases h40 : (40 : Int) < greatI g.prio
  · go_wp2_with fail
    go_ret
    exact ⟨rfl, hB⟩
  have HW : Hid (WorkH g) := by
    have h := HSM.out
    exact ⟨hv, by omega, by omega, h.2.2, by show g.prio.foldl max 0 ≤ 40; unfold greatI at h40; omega⟩
  have hn10 : n1 = n0 := by rw [← HN1.out, ← HN0.out]; exact (valid_lens hv).2.1
  have hn60 : n0 ≤ 60 := by rw [← HN0.out]; exact HW.out.n
  have HVV := Lib.hid hv
  generalize greatI g.prio = top at *
  subst hn10
  generalize hnz : n1 = n0 at *
  clear hnz HSM hv
  go_upto_region 5 with (fail)
  obtain ⟨p, hp⟩ : ∃ p, p = x % 2 := ⟨_, rfl⟩
  rw [← hp] at HPP ⊢
  clear hp hx0 hx1
  have k0 := cell_of_row _ _ 0 _ _ _ hx
  have k1 := cell_of_row _ _ 1 _ _ _ hx
  have k2 := cell_of_row _ _ 2 _ _ _ hx
  go_wp2_with fail
  refine (Work_c _ _ g p hg HW.out.look).mono ?_
  rintro e w6 ⟨rfl, hb⟩
  replace hx := (hb.block _ (Array.getElem?_eq_some_iff.1 hx).1).trans hx
  replace hg := hg.below hb
  replace hB := hB.trans (hb.mono hB.size)
  clear hb k0 k1 k2
  obtain ⟨wk, hwk⟩ : ∃ wk, wk = workV g p := ⟨_, rfl⟩
  rw [← hwk]
  have HNU : Hid (easyB g p n0 = decide (wk = n0) ∧ wk ≤ 2000001 ∧ n0 ≤ wk) := by
    show _ ∧ _
    have h := HW.out.num HPP.out
    rw [HN0.out, ← hwk] at h
    refine ⟨?_, h.2⟩
    by_cases h0 : 0 < n0
    · exact h.1 h0
    · obtain rfl : n0 = 0 := by omega
      have : wk = 0 := by rw [hwk, HW.out.work HPP.out, HN0.out]; simp [workN]
      rw [this]; rfl
  have HWK := Lib.hid hwk
  clear hwk
  have HGG := Lib.hid hg
  have HXX := Lib.hid hx
  have HBB := Lib.hid hB
  obtain ⟨bP, oP, dP, nP, fP⟩ := hg.prioI.data
  have HFP := Lib.hid fP
  have HPB : Hid (∀ k, k < n0 → 0 ≤ g.prio.getD k 0 ∧ g.prio.getD k 0 ≤ 30000) := fun k hk => (valid_at HVV.out k (by rw [HN0.out]; exact hk)).2.1
  have k0 := cell_of_row _ _ 0 _ _ _ hx
  have k1 := cell_of_row _ _ 1 _ _ _ hx
  have k2 := cell_of_row _ _ 2 _ _ _ hx
  clear fP hg hx hB
  go_wp2_with fail
  go_loopg [8, 9] n0 (fun gh e i wr => ∃ k : Nat, gh = n0 - k ∧ e = .bool (easyB g p k) ∧ i = .int .i64 (k : Int) ∧ k ≤ n0 ∧ w6 = wr)
  case atStart => exact ⟨0, rfl, rfl, rfl, by omega, rfl⟩
  case round =>
    obtain ⟨k, hgk, rfl, rfl, hk, rfl⟩ := hrel
    have HGK := Lib.hid hgk
    clear hgk
    by_cases hlt : k < n0
    · obtain rfl := dP (by omega)
      have i1 : (k : Int) < (n0 : Int) := by omega
      have hi0 : (0 : Int) ≤ (k : Int) := by omega
      have cP := HFP.out k hlt
      obtain ⟨y0, y1⟩ := HPB.out k hlt
      have HES := Lib.hid (easyB_succ g p k)
      generalize g.prio.getD k 0 = y at *
      cases he : easyB g p k with
      | false =>
        rw [he] at HES
        clear he
        go_wp2
        go_roundg (n0 - (k + 1))
        case measure => have := HGK.out; omega
        case rel => exact ⟨k + 1, rfl, by rw [HES.out]; rfl, by go_num, by omega, rfl⟩
      | true =>
        rw [he] at HES
        clear he
        by_cases hyp : y % 2 = p
        · have t1 : (y % 2 == p) = true := by simpa using hyp
          have HES2 : Hid (easyB g p (k + 1) = true) := by show _ = _; rw [HES.out, decide_eq_true hyp]; rfl
          clear HES hyp
          go_wp2
          go_roundg (n0 - (k + 1))
          case measure => have := HGK.out; omega
          case rel => exact ⟨k + 1, rfl, by rw [HES2.out], by go_num, by omega, rfl⟩
        · have t1 : (y % 2 == p) = false := by simpa using hyp
          have HES2 : Hid (easyB g p (k + 1) = false) := by show _ = _; rw [HES.out, decide_eq_false hyp]; rfl
          clear HES hyp
          go_wp2
          go_roundg (n0 - (k + 1))
          case measure => have := HGK.out; omega
          case rel => exact ⟨k + 1, rfl, by rw [HES2.out], by go_num, by omega, rfl⟩
    · obtain rfl : k = n0 := by omega
      clear hlt hk HGK
      generalize hkn : k = n0 at *
      clear hkn
      have i1 : ¬ (n0 : Int) < (n0 : Int) := by omega
      have HEA := Lib.hid HNU.out.1
      obtain ⟨w1', w2'⟩ := HNU.out.2
      clear HFP HPB dP nP
      by_cases hwn : wk = n0
      · have HET : Hid (easyB g p n0 = true) := by show _ = _; rw [HEA.out, decide_eq_true hwn]
        have HOK : Hid (¬ 2000000 < workV g p) := by show ¬ _; rw [← HWK.out]; omega
        rw [HET.out]
        subst hwn
        generalize hwz : wk = n0 at *
        clear hwz
        clear HEA HNU HWK
        have tW : ((n0 : Int) == (n0 : Int)) = true := by simp
        have hg := HGG.out
        have hx := HXX.out
        have hB := HBB.out
        clear HGG HXX HBB
        go_upto_region 15 with (fail)
        clear k0 k1 k2
        have k0 := cell_of_row _ _ 0 _ _ _ hx
        have k1 := cell_of_row _ _ 1 _ _ _ hx
        have k2 := cell_of_row _ _ 2 _ _ _ hx
        go_wp2_with fail
        refine (Measure_c _ _ g p hg HW.out.look fun h e hw => top_work e hw).mono ?_
        intro e w21 h
        obtain ⟨a3, c3, rfl, hm0, hb⟩ : ∃ a c, e = .returned (.tuple #[.slice a n0 c, .int .i64 0]) ∧ IsRows w21 (.slice a n0 c) (lstG g p) ∧ Below w6.heap.size w6 w21 := by have := h.ex (HW.out.meas HPP.out HOK.out); rw [lst_len, HN0.out] at this; exact this
        clear h
        replace hx := (hb.block _ (Array.getElem?_eq_some_iff.1 hx).1).trans hx
        replace hg := hg.below hb
        replace hB := hB.trans (hb.mono hB.size)
        clear hb k0 k1 k2
        go_upto_region 18 with (fail)
        have k0 := cell_of_row _ _ 0 _ _ _ hx
        have k1 := cell_of_row _ _ 1 _ _ _ hx
        have k2 := cell_of_row _ _ 2 _ _ _ hx
        have HBB := Lib.hid hB
        clear hB hg hx
        obtain ⟨bA, oA, dA, nA, fA⟩ := hm0.dat2
        have HFA := Lib.hid fA
        clear fA hm0
        have HRW : Hid (∀ i, i < n0 → (lstG g p).getD i [] ≠ [] ∧ ∀ j, ((lstG g p).getD i []).getD j 0 = 0) := fun i hi => HW.out.rows HPP.out (by rw [HN0.out]; exact HET.out) (by rw [HN0.out]; exact hi)
        generalize lstG g p = A at *
        go_wp2_with fail
        go_loopg [12] n0 (fun gh i wr => ∃ k : Nat, gh = n0 - k ∧ i = .int .i64 (k : Int) ∧ k ≤ n0 ∧ w21 = wr)
        case atStart => exact ⟨0, rfl, rfl, by omega, rfl⟩
        case round =>
          obtain ⟨k, hgk, rfl, hk, rfl⟩ := hrel
          have HGK := Lib.hid hgk
          clear hgk
          by_cases hlt : k < n0
          · obtain rfl := dA (by omega)
            have i2 : (k : Int) < (n0 : Int) := by omega
            have hi0 : (0 : Int) ≤ (k : Int) := by omega
            obtain ⟨a1', e1, cM, rM⟩ := HFA.out k hlt
            obtain ⟨hne, hz⟩ := HRW.out k hlt
            have hlp : (A.getD k []).length ≠ 0 := fun e => hne (List.length_eq_zero_iff.1 e)
            obtain ⟨bR, oR, dR, nR, fR⟩ := rM.data
            have HFR : Hid (∀ j, j < (A.getD k []).length → w21.cell? ⟨bR, oR + j, none⟩ = some (.int .i64 0)) := fun j hj => by rw [fR j hj, hz j]
            clear fR rM hne hz
            generalize (A.getD k []).length = y at *
            have tE : ((y : Int) == 0) = false := by rw [beq_eq_false_iff_ne]; omega
            go_wp2_with fail
            go_loopg [13] y (fun gh i wz => ∃ j : Nat, gh = y - j ∧ i = .int .i64 (j : Int) ∧ j ≤ y ∧ w21 = wz)
            case atStart => exact ⟨0, rfl, rfl, by omega, rfl⟩
            case round =>
              obtain ⟨j, hgj, rfl, hj, rfl⟩ := hrel
              have HGJ := Lib.hid hgj
              clear hgj
              by_cases hjy : j < y
              · obtain rfl := dR (by omega)
                have i3 : (j : Int) < (y : Int) := by omega
                have hj0 : (0 : Int) ≤ (j : Int) := by omega
                have cR := HFR.out j hjy
                go_wp2
                go_roundg (y - (j + 1))
                case measure => have := HGJ.out; omega
                case rel => exact ⟨j + 1, rfl, by go_num, by omega, rfl⟩
              · have i3 : ¬ (j : Int) < (y : Int) := by omega
                go_wp2
                go_roundg (n0 - (k + 1))
                case measure => have := HGK.out; omega
                case rel => exact ⟨k + 1, rfl, by go_num, by omega, rfl⟩
          · have i2 : ¬ (k : Int) < (n0 : Int) := by omega
            go_wp2
            go_ret
            exact ⟨rfl, HBB.out⟩
      · have HET : Hid (easyB g p n0 = false) := by show _ = _; rw [HEA.out, decide_eq_false hwn]
        have tW : ((wk : Int) == (n0 : Int)) = false := by rw [beq_eq_false_iff_ne]; omega
        have tV : ¬ (wk : Int) < (n0 : Int) := by omega
        have tU : ¬ (2000001 : Int) < (wk : Int) := by omega
        rw [HET.out]
        clear HEA HNU HET
        by_cases h2 : (20000 : Int) < (wk : Int)
        · by_cases h3 : (wk : Int) ≤ 2000000
          · go_wp2_with fail
            go_ret
            exact ⟨rfl, HBB.out⟩
          · have HOK : Hid (2000000 < workV g p) := by show _ < _; rw [← HWK.out]; omega
            have h4 : (2000000 : Int) < (wk : Int) := by omega
            have hg := HGG.out
            have hx := HXX.out
            have hB := HBB.out
            clear HGG HXX HBB
            go_upto_region 15 with (fail)
            clear k0 k1 k2
            have k0 := cell_of_row _ _ 0 _ _ _ hx
            have k1 := cell_of_row _ _ 1 _ _ _ hx
            have k2 := cell_of_row _ _ 2 _ _ _ hx
            go_wp2_with fail
            refine (Measure_c _ _ g p hg HW.out.look fun h e hw => top_work e hw).mono ?_
            intro e w21 h
            obtain ⟨a3, c3, rfl, hm0, hb⟩ : ∃ a c, e = .returned (.tuple #[.slice a 0 c, .int .i64 2]) ∧ IsRows w21 (.slice a 0 c) [] ∧ Below w6.heap.size w6 w21 := h.ex (HW.out.big HPP.out HOK.out)
            clear h
            replace hx := (hb.block _ (Array.getElem?_eq_some_iff.1 hx).1).trans hx
            replace hg := hg.below hb
            replace hB := hB.trans (hb.mono hB.size)
            clear hb k0 k1 k2
            go_upto_region 18 with (fail)
            have k0 := cell_of_row _ _ 0 _ _ _ hx
            have k1 := cell_of_row _ _ 1 _ _ _ hx
            have k2 := cell_of_row _ _ 2 _ _ _ hx
            have HBB := Lib.hid hB
            clear hB hg hx
            clear hm0
            go_wp2_with fail
            go_loopg [12] 0 (fun gh i wr => gh = 0 ∧ i = .int .i64 0 ∧ w21 = wr)
            case atStart => exact ⟨rfl, rfl, rfl⟩
            case round =>
              obtain ⟨-, rfl, rfl⟩ := hrel
              go_wp2
              go_ret
              exact ⟨rfl, HBB.out⟩
        · have HOK : Hid (¬ 2000000 < workV g p) := by show ¬ _; rw [← HWK.out]; omega
          have h4 : ¬ (2000000 : Int) < (wk : Int) := by omega
          have hg := HGG.out
          have hx := HXX.out
          have hB := HBB.out
          clear HGG HXX HBB
          go_upto_region 15 with (fail)
          clear k0 k1 k2
          have k0 := cell_of_row _ _ 0 _ _ _ hx
          have k1 := cell_of_row _ _ 1 _ _ _ hx
          have k2 := cell_of_row _ _ 2 _ _ _ hx
          go_wp2_with fail
          refine (Measure_c _ _ g p hg HW.out.look fun h e hw => top_work e hw).mono ?_
          intro e w21 h
          obtain ⟨a3, c3, rfl, hm0, hb⟩ : ∃ a c, e = .returned (.tuple #[.slice a n0 c, .int .i64 0]) ∧ IsRows w21 (.slice a n0 c) (lstG g p) ∧ Below w6.heap.size w6 w21 := by have := h.ex (HW.out.meas HPP.out HOK.out); rw [lst_len, HN0.out] at this; exact this
          clear h
          replace hx := (hb.block _ (Array.getElem?_eq_some_iff.1 hx).1).trans hx
          replace hg := hg.below hb
          replace hB := hB.trans (hb.mono hB.size)
          clear hb k0 k1 k2
          go_upto_region 18 with (fail)
          have k0 := cell_of_row _ _ 0 _ _ _ hx
          have k1 := cell_of_row _ _ 1 _ _ _ hx
          have k2 := cell_of_row _ _ 2 _ _ _ hx
          have HBB := Lib.hid hB
          clear hB hg hx
          obtain ⟨bA, oA, dA, nA, fA⟩ := hm0.dat2
          have HFA := Lib.hid fA
          clear fA hm0
          generalize lstG g p = A at *
          go_wp2_with fail
          go_loopg [12] n0 (fun gh i wr => ∃ k : Nat, gh = n0 - k ∧ i = .int .i64 (k : Int) ∧ k ≤ n0 ∧ w21 = wr)
          case atStart => exact ⟨0, rfl, rfl, by omega, rfl⟩
          case round =>
            obtain ⟨k, hgk, rfl, hk, rfl⟩ := hrel
            have HGK := Lib.hid hgk
            clear hgk
            by_cases hlt : k < n0
            · obtain rfl := dA (by omega)
              have i2 : (k : Int) < (n0 : Int) := by omega
              have hi0 : (0 : Int) ≤ (k : Int) := by omega
              obtain ⟨a1', e1, cM, rM⟩ := HFA.out k hlt
              clear rM
              generalize (A.getD k []).length = y at *
              go_wp2_with fail
              go_loopg [13] 0 (fun gh i wz => gh = 0 ∧ i = .int .i64 0 ∧ w21 = wz)
              case atStart => exact ⟨rfl, rfl, rfl⟩
              case round =>
                obtain ⟨-, rfl, rfl⟩ := hrel
                by_cases hjy : (0 : Int) < (y : Int)
                · go_wp2
                  go_roundg (n0 - (k + 1))
                  case measure => have := HGK.out; omega
                  case rel => exact ⟨k + 1, rfl, by go_num, by omega, rfl⟩
                · go_wp2
                  go_roundg (n0 - (k + 1))
                  case measure => have := HGK.out; omega
                  case rel => exact ⟨k + 1, rfl, by go_num, by omega, rfl⟩
            · have i2 : ¬ (k : Int) < (n0 : Int) := by omega
              go_wp2
              go_ret
              exact ⟨rfl, HBB.out⟩

end Go.Proofs.Ytijkjhcigdfdgaa
