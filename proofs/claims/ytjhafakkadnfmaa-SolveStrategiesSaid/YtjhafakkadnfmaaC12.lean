/- What Trap computes. -/
import Derived.Test.YtjhafakkadnfmaaC9
import Derived.Laws.EntriesVeiled
namespace Go.Proofs.Ytjhafakkadnfmaa
open Go.RowKit

theorem bx00 : bits BinOp.xor IntKind.i64 0 0 = 0 := by decide +kernel
theorem bx01 : bits BinOp.xor IntKind.i64 0 1 = 1 := by decide +kernel
theorem bx10 : bits BinOp.xor IntKind.i64 1 0 = 1 := by decide +kernel
theorem bx11 : bits BinOp.xor IntKind.i64 1 1 = 0 := by decide +kernel

set_option maxHeartbeats 4000000 in
theorem Trap_c (w : World) (vg vs : Value) (g : Gm) (p : Int) (s : List Bool) (hg : IsGame w vg g) (hs : IsBools w vs s) :
    Calls Try.prog 24 #[vg, .int .i64 p, vs] w (Calm (.bool (fitsB g p s.length && trapB g p s)) w) := by
  have hgx := hg
  have hsx := hs
  obtain ⟨v0, v1, v2, rfl, ⟨⟨ao0, cap0, b0, off0, rfl, g0⟩, _⟩, ⟨⟨ao1, cap1, b1, off1, rfl, g1⟩, _⟩, ⟨V, ⟨ao2, cap2, b2, off2, rfl, g2⟩, hr⟩⟩ := hg
  obtain ⟨aos, caps, bs, offs, rfl, hs⟩ := hs
  have hns := hs.nb
  cases hf : fitsB g p s.length
  · clear g0 g1 g2 hr
    go_enter Try.func24, Try.ntmps24
    go_wp2_with fail
    refine (fits_c _ _ g p _ _ _ (hgx.below (by repeat (first | exact Below.refl _ _ | assumption | (refine belA ?_ _) | (refine belD ?_ _))))).mono ?_
    rintro e w1 ⟨rfl, hb1⟩
    rw [hf]
    go_wp2
    go_ret
    exact ⟨rfl, (Boxed.start hb1).bl⟩
  have F := fits_of hf
  have hle := F.le
  clear g1
  go_enter Try.func24, Try.ntmps24
  go_wp2_with fail
  refine (fits_c _ _ g p _ _ _ (hgx.below (by repeat (first | exact Below.refl _ _ | assumption | (refine belA ?_ _) | (refine belD ?_ _))))).mono ?_
  rintro e w1 ⟨rfl, hb1⟩
  have hbx := Boxed.start hb1
  clear hb1
  rw [hf]
  go_wp2
  have hbx2 := hbx.step (bel_box (Obj.cells #[Value.func (.func 41) #[] #[], Value.func (.func 42) #[] #[]] 72))
  have hfn := heap_alloc_new w1 (Obj.cells #[Value.func (.func 41) #[] #[], Value.func (.func 42) #[] #[]] 72)
  generalize hZ : w1.heap.size = z at *
  clear hbx hZ
  go_loopg [6, 8, 9, 18] s.length (fun gh r _ _ i wr => ∃ k : Nat, gh = s.length - k ∧ i = .int .i64 k ∧ r = .bool false ∧ k ≤ s.length ∧ Boxed w wr #[Value.slice ao0 g.owner.length cap0, Value.slice ao1 g.prio.length cap1, Value.slice ao2 g.succ.length cap2] ∧ wr.heap[z]? = some (Obj.cells #[Value.func (.func 41) #[] #[], Value.func (.func 42) #[] #[]] 72) ∧ Hid ((List.range k).all (fun i => !s.getD i false || canB g (1 - p) s i) = true))
  case atStart => exact ⟨0, rfl, rfl, rfl, by omega, hbx2, hfn, by simp [Hid]⟩
  case round =>
    obtain ⟨k, hgk, rfl, rfl, hk, hB, hfn2, HE⟩ := hrel
    have HG := Lib.hid hgk
    clear hgk
    have d0 := hB.cell 0 rfl
    have d2 := hB.cell 2 rfl
    have e0 : wr.cell? ⟨z, 0, none⟩ = some (Value.func (.func 41) #[] #[]) := cell_of_row _ _ 0 _ _ _ hfn2
    have e1 : wr.cell? ⟨z, 1, none⟩ = some (Value.func (.func 42) #[] #[]) := cell_of_row _ _ 1 _ _ _ hfn2
    have HF := Lib.hid hfn2
    clear hfn2
    by_cases hlt : k < s.length
    · obtain rfl := hs.ad (by omega)
      have c1 := cellB hB.bl (hs.el k hlt)
      unfold bvF at c1
      rw [getD_lt _ _ _ hlt] at c1
      have A : Hid (s.getD k false = s[k]) := getD_lt _ _ _ hlt
      cases hq : s[k]
      · rw [hq] at c1
        go_wp2
        go_quiet (fail)
        go_wp2
        go_roundg (s.length - (k + 1))
        case measure => have := HG.out; omega
        case rel => exact ⟨k + 1, rfl, by go_num, rfl, by omega, hB.step (below_draws _ _ _), HF.out, by show _ = _; rw [range_all_succ, HE.out, A.out, hq]; rfl⟩
      · rw [hq] at c1
        have hko : k < g.owner.length := by rw [F.on]; exact hlt
        have hks : k < g.succ.length := by rw [F.sn]; exact hlt
        obtain rfl := g0.ad (by omega)
        obtain rfl := g2.ad (by omega)
        have c0 := cellB hB.bl (g0.el k hko)
        have c2 := cellB hB.bl (g2.el k hks)
        obtain ⟨y0, y1⟩ := F.ow k hlt
        have hrow := (hr k hks).below hB.bl
        obtain ⟨⟨ao3, cap3, b3, off3, hv3, g3⟩, g4⟩ := hr k hks
        rw [hv3] at c2 hrow
        unfold ivF at c0
        have hn3 := g3.nb
        clear g3 g4 hv3
        rw [getD_lt _ _ _ hks] at c2 hrow hn3
        have hrg := F.rg k hlt
        rw [getD_lt _ _ _ hks] at hrg
        have HR := Lib.hid hrg
        have HS : Hid (IsBools wr (Value.slice (some ⟨bs, offs, none⟩) s.length caps) s) := hsx.below hB.bl
        have HI := Lib.hid hrow
        have hcan : Hid (canB g (1 - p) s k = if g.owner.getD k 0 = 1 - p then g.succ[k].any (atB s) else g.succ[k].all (atB s)) := by
          show _ = _
          unfold canB; rw [getD_lt _ _ _ hks]
        clear hrg hrow
        have ho : g.owner.getD k 0 = 0 ∨ g.owner.getD k 0 = 1 := by omega
        generalize g.owner.getD k 0 = ow at *
        clear y0 y1
        have hxa : Hid (ow = p ∧ (ow = 1 - p) = False ∨ (ow = p) = False ∧ ow = 1 - p) := by
          show _ ∨ _
          rcases ho with rfl | rfl <;> rcases F.pl with rfl | rfl <;> simp
        rcases ho with rfl | rfl <;> rcases F.pl with rfl | rfl
        · have hbx := bx00
          have hcv : Hid (canB g (1 - 0) s k = g.succ[k].all (atB s)) := by show _ = _; rw [hcan.out]; simp
          cases hc : g.succ[k].all (atB s)
          · go_wp2
            go_quiet ((go_at_call 41; refine (all_c _ _ _ s g.succ[k] (IsArr.below HS.out (below_draws _ _ _)) (HI.out.below (below_draws _ _ _)) HR.out).mono ?_; rintro e w' ⟨rfl, rfl⟩; rw [hc]; exact ⟨rfl, _, rfl⟩))
            go_wp2
            go_ret
            refine ⟨ret_bool ?_, belD hB.bl _⟩
            rw [trapB, range_all_false _ _ k hlt (by rw [A.out, hq, hcv.out, hc]; rfl)]; rfl
          · go_wp2
            go_quiet ((go_at_call 41; refine (all_c _ _ _ s g.succ[k] (IsArr.below HS.out (below_draws _ _ _)) (HI.out.below (below_draws _ _ _)) HR.out).mono ?_; rintro e w' ⟨rfl, rfl⟩; rw [hc]; exact ⟨rfl, _, rfl⟩))
            go_wp2
            go_roundg (s.length - (k + 1))
            case measure => have := HG.out; omega
            case rel => exact ⟨k + 1, rfl, by go_num, rfl, by omega, hB.step (below_draws _ _ _), HF.out, by show _ = _; rw [range_all_succ, HE.out, A.out, hq, hcv.out, hc]; rfl⟩
        · have hbx := bx01
          have hcv : Hid (canB g (1 - 1) s k = g.succ[k].any (atB s)) := by show _ = _; rw [hcan.out]; simp
          cases hc : g.succ[k].any (atB s)
          · go_wp2
            go_quiet ((go_at_call 42; refine (some_c _ _ _ s g.succ[k] (IsArr.below HS.out (below_draws _ _ _)) (HI.out.below (below_draws _ _ _)) HR.out).mono ?_; rintro e w' ⟨rfl, rfl⟩; rw [hc]; exact ⟨rfl, _, rfl⟩))
            go_wp2
            go_ret
            refine ⟨ret_bool ?_, belD hB.bl _⟩
            rw [trapB, range_all_false _ _ k hlt (by rw [A.out, hq, hcv.out, hc]; rfl)]; rfl
          · go_wp2
            go_quiet ((go_at_call 42; refine (some_c _ _ _ s g.succ[k] (IsArr.below HS.out (below_draws _ _ _)) (HI.out.below (below_draws _ _ _)) HR.out).mono ?_; rintro e w' ⟨rfl, rfl⟩; rw [hc]; exact ⟨rfl, _, rfl⟩))
            go_wp2
            go_roundg (s.length - (k + 1))
            case measure => have := HG.out; omega
            case rel => exact ⟨k + 1, rfl, by go_num, rfl, by omega, hB.step (below_draws _ _ _), HF.out, by show _ = _; rw [range_all_succ, HE.out, A.out, hq, hcv.out, hc]; rfl⟩
        · have hbx := bx10
          have hcv : Hid (canB g (1 - 0) s k = g.succ[k].any (atB s)) := by show _ = _; rw [hcan.out]; simp
          cases hc : g.succ[k].any (atB s)
          · go_wp2
            go_quiet ((go_at_call 42; refine (some_c _ _ _ s g.succ[k] (IsArr.below HS.out (below_draws _ _ _)) (HI.out.below (below_draws _ _ _)) HR.out).mono ?_; rintro e w' ⟨rfl, rfl⟩; rw [hc]; exact ⟨rfl, _, rfl⟩))
            go_wp2
            go_ret
            refine ⟨ret_bool ?_, belD hB.bl _⟩
            rw [trapB, range_all_false _ _ k hlt (by rw [A.out, hq, hcv.out, hc]; rfl)]; rfl
          · go_wp2
            go_quiet ((go_at_call 42; refine (some_c _ _ _ s g.succ[k] (IsArr.below HS.out (below_draws _ _ _)) (HI.out.below (below_draws _ _ _)) HR.out).mono ?_; rintro e w' ⟨rfl, rfl⟩; rw [hc]; exact ⟨rfl, _, rfl⟩))
            go_wp2
            go_roundg (s.length - (k + 1))
            case measure => have := HG.out; omega
            case rel => exact ⟨k + 1, rfl, by go_num, rfl, by omega, hB.step (below_draws _ _ _), HF.out, by show _ = _; rw [range_all_succ, HE.out, A.out, hq, hcv.out, hc]; rfl⟩
        · have hbx := bx11
          have hcv : Hid (canB g (1 - 1) s k = g.succ[k].all (atB s)) := by show _ = _; rw [hcan.out]; simp
          cases hc : g.succ[k].all (atB s)
          · go_wp2
            go_quiet ((go_at_call 41; refine (all_c _ _ _ s g.succ[k] (IsArr.below HS.out (below_draws _ _ _)) (HI.out.below (below_draws _ _ _)) HR.out).mono ?_; rintro e w' ⟨rfl, rfl⟩; rw [hc]; exact ⟨rfl, _, rfl⟩))
            go_wp2
            go_ret
            refine ⟨ret_bool ?_, belD hB.bl _⟩
            rw [trapB, range_all_false _ _ k hlt (by rw [A.out, hq, hcv.out, hc]; rfl)]; rfl
          · go_wp2
            go_quiet ((go_at_call 41; refine (all_c _ _ _ s g.succ[k] (IsArr.below HS.out (below_draws _ _ _)) (HI.out.below (below_draws _ _ _)) HR.out).mono ?_; rintro e w' ⟨rfl, rfl⟩; rw [hc]; exact ⟨rfl, _, rfl⟩))
            go_wp2
            go_roundg (s.length - (k + 1))
            case measure => have := HG.out; omega
            case rel => exact ⟨k + 1, rfl, by go_num, rfl, by omega, hB.step (below_draws _ _ _), HF.out, by show _ = _; rw [range_all_succ, HE.out, A.out, hq, hcv.out, hc]; rfl⟩
    · go_wp2
      go_ret
      refine ⟨ret_bool ?_, hB.bl⟩
      have h3 := HE.out
      obtain rfl : k = s.length := by omega
      rw [trapB, h3]; rfl

end Go.Proofs.Ytjhafakkadnfmaa
