/- Equality of places. -/
import Derived.Test.YtjadeffdcbchnaaDoorAr18
namespace Go.Proofs.YtjadeffdcbchnaaDoor
open Go.RowKit

open Go.Maps Go.WideMaps

def plLits (y : Pl) : List Lit := [.int .i64 y.st, .int .i64 y.inn, .int .i64 y.pr]
theorem plLits_inj {x y : Pl} (h : plLits x = plLits y) : x = y := by
  obtain ⟨a, b, c⟩ := x
  obtain ⟨a', b', c'⟩ := y
  simp only [plLits, List.cons.injEq, Lit.int.injEq, true_and, and_true] at h
  obtain ⟨rfl, rfl, rfl⟩ := h
  rfl
theorem plKeyLits (m : Nat) (y : Pl) (h : WfP y) : Tryd.prog.keyLits (m + 2) 48 (plV y).cells.toList = some (plLits y) := by
  obtain ⟨a, b, c⟩ := y
  obtain ⟨ha, hb, hc⟩ := h
  have wa := lit_wf ha
  have wb := lit_wf hb
  have wc := lit_wf hc
  simp [Program.keyLits, Tryd.underlying48, Tryd.underlying3, placeCells, intCells, plV, Value.cells, wa, wb, wc, plLits]
theorem plFormed (y : Pl) : (plV y).formed Tryd.prog 48 = true := by
  obtain ⟨a, b, c⟩ := y
  simp [plV, Value.formed, Tryd.underlying48, placeCells]
theorem placeNoGuard : Tryd.prog.eqGuardType Tryd.prog.depth 48 = false := by kernel_rfl

set_option maxRecDepth 100000 in
theorem run_equal_place (w : World) (x y : Pl) (hx : WfP x) (hy : WfP y) : (Op.equal 48 (plV x) (plV y)).run Tryd.prog w = .ok (decide (x = y)) w := by
  obtain ⟨r, h1, h2⟩ := run_equalIn_deep (P := Tryd.prog) 9998 2 48 placeKT w 2 2 (plV x) (plV y) (plLits x) (plLits y) (plFormed x) (plFormed y) (plKeyLits 0 x hx) (plKeyLits 0 y hy)
  have h3 : r = decide (x = y) := by
    rw [Bool.eq_iff_iff, h2, decide_eq_true_iff]
    exact ⟨plLits_inj, fun h => by rw [h]⟩
  rw [h3] at h1
  exact h1
theorem run_neq_place (w : World) (x y : Pl) (hx : WfP x) (hy : WfP y) : (binOp .neq 48 (plV x) (plV y)).run Tryd.prog w = .ok (.bool (!decide (x = y))) w := by
  unfold plV
  simp only [binOp]
  have := run_equal_place w x y hx hy
  unfold plV at this
  simp [this]
theorem run_eql_place (w : World) (x y : Pl) (hx : WfP x) (hy : WfP y) : (binOp .eql 48 (plV x) (plV y)).run Tryd.prog w = .ok (.bool (decide (x = y))) w := by
  unfold plV
  simp only [binOp]
  have := run_equal_place w x y hx hy
  unfold plV at this
  simp [this]

set_option maxHeartbeats 2000000 in
theorem SamePl_c (w : World) (va vb : Value) (a b : List Pl) (ha : IsPls w va a) (hb : IsPls w vb b) : Calls Tryd.prog 18 #[va, vb] w (Calm (.bool (decide (a = b))) w) := by
  obtain ⟨aa, ca, ba, oa, rfl, ha, hwa⟩ := ha
  obtain ⟨ab, cb, bb, ob, rfl, hb, hwb⟩ := hb
  have hna := ha.nm
  have hnb := hb.nm
  unfold maxN at hna hnb
  by_cases hlen : a.length = b.length
  case neg =>
    have hne : ((a.length : Int) != b.length) = true := by simp; omega
    have HF : Hid (decide (a = b) = false) := decide_eq_false (fun e => hlen (by rw [e]))
    clear hlen
    go_enter Tryd.func18, Tryd.ntmps18
    go_wp2
    go_ret
    exact ⟨ret_bool (by rw [HF.out]), Below.refl _ _⟩
  have hne : ((a.length : Int) != b.length) = false := by simp; omega
  have HLN := Lib.hid hlen
  clear hlen
  go_enter Tryd.func18, Tryd.ntmps18
  go_wp2
  go_loopw [5] (fun i wr => ∃ (k m : Nat), i = .int .i64 k ∧ k ≤ a.length ∧ Hid (a.take k = b.take k) ∧ wr = w.drewN m) (fun i _ => a.length - (intOf i).toNat)
  case atStart => exact ⟨0, 0, rfl, by omega, by show _ = _; simp, rfl⟩
  case round =>
    obtain ⟨k, m, rfl, hk, HE, rfl⟩ := hrel
    by_cases hlt : k < a.length
    · have hltb : k < b.length := by rw [← HLN.out]; exact hlt
      obtain rfl := ha.ad (by omega)
      obtain rfl := hb.ad (by omega)
      have c0 := ha.e0 k hlt
      have c1 := ha.e1 k hlt
      have c2 := ha.e2 k hlt
      have d0 := hb.e0 k hltb
      have d1 := hb.e1 k hltb
      have d2 := hb.e2 k hltb
      have HTS : Hid (a[k] = b[k] → a.take (k + 1) = b.take (k + 1)) := fun h => take_succ_eq hlt hltb HE.out h
      have HNE : Hid (a[k] ≠ b[k] → decide (a = b) = false) := fun h => decide_eq_false (fun e => h (by subst e; rfl))
      have hwx := hwa _ (List.getElem_mem hlt)
      have hwy := hwb _ (List.getElem_mem hltb)
      generalize a[k] = x at *
      generalize b[k] = y at *
      have hrun := fun W => run_neq_place W x y hwx hwy
      unfold plV at hrun
      have hng := placeNoGuard
      clear hwx hwy
      by_cases hxy : x = y
      · have HXY := Lib.hid hxy
        have e1 : decide (x = y) = true := decide_eq_true hxy
        simp only [e1] at hrun
        clear hxy e1
        go_wp2
        refine wp_region_quiet_lit (by kernel_rfl) (by kernel_rfl) ?_
        ((repeat (go_big_quiet_step (fail))); refine wpQuiet_nil ?_; rintro _ ⟨nq, rfl⟩)
        go_wp2
        go_roundw
        case rel => exact ⟨k + 1, _, by go_num, by omega, HTS.out HXY.out, rfl⟩
        case measure => simp [intOf]; omega
      · have HXY := Lib.hid hxy
        have e1 : decide (x = y) = false := decide_eq_false hxy
        simp only [e1] at hrun
        clear hxy e1
        go_wp2
        refine wp_region_quiet_lit (by kernel_rfl) (by kernel_rfl) ?_
        ((repeat (go_big_quiet_step (fail))); refine wpQuiet_nil ?_; rintro _ ⟨nq, rfl⟩)
        go_wp2
        go_ret
        exact ⟨ret_bool (by rw [HNE.out HXY.out]), (below_draws _ _ _).trans (below_draws _ _ _)⟩
    · obtain rfl : k = a.length := by omega
      have HF : Hid (decide (a = b) = true) := decide_eq_true (by
        have := HE.out
        rw [List.take_length, HLN.out, List.take_length] at this
        exact this)
      go_wp2
      go_ret
      exact ⟨ret_bool (by rw [HF.out]), below_draws _ _ _⟩

end Go.Proofs.YtjadeffdcbchnaaDoor
