/- What Small and within compute. -/
import Derived.Test.YtjhafakkadnfmaaC1
namespace Go.Proofs.Ytjhafakkadnfmaa
open Go.RowKit

theorem Small_c (w : World) (vg : Value) (g : Gm) (most : Int) (hg : IsGame w vg g) :
    Calls Try.prog 11 #[vg, .int .i64 most] w (Calm (.bool (smallB g most)) w) := by
  obtain ⟨v0, v1, v2, rfl, ⟨⟨ao0, cap0, b0, off0, rfl, h0⟩, _⟩, ⟨⟨ao1, cap1, b1, off1, rfl, h1⟩, _⟩, ⟨V, ⟨ao2, cap2, b2, off2, rfl, h2⟩, hr⟩⟩ := hg
  have hn0 := h0.nb
  have hn1 := h1.nb
  have hn2 := h2.nb
  go_enter Try.func11, Try.ntmps11
  go_wp2
  · have q1 : (most < ↑g.owner.length ∨ most < ↑g.prio.length) ∨ most < ↑g.succ.length := by assumption
    go_ret
    refine ⟨ret_bool ?_, (Below.refl _ _).alloc (Nat.le_refl _) _⟩
    simp only [smallB, Bool.false_eq, Bool.and_eq_false_iff, decide_eq_false_iff_not]
    omega
  · have q1 : (↑g.owner.length ≤ most ∧ ↑g.prio.length ≤ most) ∧ ↑g.succ.length ≤ most := by assumption
    go_loop [5] (fun i => ∃ k : Nat, i = .int .i64 k ∧ k ≤ g.succ.length ∧ (g.succ.take k).all (fun s => decide (s.length ≤ 20)) = true) (fun i => g.succ.length - (intOf i).toNat)
    case atStart => exact ⟨0, rfl, by omega, by simp⟩
    case round =>
      obtain ⟨k, rfl, hk, heq⟩ := hrel
      have HE := Lib.hid heq
      clear heq
      by_cases hlt : k < g.succ.length
      · obtain rfl := h2.ad (by omega)
        have c2 := h2.el k hlt
        obtain ⟨⟨ao, cap, b, off, hv, h3⟩, _⟩ := hr k hlt
        rw [hv] at c2
        have hn := h3.nb
        clear hv hr h3
        have cB := cellB ((Below.refl _ _).alloc (Nat.le_refl _) (Obj.cells #[Value.slice ao0 g.owner.length cap0, Value.slice ao1 g.prio.length cap1, Value.slice (some ⟨b2, off2, none⟩) g.succ.length cap2] 25)) c2
        rw [getD_lt _ _ _ hlt] at cB hn
        go_wp2
        · have q2 : (20 : Int) < ↑g.succ[k].length := by assumption
          go_ret
          refine ⟨ret_bool ?_, (Below.refl _ _).alloc (Nat.le_refl _) _⟩
          have h3 := all_false_of g.succ (fun s => decide (s.length ≤ 20)) k hlt (by simp; omega)
          simp [smallB, h3]
        · have q2 : (↑g.succ[k].length : Int) ≤ 20 := by assumption
          go_round
          case rel => exact ⟨k + 1, by go_num, by omega, by rw [all_take_succ _ _ _ hlt, HE.out]; simp; omega⟩
          case measure => simp [intOf]; omega
      · go_wp2
        go_ret
        refine ⟨ret_bool ?_, (Below.refl _ _).alloc (Nat.le_refl _) _⟩
        have h3 := HE.out
        rw [List.take_of_length_le (by omega)] at h3
        simp only [smallB, h3, Bool.and_true]
        simp; omega
  · have q1 : most < ↑g.prio.length := by assumption
    go_ret
    refine ⟨ret_bool ?_, (Below.refl _ _).alloc (Nat.le_refl _) _⟩
    simp only [smallB, Bool.false_eq, Bool.and_eq_false_iff, decide_eq_false_iff_not]
    omega
  · have q1 : most < ↑g.owner.length := by assumption
    go_ret
    refine ⟨ret_bool ?_, (Below.refl _ _).alloc (Nat.le_refl _) _⟩
    simp only [smallB, Bool.false_eq, Bool.and_eq_false_iff, decide_eq_false_iff_not]
    omega

theorem within_c (w : World) (v : Value) (ll : List (List Int)) (most : Int) (h : IsRows w v ll) :
    Calls Try.prog 34 #[.int .i64 most, v] w (Quiet (.bool (withinB most ll)) w) := by
  obtain ⟨V, ⟨ao, cap, b, off, rfl, h⟩, hr⟩ := h
  have hn := h.nb
  go_enter Try.func34, Try.ntmps34
  go_wp2
  go_loop [4, 6, 8, 11, 15, 16, 17] (fun r _ _ i _ _ _ => ∃ k : Nat, i = .int .i64 k ∧ r = .bool false ∧ k ≤ ll.length ∧ (ll.take k).all (inB most) = true) (fun _ _ _ i _ _ _ => ll.length - (intOf i).toNat)
  case atStart => exact ⟨0, rfl, rfl, by omega, by simp⟩
  case round =>
    obtain ⟨k, rfl, rfl, hk, heq⟩ := hrel
    have HE := Lib.hid heq
    clear heq
    by_cases hlt : k < ll.length
    · obtain rfl := h.ad (by omega)
      have c2 := h.el k hlt
      obtain ⟨⟨ao1, cap1, b1, off1, hv, h1⟩, _⟩ := hr k hlt
      rw [hv] at c2
      clear hv hr
      rw [getD_lt _ _ _ hlt] at c2 h1
      have hn1 := h1.nb
      go_wp2
      go_loop [4, 8, 17] (fun r _ i => ∃ j : Nat, i = .int .i64 j ∧ r = .bool false ∧ j ≤ ll[k].length ∧ inB most (ll[k].take j) = true) (fun _ _ i => ll[k].length - (intOf i).toNat)
      case atStart => exact ⟨0, rfl, rfl, by omega, by simp [inB]⟩
      case round =>
        obtain ⟨j, rfl, rfl, hj, heq1⟩ := hrel
        have HE1 := Lib.hid heq1
        clear heq1
        by_cases hltj : j < ll[k].length
        · obtain rfl := h1.ad (by omega)
          have c3 := h1.el j hltj
          unfold ivF at c3
          go_wp2
          · have h2 : ll[k][j] < 0 ∨ most < ll[k][j] := by assumption
            go_ret
            refine ⟨ret_bool (Eq.symm (all_false_of _ _ k hlt (all_false_of _ _ j hltj ?_))), 0, rfl⟩
            simp; omega
          · have h2 : 0 ≤ ll[k][j] ∧ ll[k][j] ≤ most := by assumption
            go_round
            case rel => exact ⟨j + 1, by go_num, rfl, by omega, by have := HE1.out; unfold inB at this ⊢; rw [all_take_succ _ _ _ hltj, this]; simp; omega⟩
            case measure => simp [intOf]; omega
          · have h2 : ll[k][j] < 0 := by assumption
            go_ret
            refine ⟨ret_bool (Eq.symm (all_false_of _ _ k hlt (all_false_of _ _ j hltj ?_))), 0, rfl⟩
            simp; omega
        · go_wp2
          go_round
          case rel => exact ⟨k + 1, by go_num, rfl, by omega, by have h3 := HE1.out; rw [List.take_of_length_le (by omega)] at h3; rw [all_take_succ _ _ _ hlt, HE.out, h3]; rfl⟩
          case measure => simp [intOf]; omega
    · go_wp2
      go_ret
      refine ⟨ret_bool ?_, 0, rfl⟩
      have h3 := HE.out
      rw [List.take_of_length_le (by omega)] at h3
      exact h3.symm

end Go.Proofs.Ytjhafakkadnfmaa
