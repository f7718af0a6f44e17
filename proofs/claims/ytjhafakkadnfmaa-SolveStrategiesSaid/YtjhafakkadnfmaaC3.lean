/- What the two functions Valid compute. -/
import Derived.Test.YtjhafakkadnfmaaC2
namespace Go.Proofs.Ytjhafakkadnfmaa
open Go.RowKit

/-- A row of one row of numbers, made for the call. -/
theorem IsRows.one {w : World} {v : Value} {l : List Int} (m : Nat) (e : TypeId) (h : IsInts w v l) (hm : m = w.heap.size) : IsRows (w.alloc (.cells #[v] e)) (.slice (some ⟨m, 0, none⟩) 1 1) [l] := by
  subst hm
  have hb := (Below.refl w.heap.size w).alloc (Nat.le_refl _) (Obj.cells #[v] e)
  refine ⟨fun _ => v, ⟨_, _, w.heap.size, 0, rfl, Nat.le_refl _, by simp [maxLen], by simp [maxN], (fun h => by cases h), fun _ => rfl, ?_⟩, ?_⟩
  · intro j hj
    obtain rfl : j = 0 := by simpa using hj
    exact cell_one_new _ _ _ 0 v rfl
  · intro j hj
    obtain rfl : j = 0 := by simpa using hj
    exact h.below hb

theorem AValid_c (w : World) (vg : Value) (g : Gm) (hg : IsGame w vg g) :
    Calls Try.prog 29 #[vg] w (Calm (.bool (validB g)) w) := by
  obtain ⟨v0, v1, v2, rfl, hi0, hi1, hi2⟩ := hg
  obtain ⟨⟨ao0, cap0, b0, off0, rfl, g0⟩, _⟩ := id hi0
  obtain ⟨⟨ao1, cap1, b1, off1, rfl, g1⟩, _⟩ := id hi1
  obtain ⟨V, ⟨ao2, cap2, b2, off2, rfl, g2⟩, hr⟩ := id hi2
  have hn0 := g0.nb
  have hn1 := g1.nb
  have hn2 := g2.nb
  by_cases h1 : g.owner.length ≤ 3000
  case neg =>
    go_enter Try.func29, Try.ntmps29
    go_wp2
    go_ret
    refine ⟨ret_bool ?_, (Below.refl _ _).alloc (Nat.le_refl _) _⟩
    simp [validB, h1]
  by_cases h2 : g.prio.length = g.owner.length
  case neg =>
    have hne : ((g.prio.length : Int) != g.owner.length) = true := by simp; omega
    go_enter Try.func29, Try.ntmps29
    go_wp2
    go_ret
    refine ⟨ret_bool ?_, (Below.refl _ _).alloc (Nat.le_refl _) _⟩
    simp [validB, h2]
  by_cases h3 : g.succ.length = g.owner.length
  case neg =>
    have hne : ((g.prio.length : Int) != g.owner.length) = false := by simp; omega
    have hne2 : ((g.succ.length : Int) != g.owner.length) = true := by simp; omega
    have H2 := Lib.hid h2
    clear h2
    go_enter Try.func29, Try.ntmps29
    go_wp2
    go_ret
    refine ⟨ret_bool ?_, (Below.refl _ _).alloc (Nat.le_refl _) _⟩
    simp [validB, h3]
  have hne : ((g.prio.length : Int) != g.owner.length) = false := by simp; omega
  have hne2 : ((g.succ.length : Int) != g.owner.length) = false := by simp; omega
  have H2 := Lib.hid h2
  have H3 := Lib.hid h3
  clear h2 h3
  have hI : ((g.owner.length : Int)) ≤ 3000 := by omega
  go_enter Try.func29, Try.ntmps29
  go_wp2
  go_loop [2, 5, 28] (fun r _ i => ∃ k : Nat, i = .int .i64 k ∧ r = .bool false ∧ k ≤ g.succ.length ∧ (g.succ.take k).all (fun s => !s.isEmpty) = true) (fun _ _ i => g.succ.length - (intOf i).toNat)
  case atStart => exact ⟨0, rfl, rfl, by omega, by simp⟩
  case round =>
    obtain ⟨k, rfl, rfl, hk, heq⟩ := hrel
    have HE := Lib.hid heq
    clear heq
    by_cases hlt : k < g.succ.length
    · obtain rfl := g2.ad (by omega)
      have c2 := g2.el k hlt
      obtain ⟨⟨ao, cap, b, off, hv, g3⟩, _⟩ := hr k hlt
      rw [hv] at c2
      have hn := g3.nb
      clear hv hr g3
      have cB := cellB ((Below.refl _ _).alloc (Nat.le_refl _) (Obj.cells #[Value.slice ao0 g.owner.length cap0, Value.slice ao1 g.prio.length cap1, Value.slice (some ⟨b2, off2, none⟩) g.succ.length cap2] 25)) c2
      rw [getD_lt _ _ _ hlt] at cB hn
      go_wp2
      · have h5 : ((g.succ[k].length : Int) == 0) = true := by assumption
        go_ret
        refine ⟨ret_bool ?_, (Below.refl _ _).alloc (Nat.le_refl _) _⟩
        have h3 := all_false_of g.succ (fun s => !s.isEmpty) k hlt (by simp at h5 ⊢; exact h5)
        simp [validB, h3]
      · have h5 : ((g.succ[k].length : Int) == 0) = false := by assumption
        go_round
        case rel => exact ⟨k + 1, by go_num, rfl, by omega, by rw [all_take_succ _ _ _ hlt, HE.out]; simp at h5 ⊢; exact h5⟩
        case measure => simp [intOf]; omega
    · have h4 : g.succ.all (fun s => !s.isEmpty) = true := by
        have h3 := HE.out
        rwa [List.take_of_length_le (by omega)] at h3
      have H4 := Lib.hid h4
      clear h4 HE
      have hBx : Below w.heap.size w (w.alloc (Obj.cells #[Value.slice ao0 g.owner.length cap0, Value.slice ao1 g.prio.length cap1, Value.slice ao2 g.succ.length cap2] 25)) := (Below.refl _ _).alloc (Nat.le_refl _) _
      rcases Bool.eq_false_or_eq_true (withinB 1 [g.owner]) with hq1 | hq1
      · rcases Bool.eq_false_or_eq_true (withinB 30000 [g.prio]) with hq2 | hq2
        · go_wp2_with fail
          refine (within_c _ _ _ _ (IsRows.one _ _ (hi0.below hBx) (by simp))).mono ?_
          rintro e w1 ⟨rfl, n1, rfl⟩
          go_wp2_with fail
          refine (within_c _ _ _ _ (IsRows.one _ _ (hi1.below (by repeat (first | exact Below.refl _ _ | assumption | (refine belA ?_ _) | (refine belD ?_ _)))) (by simp))).mono ?_
          rintro e w2 ⟨rfl, n2, rfl⟩
          go_wp2_with fail
          refine (within_c _ _ _ _ (hi2.below (by repeat (first | exact Below.refl _ _ | assumption | (refine belA ?_ _) | (refine belD ?_ _))))).mono ?_
          rintro e w3 ⟨rfl, n3, rfl⟩
          go_wp2_with fail
          go_ret
          refine ⟨ret_bool ?_, (by repeat (first | exact Below.refl _ _ | assumption | (refine belA ?_ _) | (refine belD ?_ _)))⟩
          have h2 := H2.out
          have h3 := H3.out
          have h4 := H4.out
          simp [withinB] at hq1 hq2
          simp only [validB, h1, h2, h3, h4, hq1, hq2, withinB]
          simp
        · go_wp2_with fail
          refine (within_c _ _ _ _ (IsRows.one _ _ (hi0.below hBx) (by simp))).mono ?_
          rintro e w1 ⟨rfl, n1, rfl⟩
          go_wp2_with fail
          refine (within_c _ _ _ _ (IsRows.one _ _ (hi1.below (by repeat (first | exact Below.refl _ _ | assumption | (refine belA ?_ _) | (refine belD ?_ _)))) (by simp))).mono ?_
          rintro e w2 ⟨rfl, n2, rfl⟩
          go_wp2_with fail
          go_ret
          refine ⟨ret_bool ?_, (by repeat (first | exact Below.refl _ _ | assumption | (refine belA ?_ _) | (refine belD ?_ _)))⟩
          simp [withinB] at hq2
          simp [validB, hq2]
      · go_wp2_with fail
        refine (within_c _ _ _ _ (IsRows.one _ _ (hi0.below hBx) (by simp))).mono ?_
        rintro e w1 ⟨rfl, n1, rfl⟩
        go_wp2_with fail
        go_ret
        refine ⟨ret_bool ?_, (by repeat (first | exact Below.refl _ _ | assumption | (refine belA ?_ _) | (refine belD ?_ _)))⟩
        simp [withinB] at hq1
        simp [validB, hq1]
end Go.Proofs.Ytjhafakkadnfmaa
