/- What the methods of a group and part compute. -/
import Derived.Test.YtjhafakkadnfmaaBase
namespace Go.Proofs.Ytjhafakkadnfmaa
open Go.RowKit

def atB (l : List Bool) (x : Int) : Bool := l.getD x.toNat false

theorem has_c (w : World) (v : Value) (l : List Bool) (x : Int) (h : IsBools w v l) (h0 : 0 ≤ x) (h1 : x < l.length) :
    Calls Try.prog 39 #[v, .int .i64 x] w fun e w' => e = .returned (.bool (atB l x)) ∧ w' = w := by
  obtain ⟨ao, cap, b, off, rfl, h⟩ := h
  obtain ⟨k, rfl⟩ := Int.eq_ofNat_of_zero_le h0
  have hk : k < l.length := by omega
  obtain rfl := h.ad (by omega)
  have c := h.el k hk
  unfold bvF at c
  have hn := h.nb
  go_enter Try.func39, Try.ntmps39
  go_wp2
  go_ret
  exact ⟨ret_bool (by simp [atB, hk]), rfl⟩

theorem all_c (w : World) (vs vl : Value) (s : List Bool) (l : List Int) (hs : IsBools w vs s) (hl : IsInts w vl l) (hx : ∀ x ∈ l, 0 ≤ x ∧ x < s.length) :
    Calls Try.prog 41 #[vs, vl] w fun e w' => e = .returned (.bool (l.all (atB s))) ∧ w' = w := by
  have hsx := hs
  obtain ⟨ao1, cap1, b1, off1, rfl, hs⟩ := hs
  obtain ⟨⟨ao, cap, b, off, rfl, hl⟩, _⟩ := hl
  have hn := hl.nb
  go_enter Try.func41, Try.ntmps41
  go_wp2
  go_loop [4, 6, 9] (fun r _ i => ∃ k : Nat, i = .int .i64 k ∧ r = .bool false ∧ k ≤ l.length ∧ Hid ((l.take k).all (atB s) = true)) (fun _ _ i => l.length - (intOf i).toNat)
  case atStart => exact ⟨0, rfl, rfl, by omega, by simp [Hid]⟩
  case round =>
    obtain ⟨k, rfl, rfl, hk, HE⟩ := hrel
    by_cases hlt : k < l.length
    · obtain rfl := hl.ad (by omega)
      have c := hl.el k hlt
      unfold ivF at c
      rw [getD_lt _ _ _ hlt] at c
      obtain ⟨x0, x1⟩ := hx l[k] (List.getElem_mem hlt)
      cases hq : atB s l[k]
      · go_wp2_with (go_at_call 39; refine (has_c _ _ s _ hsx x0 x1).mono ?_; rintro e w' ⟨rfl, rfl⟩; rw [hq])
        go_ret
        exact ⟨ret_bool (Eq.symm (all_false_of _ _ k hlt hq)), rfl⟩
      · go_wp2_with (go_at_call 39; refine (has_c _ _ s _ hsx x0 x1).mono ?_; rintro e w' ⟨rfl, rfl⟩; rw [hq])
        go_round
        case rel => exact ⟨k + 1, by go_num, rfl, by omega, by show _ = _; rw [all_take_succ _ _ _ hlt, HE.out, hq]; rfl⟩
        case measure => simp [intOf]; omega
    · go_wp2
      go_ret
      refine ⟨ret_bool ?_, rfl⟩
      have h3 := HE.out
      rw [List.take_of_length_le (by omega)] at h3
      exact h3.symm

theorem any_take_succ {α : Type} (l : List α) (p : α → Bool) (k : Nat) (h : k < l.length) : (l.take (k + 1)).any p = ((l.take k).any p || p l[k]) := by
  rw [List.take_succ_eq_append_getElem h, List.any_append]; simp

theorem any_true_of {α : Type} (l : List α) (p : α → Bool) (k : Nat) (h : k < l.length) (hp : p l[k] = true) : l.any p = true :=
  List.any_eq_true.2 ⟨l[k], List.getElem_mem h, hp⟩

theorem some_c (w : World) (vs vl : Value) (s : List Bool) (l : List Int) (hs : IsBools w vs s) (hl : IsInts w vl l) (hx : ∀ x ∈ l, 0 ≤ x ∧ x < s.length) :
    Calls Try.prog 42 #[vs, vl] w fun e w' => e = .returned (.bool (l.any (atB s))) ∧ w' = w := by
  have hsx := hs
  obtain ⟨ao1, cap1, b1, off1, rfl, hs⟩ := hs
  obtain ⟨⟨ao, cap, b, off, rfl, hl⟩, _⟩ := hl
  have hn := hl.nb
  go_enter Try.func42, Try.ntmps42
  go_wp2
  go_loop [4, 6, 9] (fun r _ i => ∃ k : Nat, i = .int .i64 k ∧ r = .bool false ∧ k ≤ l.length ∧ Hid ((l.take k).any (atB s) = false)) (fun _ _ i => l.length - (intOf i).toNat)
  case atStart => exact ⟨0, rfl, rfl, by omega, by simp [Hid]⟩
  case round =>
    obtain ⟨k, rfl, rfl, hk, HE⟩ := hrel
    by_cases hlt : k < l.length
    · obtain rfl := hl.ad (by omega)
      have c := hl.el k hlt
      unfold ivF at c
      rw [getD_lt _ _ _ hlt] at c
      obtain ⟨x0, x1⟩ := hx l[k] (List.getElem_mem hlt)
      cases hq : atB s l[k]
      · go_wp2_with (go_at_call 39; refine (has_c _ _ s _ hsx x0 x1).mono ?_; rintro e w' ⟨rfl, rfl⟩; rw [hq])
        go_round
        case rel => exact ⟨k + 1, by go_num, rfl, by omega, by show _ = _; rw [any_take_succ _ _ _ hlt, HE.out, hq]; rfl⟩
        case measure => simp [intOf]; omega
      · go_wp2_with (go_at_call 39; refine (has_c _ _ s _ hsx x0 x1).mono ?_; rintro e w' ⟨rfl, rfl⟩; rw [hq])
        go_ret
        exact ⟨ret_bool (Eq.symm (any_true_of _ _ k hlt hq)), rfl⟩
    · go_wp2
      go_ret
      refine ⟨ret_bool ?_, rfl⟩
      have h3 := HE.out
      rw [List.take_of_length_le (by omega)] at h3
      exact h3.symm

def partB (a b : List Bool) : Bool := (List.range a.length).all (fun i => !a.getD i false || b.getD i false) && decide (a.length = b.length)

theorem range_all_succ (p : Nat → Bool) (k : Nat) : (List.range (k + 1)).all p = ((List.range k).all p && p k) := by
  rw [List.range_succ, List.all_append]; simp

theorem range_all_false (p : Nat → Bool) (n k : Nat) (h : k < n) (hp : p k = false) : (List.range n).all p = false := by
  rw [List.all_eq_false]; exact ⟨k, List.mem_range.2 h, by simp [hp]⟩

end Go.Proofs.Ytjhafakkadnfmaa
