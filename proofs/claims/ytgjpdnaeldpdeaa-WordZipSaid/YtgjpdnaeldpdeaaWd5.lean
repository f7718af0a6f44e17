/- What the small functions on words compute: below, formed, Letter, Formed. -/
import Derived.Test.YtgjpdnaeldpdeaaWdBase
namespace Go.Proofs.Ytgjpdnaeldpdeaa
open Go.RowKit

theorem below_c (w : World) (vl : Value) (l : List Int) (most : Int) (hl : IsInts w vl l) :
    Calls Try.prog 35 #[vl, .int .i64 most] w (fun e w' => e = .returned (.bool (belB most l)) ∧ w = w') := by
  obtain ⟨⟨ao, cap, b, off, rfl, hl⟩, -⟩ := hl
  have hn := hl.nb
  go_enter Try.func35, Try.ntmps35
  go_wp2
  go_loop [9] (fun i => ∃ k : Nat, i = .int .i64 k ∧ k ≤ l.length ∧ Hid (belB most (l.take k) = true)) (fun i => l.length - (intOf i).toNat)
  case atStart => exact ⟨0, rfl, by omega, by show _ = _; simp [belB]⟩
  case round =>
    obtain ⟨k, rfl, hk, HA⟩ := hrel
    by_cases hlt : k < l.length
    · obtain rfl := hl.ad (by omega)
      have c1 := hl.el k hlt
      unfold ivF at c1
      rw [getD_lt _ _ _ hlt] at c1
      have HS := Lib.hid (all_take_succ l (fun x => decide (0 ≤ x) && decide (x < most)) k hlt)
      have HF0 : Hid ((decide (0 ≤ l[k]) && decide (l[k] < most)) = false → belB most l = false) := fun h => all_false_of l _ k hlt h
      generalize l[k] = x at *
      by_cases h0 : x < 0
      · have HF := Lib.hid (HF0.out (by simp; omega))
        go_wp2
        go_ret
        exact ⟨ret_bool (by rw [HF.out]), rfl⟩
      · by_cases h1 : most ≤ x
        · have HF := Lib.hid (HF0.out (by simp; omega))
          go_wp2
          go_ret
          exact ⟨ret_bool (by rw [HF.out]), rfl⟩
        · have HT : Hid (belB most (l.take (k + 1)) = true) := by
            show _ = _
            have := HA.out
            unfold belB at this ⊢
            rw [HS.out, this]; simp; omega
          go_wp2
          go_round
          case rel => exact ⟨k + 1, by go_num, by omega, HT⟩
          case measure => simp [intOf]; omega
    · obtain rfl : k = l.length := by omega
      have HF : Hid (belB most l = true) := by
        show _ = _
        have := HA.out
        rwa [List.take_length] at this
      go_wp2
      go_ret
      exact ⟨ret_bool (by rw [HF.out]), rfl⟩

theorem Letter_c (w : World) (x : Int) : Calls Try.prog 45 #[.int .i64 x] w (fun e w' => e = .returned (.bool (letB x)) ∧ w = w') := by
  by_cases h0 : 0 ≤ x
  · go_enter Try.func45, Try.ntmps45
    go_wp2
    go_ret
    exact ⟨ret_bool (by simp [letB]; omega), rfl⟩
  · go_enter Try.func45, Try.ntmps45
    go_wp2
    go_ret
    exact ⟨ret_bool (by simp [letB]; omega), rfl⟩

end Go.Proofs.Ytgjpdnaeldpdeaa
