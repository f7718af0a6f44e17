/- What repeats computes. -/
import Derived.Test.YtgjpdnaeldpdeaaWdBase
namespace Go.Proofs.Ytgjpdnaeldpdeaa
open Go.RowKit

/-- The first k places behind n repeat. -/
def repK (l : List Int) (n k : Nat) : Prop := ∀ i, n + i < k → l.getD (n + i) 0 = l.getD i 0

set_option maxHeartbeats 2000000 in
theorem repeats_c (w : World) (vl : Value) (l : List Int) (n : Nat) (hl : IsInts w vl l) (h0 : 0 < n) (hn : n ≤ l.length) (hlen : l.length ≤ 100000) :
    Calls Try.prog 51 #[vl, .int .i64 (n : Int)] w (Quiet (.bool (repsB l n)) w) := by
  obtain ⟨⟨ao, cap, b, off, rfl, hl⟩, -⟩ := hl
  have hnb := hl.nb
  obtain rfl := hl.ad (by omega)
  have HGet := Lib.hid (fun k (hk : k < l.length) => hl.el k hk)
  clear hl
  have ht : (l.length : Int).tmod (n : Int) = ((l.length % n : Nat) : Int) := by rw [Int.tmod_eq_emod_of_nonneg (by omega)]; omega
  have hw2 : IntKind.i64.wrap ((l.length % n : Nat) : Int) = ((l.length % n : Nat) : Int) := by
    have := Nat.mod_lt l.length h0
    exact IntWalk.i64_in _ ⟨by omega, by omega⟩
  have hz : ¬ (n : Int) = 0 := by omega
  have hz2 : ¬ n = 0 := by omega
  have HR : Hid (repsB l n = true ↔ l.length % n = 0 ∧ repK l n l.length) := repsB_iff
  generalize repsB l n = r at *
  by_cases hm : l.length % n = 0
  · have ht0 : (l.length : Int).tmod (n : Int) = 0 := by rw [ht, hm]; rfl
    have he0 : (l.length : Int) % (n : Int) = 0 := by omega
    have HM := Lib.hid hm
    clear ht hw2 hm
    go_enter Try.func51, Try.ntmps51
    go_wp2
    go_loopw [5] (fun i wr => ∃ k m : Nat, i = .int .i64 k ∧ wr = w.drewN m ∧ n ≤ k ∧ k ≤ l.length ∧ Hid (repK l n k)) (fun i _ => l.length - (intOf i).toNat)
    case atStart => exact ⟨n, 0, rfl, rfl, by omega, hn, fun i hi => by omega⟩
    case round =>
      obtain ⟨k, m, rfl, rfl, hnk, hk, HA⟩ := hrel
      by_cases hlt : k < l.length
      · have e1 := HGet.out k hlt
        have e2 := HGet.out (k - n) (by omega)
        unfold ivF at e1 e2
        have hs1 : IntKind.i64.wrap ((k : Int) - n) = (k : Int) - n := IntWalk.i64_in _ ⟨by omega, by omega⟩
        have hs2 : ((k : Int) - n).toNat = k - n := by omega
        have hs3 : 0 ≤ (k : Int) - n := by omega
        have hs4 : (k : Int) - n < l.length := by omega
        have HY : Hid (l.getD k 0 = l.getD (k - n) 0 → repK l n (k + 1)) := fun h i hi => by
          rcases Nat.lt_or_ge (n + i) k with h3 | h3
          · exact HA.out i h3
          · obtain rfl : k = n + i := by omega
            rw [h]; congr 1; omega
        have HN : Hid (l.getD k 0 ≠ l.getD (k - n) 0 → r = false) := fun h => by
          cases r with
          | false => rfl
          | true =>
            have := (HR.out.1 rfl).2 (k - n) (by omega)
            rw [show n + (k - n) = k by omega] at this
            exact absurd this h
        generalize l.getD k 0 = x at *
        generalize l.getD (k - n) 0 = y at *
        by_cases hxy : x = y
        · have HY2 := Lib.hid (HY.out hxy)
          have hq : (x != y) = false := by simp [hxy]
          clear hxy HY HN
          go_wp2
          go_quiet (fail)
          go_wp2
          go_roundw
          case rel => exact ⟨k + 1, m + nq, by go_num, by simp [World.drewN], by omega, by omega, HY2.out⟩
          case measure => simp [intOf]; omega
        · have HN2 := Lib.hid (HN.out hxy)
          have hq : (x != y) = true := by simp [hxy]
          clear hxy HY HN
          go_wp2
          go_quiet (fail)
          go_wp2
          go_ret
          exact ⟨ret_bool HN2.out.symm, m + nq, by simp [World.drewN, Nat.add_assoc]⟩
      · obtain rfl : k = l.length := by omega
        have HY : Hid (r = true) := HR.out.2 ⟨HM.out, HA.out⟩
        go_wp2
        go_ret
        exact ⟨ret_bool HY.out.symm, m, rfl⟩
  · have HN : Hid (r = false) := by
      show _ = _
      cases r with
      | false => rfl
      | true => exact absurd (HR.out.1 rfl).1 hm
    generalize l.length % n = q at *
    have hq : ((q : Int) != 0) = true := by simp; omega
    go_enter Try.func51, Try.ntmps51
    go_wp2
    all_goals (try (exfalso; omega))
    go_ret
    exact ⟨ret_bool HN.out.symm, 0, rfl⟩

end Go.Proofs.Ytgjpdnaeldpdeaa
