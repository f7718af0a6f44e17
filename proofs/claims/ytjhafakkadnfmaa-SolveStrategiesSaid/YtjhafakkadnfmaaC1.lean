/- What the small comparing functions compute: Bools, Ints, part, Small. -/
import Derived.Test.YtjhafakkadnfmaaBase
namespace Go.Proofs.Ytjhafakkadnfmaa
open Go.RowKit

theorem Bools_c (w : World) (va vb : Value) (la lb : List Bool) (ha : IsBools w va la) (hb : IsBools w vb lb) :
    Calls Try.prog 25 #[va, vb] w (Quiet (.bool (decide (la = lb))) w) := by
  obtain ⟨aoa, ca, ba, oa, rfl, ha⟩ := ha
  obtain ⟨aob, cb, bb, ob, rfl, hb⟩ := hb
  have hna := ha.nb
  have hnb := hb.nb
  by_cases hl : la.length = lb.length
  · have hne : ((la.length : Int) != lb.length) = false := by simp [hl]
    have HL := Lib.hid hl
    clear hl
    go_enter Try.func25, Try.ntmps25
    go_wp2
    go_loopw [5] (fun i wr => ∃ k n : Nat, i = .int .i64 k ∧ wr = w.drewN n ∧ k ≤ la.length ∧ la.take k = lb.take k) (fun i _ => la.length - (intOf i).toNat)
    case atStart => exact ⟨0, 0, rfl, rfl, by omega, by simp⟩
    case round =>
      obtain ⟨k, n, rfl, rfl, hk, heq⟩ := hrel
      have HE := Lib.hid heq
      clear heq
      by_cases hlt : k < la.length
      · have hltb : k < lb.length := by rw [← HL.out]; exact hlt
        obtain rfl := ha.ad (by omega)
        obtain rfl := hb.ad (by omega)
        have c1 := ha.el k hlt
        have c2 := hb.el k hltb
        unfold bvF at c1 c2
        go_wp2
        go_quiet (fail)
        go_wp2
        · have hd : (!la[k] == lb[k]) = true := by assumption
          go_ret
          refine ⟨ret_bool (Eq.symm (decide_eq_false ?_)), _, World.drewN_drewN ..⟩
          rintro rfl
          simp at hd
        · have hd : (!la[k] == lb[k]) = false := by assumption
          go_roundw
          case rel => exact ⟨k + 1, _, by go_num, rfl, by omega, take_succ_eq hlt hltb HE.out (by simpa using hd)⟩
          case measure => simp [intOf]; omega
      · go_wp2
        go_ret
        refine ⟨ret_bool (Eq.symm (decide_eq_true ?_)), n, rfl⟩
        have h1 := HE.out
        have h2 := HL.out
        rwa [List.take_of_length_le (by omega), List.take_of_length_le (by omega)] at h1
  · have hne : ((la.length : Int) != lb.length) = true := by simp; omega
    go_enter Try.func25, Try.ntmps25
    go_wp2
    go_ret
    exact ⟨ret_bool (Eq.symm (decide_eq_false (by rintro rfl; exact hl rfl))), 0, rfl⟩

end Go.Proofs.Ytjhafakkadnfmaa
