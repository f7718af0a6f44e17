/- What period and slices.Clone compute. -/
import Derived.Test.YtgjpdnaeldpdeaaWd9
namespace Go.Proofs.Ytgjpdnaeldpdeaa
open Go.RowKit

theorem IsInts.drop {w : World} {ao : Option Addr} {cap b off : Nat} {l : List Int} (h : ArrAt w ao cap b off l.length (ivF l)) (hr : ∀ x ∈ l, I64 x) (k : Nat) (hk : k < l.length) :
    IsInts w (.slice (some ⟨b, off + k, none⟩) (l.length - k) (cap - k)) (l.drop k) := by
  have := h.lc
  have := h.cm
  have := h.nm
  refine ⟨⟨_, _, b, off + k, by rw [List.length_drop], ⟨by rw [List.length_drop]; omega, by omega, by rw [List.length_drop]; omega, (fun e => by cases e), fun _ => rfl, fun j hj => ?_⟩⟩, fun x hx => hr x (List.mem_of_mem_drop hx)⟩
  rw [List.length_drop] at hj
  have e := h.el (k + j) (by omega)
  rw [ivF_drop, Nat.add_assoc]
  exact e

theorem IsInts.take {w : World} {ao : Option Addr} {cap b off : Nat} {l : List Int} (h : ArrAt w ao cap b off l.length (ivF l)) (hr : ∀ x ∈ l, I64 x) (k : Nat) (hk : k ≤ l.length) :
    IsInts w (.slice ao k cap) (l.take k) := by
  have := h.lc
  have hl : (l.take k).length = k := by rw [List.length_take]; omega
  refine ⟨⟨ao, cap, b, off, by rw [hl], ⟨by omega, h.cm, by have := h.nm; omega, h.nc, fun h0 => h.ad (by omega), fun j hj => ?_⟩⟩, fun x hx => hr x (List.mem_of_mem_take hx)⟩
  rw [hl] at hj
  rw [ivF_take _ hj]
  exact h.el j (by omega)

set_option maxHeartbeats 2000000 in
theorem period_c (w : World) (vl : Value) (l : List Int) (hl : IsInts w vl l) (h0 : 0 < l.length) (hlen : l.length ≤ 100000) :
    Calls Try.prog 49 #[vl] w (Calm (.int .i64 (perL l)) w) := by
  obtain ⟨⟨ao, cap, b, off, rfl, hl⟩, hr⟩ := hl
  have hn := hl.nb
  have hlc := hl.lc
  obtain rfl := hl.ad h0
  have HQ : Hid (∀ W, Below w.heap.size w W → ∀ k, k < l.length → Calls Try.prog 41 #[.slice (some ⟨b, off + k, none⟩) (l.length - k) (cap - k), .slice (some ⟨b, off, none⟩) (l.length - k) cap] W (Quiet (.bool (decide (l.drop k = l.take (l.length - k)))) W)) :=
    fun W hW k hk => SEqual_c W _ _ _ _ ((IsInts.drop hl hr k hk).below hW) ((IsInts.take hl hr (l.length - k) (by omega)).below hW)
  have HP : Hid (∀ k, k ≤ l.length → repsB l k = (decide (l.length % k = 0) && decide (l.drop k = l.take (l.length - k)))) := fun k hk => reps_drop hk
  have HE : Hid (∀ k, 0 < k → repsB l k = true → (∀ r, 0 < r → r < k → repsB l r = false) → perL l = k) := fun k h1 h2 h3 => perL_of h0 h1 h2 h3
  have HSELF : Hid (repsB l l.length = true) := reps_self
  clear hr hl
  go_enter Try.func49, Try.ntmps49
  go_wp2
  go_loopw [3] (fun i wr => ∃ k : Nat, i = .int .i64 k ∧ 0 < k ∧ k ≤ l.length ∧ Hid (∀ r, 0 < r → r < k → repsB l r = false) ∧ Below w.heap.size w wr) (fun i _ => l.length - (intOf i).toNat)
  case atStart => exact ⟨1, rfl, by omega, by omega, fun r h1 h2 => by omega, Below.refl _ _⟩
  case round =>
    obtain ⟨k, rfl, hk0, hk, HA, hB⟩ := hrel
    by_cases hlt : k < l.length
    · have ht : (l.length : Int).tmod (k : Int) = ((l.length % k : Nat) : Int) := by rw [Int.tmod_eq_emod_of_nonneg (by omega)]; omega
      have hw2 : IntKind.i64.wrap ((l.length % k : Nat) : Int) = ((l.length % k : Nat) : Int) := by
        have := Nat.mod_lt l.length hk0
        exact IntWalk.i64_in _ ⟨by omega, by omega⟩
      have hz : ¬ (k : Int) = 0 := by omega
      have HPk := Lib.hid (HP.out k hk)
      have HQk := Lib.hid (fun W hW => HQ.out W hW k hlt)
      have HNO : Hid (repsB l k = false → ∀ r, 0 < r → r < k + 1 → repsB l r = false) := fun h r h1 h2 => by
        rcases Nat.lt_or_ge r k with h3 | h3
        · exact HA.out r h1 h3
        · obtain rfl : r = k := by omega
          exact h
      have HYES : Hid (repsB l k = true → perL l = k) := fun h => HE.out k hk0 h HA.out
      generalize repsB l k = rk at *
      generalize decide (l.drop k = l.take (l.length - k)) = q at *
      generalize l.length % k = m at *
      by_cases hm : m = 0
      · have ht0 : (l.length : Int).tmod (k : Int) = 0 := by rw [ht, hm]; rfl
        have hw0 : IntKind.i64.wrap 0 = 0 := by rfl
        have HPk : Hid (rk = q) := by show _ = _; rw [HPk.out, decide_eq_true hm]; rfl
        clear ht hw2 hm
        have hkd1 : k ≤ l.length := by omega
        have hkd2 : (k : Int) ≤ l.length := by omega
        have hkd3 : ¬ l.length = k := by omega
        have hkd4 : ¬ cap = k := by omega
        have hkd5 : k ≤ cap := by omega
        cases q with
        | true =>
          have HR := Lib.hid (HYES.out (by rw [HPk.out]))
          go_wp2
          refine wp_region_quiet_lit (by kernel_rfl) (by kernel_rfl) ?_
          ((repeat (go_big_quiet_step ((go_at_call 41; refine (HQk.out _ (by repeat (first | exact Below.refl _ _ | assumption | (refine belA ?_ _) | (refine belD ?_ _) | (refine Below.drew ?_)))).mono ?_; rintro e w' ⟨rfl, n3, rfl⟩; exact ⟨rfl, _, World.drewN_drewN ..⟩)))); refine wpQuiet_nil ?_; rintro _ ⟨nq, rfl⟩)
          go_wp2
          go_ret
          exact ⟨ret_int (by rw [HR.out]), (by repeat (first | exact Below.refl _ _ | assumption | (refine belA ?_ _) | (refine belD ?_ _) | (refine Below.drew ?_)))⟩
        | false =>
          have HNO2 := Lib.hid (HNO.out (by rw [HPk.out]))
          go_wp2
          refine wp_region_quiet_lit (by kernel_rfl) (by kernel_rfl) ?_
          ((repeat (go_big_quiet_step ((go_at_call 41; refine (HQk.out _ (by repeat (first | exact Below.refl _ _ | assumption | (refine belA ?_ _) | (refine belD ?_ _) | (refine Below.drew ?_)))).mono ?_; rintro e w' ⟨rfl, n3, rfl⟩; exact ⟨rfl, _, World.drewN_drewN ..⟩)))); refine wpQuiet_nil ?_; rintro _ ⟨nq, rfl⟩)
          go_wp2
          go_roundw
          case rel => exact ⟨k + 1, by go_num, by omega, by omega, HNO2.out, (by repeat (first | exact Below.refl _ _ | assumption | (refine belA ?_ _) | (refine belD ?_ _) | (refine Below.drew ?_)))⟩
          case measure => simp [intOf]; omega
      · have HNO2 := Lib.hid (HNO.out (by rw [HPk.out, decide_eq_false hm]; rfl))
        have hmz : ((m : Int) == 0) = false := by simp; omega
        go_wp2
        refine wp_region_quiet_lit (by kernel_rfl) (by kernel_rfl) ?_
        ((repeat (go_big_quiet_step (fail))); refine wpQuiet_nil ?_; rintro _ ⟨nq, rfl⟩)
        go_wp2
        go_roundw
        case rel => exact ⟨k + 1, by go_num, by omega, by omega, HNO2.out, (by repeat (first | exact Below.refl _ _ | assumption | (refine belA ?_ _) | (refine belD ?_ _) | (refine Below.drew ?_)))⟩
        case measure => simp [intOf]; omega
    · obtain rfl : k = l.length := by omega
      have HR := Lib.hid (HE.out _ h0 HSELF.out HA.out)
      go_wp2
      go_ret
      exact ⟨ret_int (by rw [HR.out]), hB⟩

end Go.Proofs.Ytgjpdnaeldpdeaa
