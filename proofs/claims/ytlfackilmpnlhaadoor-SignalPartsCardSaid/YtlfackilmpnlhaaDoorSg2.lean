/- What the reference's In, Keywords and Name compute. -/
import Derived.Test.YtlfackilmpnlhaaDoorSg1
namespace Go.Proofs.YtlfackilmpnlhaaDoor
open Go.RowKit

theorem keys_in {s : ByteArray} {k : Nat} (h : k < 10) (e : (keyA k).toList = s.toList) : isKey s = true := by
  rw [keyA_toList k h] at e
  rw [isKey, List.contains_iff_mem, ← e, getD_lt keyL [] k (by simpa [keyL] using h)]
  exact List.getElem_mem _
theorem keys_out {s : ByteArray} (h : ∀ j, j < 10 → (keyA j).toList ≠ s.toList) : isKey s = false := by
  rw [isKey, ← Bool.not_eq_true, List.contains_iff_mem]
  intro hm
  obtain ⟨j, hj, e⟩ := List.getElem_of_mem hm
  have hj' : j < 10 := by simpa [keyL] using hj
  refine h j hj' ?_
  rw [keyA_toList j hj', getD_lt _ _ _ hj, e]

theorem In_c (w : World) (b : Nat) (s : ByteArray) (hk : ∀ j, j < 10 → w.cell? ⟨b, j, none⟩ = some (.string (keyA j))) :
    Calls Tryd.prog 37 #[.slice (some ⟨b, 0, none⟩) 10 10, .string s] w fun e w' => e = .returned (.bool (isKey s)) ∧ w = w' := by
  have HK := Lib.hid hk
  clear hk
  go_enter Tryd.func37, Tryd.ntmps37
  go_wp2
  go_loop [4, 5] (fun r i => ∃ k : Nat, i = .int .i64 k ∧ r = .bool false ∧ k ≤ 10 ∧ Hid (∀ j, j < k → (keyA j).toList ≠ s.toList)) (fun _ i => 10 - (intOf i).toNat)
  case atStart => exact ⟨0, rfl, rfl, by omega, fun j hj => absurd hj (by omega)⟩
  case round =>
    obtain ⟨k, rfl, rfl, hk, HE⟩ := hrel
    by_cases hlt : k < 10
    · have c := HK.out k hlt
      go_wp2
      · have hq : ((keyA k).toList == s.toList) = true := by assumption
        go_ret
        exact ⟨ret_bool (keys_in hlt (eq_of_beq hq)).symm, rfl⟩
      · have hq : ((keyA k).toList == s.toList) = false := by assumption
        go_round
        case rel =>
          refine ⟨k + 1, by go_num, rfl, by omega, fun j hj => ?_⟩
          rcases Nat.lt_or_ge j k with h | h
          · exact HE.out j h
          · obtain rfl : j = k := by omega
            simpa using hq
        case measure => simp [intOf]; omega
    · obtain rfl : k = 10 := by omega
      go_wp2
      go_ret
      exact ⟨ret_bool (keys_out HE.out).symm, rfl⟩

theorem Keywords_c (w : World) : Calls Tryd.prog 38 #[] w fun e w' => e = .returned (.slice (some ⟨w.heap.size, 0, none⟩) 10 10) ∧ w' = w.alloc (.cells #[.string (keyA 0), .string (keyA 1), .string (keyA 2), .string (keyA 3), .string (keyA 4), .string (keyA 5), .string (keyA 6), .string (keyA 7), .string (keyA 8), .string (keyA 9)] 9) := by
  go_enter Tryd.func38, Tryd.ntmps38
  go_wp2
  go_ret
  exact ⟨rfl, rfl⟩

theorem keys_new (w : World) : ∀ j, j < 10 → (w.alloc (.cells #[.string (keyA 0), .string (keyA 1), .string (keyA 2), .string (keyA 3), .string (keyA 4), .string (keyA 5), .string (keyA 6), .string (keyA 7), .string (keyA 8), .string (keyA 9)] 9)).cell? ⟨w.heap.size, j, none⟩ = some (.string (keyA j)) := fun j h => by
  rw [cell_of_row _ _ j _ _ _ (heap_alloc_new _ _)]
  match j, h with
  | 0, _ => rfl
  | 1, _ => rfl
  | 2, _ => rfl
  | 3, _ => rfl
  | 4, _ => rfl
  | 5, _ => rfl
  | 6, _ => rfl
  | 7, _ => rfl
  | 8, _ => rfl
  | 9, _ => rfl

set_option maxRecDepth 100000 in
set_option maxHeartbeats 4000000 in
theorem RName_c (w : World) (s : ByteArray) (hs : s.size ≤ maxN) :
    Calls Tryd.prog 16 #[.string s] w (Calm (.bool (nameB s)) w) := by
  have hsz : s.size ≤ 140737488351232 := hs
  clear hs
  by_cases h1 : (s.size : Int) < 1
  · go_enter Tryd.func16, Tryd.ntmps16
    go_wp2
    go_ret
    exact ⟨ret_bool (by simp [nameB]; omega), Below.refl _ _⟩
  have h3 : (1 : Int) ≤ s.size := by omega
  by_cases h2 : (12 : Int) < s.size
  · clear h1
    go_enter Tryd.func16, Tryd.ntmps16
    go_wp2
    go_ret
    exact ⟨ret_bool (by simp [nameB]; omega), Below.refl _ _⟩
  have h4 : (s.size : Int) ≤ 12 := by omega
  clear h1 h2
  have hIn : Hid (∀ W : World, (∀ j, j < 10 → W.cell? ⟨w.heap.size, j, none⟩ = some (.string (keyA j))) → Calls Tryd.prog 37 #[.slice (some ⟨w.heap.size, 0, none⟩) 10 10, .string s] W fun e w' => e = .returned (.bool (isKey s)) ∧ W = w') := fun W h => In_c W _ s h
  cases hc : isKey s
  all_goals
    go_enter Tryd.func16, Tryd.ntmps16
    go_wp2_with fail
    refine (Keywords_c _).mono ?_
    rintro e w1 ⟨rfl, hw1⟩
    have hk1 := keys_new w
    rw [← hw1] at hk1
    have HB : Hid (Below w.heap.size w w1) := by rw [hw1]; exact bel_box _
    have HK1 := Lib.hid hk1
    clear hk1 hw1
    go_wp2_with fail
    refine (hIn.out _ HK1.out).mono ?_
    rintro e w1 ⟨rfl, rfl⟩
    rw [hc]
    have HC := Lib.hid hc
    clear hc
    go_wp2
  · go_loop [2, 3] (fun r i => ∃ k : Nat, i = .int .i64 k ∧ r = .bool false ∧ k ≤ s.size ∧ Hid (bytesB s k = true)) (fun _ i => s.size - (intOf i).toNat)
    case atStart => exact ⟨0, rfl, rfl, by omega, rfl⟩
    case round =>
      obtain ⟨k, rfl, rfl, hk, HE⟩ := hrel
      by_cases hlt : k < s.size
      · have A : Hid (s.data.toList.getD k 0 = s[k]) := by show _ = _; simp [List.getD, hlt]; rfl
        by_cases hk0 : 0 < k
        · have hz : Hid (decide (k = 0) = false) := by show _ = _; simp; omega
          have hz1 : ((k : Int) == 0) = false := by rw [beq_eq_false_iff_ne]; omega
          rcases (by omega : (s[k].toNat : Int) < 48 ∨ (48 ≤ (s[k].toNat : Int) ∧ (s[k].toNat : Int) ≤ 57) ∨ (57 < (s[k].toNat : Int) ∧ (s[k].toNat : Int) < 95) ∨ (95 ≤ (s[k].toNat : Int) ∧ (s[k].toNat : Int) ≤ 95) ∨ (95 < (s[k].toNat : Int) ∧ (s[k].toNat : Int) < 97) ∨ (97 ≤ (s[k].toNat : Int) ∧ (s[k].toNat : Int) ≤ 122) ∨ 122 < (s[k].toNat : Int)) with hc | hc | hc | hc | hc | hc | hc
          · have hq : ((s[k].toNat : Int) == 95) = false := by first | (rw [beq_eq_false_iff_ne]; omega) | (rw [beq_iff_eq]; omega)
            have hd57 : decide ((s[k].toNat : Int) ≤ 57) = true := decide_eq_true (by omega)
            have hd122 : decide ((s[k].toNat : Int) ≤ 122) = true := decide_eq_true (by omega)
            go_wp2
            go_ret
            refine ⟨ret_bool (Eq.symm ?_), HB.out⟩
            rw [nameB, range_all_false _ _ k hlt (by rw [A.out, hz.out]; exact byteB_false (by omega))]; simp
          · have hq : ((s[k].toNat : Int) == 95) = false := by first | (rw [beq_eq_false_iff_ne]; omega) | (rw [beq_iff_eq]; omega)
            have hd57 : decide ((s[k].toNat : Int) ≤ 57) = true := decide_eq_true (by omega)
            have hd122 : decide ((s[k].toNat : Int) ≤ 122) = true := decide_eq_true (by omega)
            go_wp2
            go_round
            case rel => exact ⟨k + 1, by go_num, rfl, by omega, by show _ = _; rw [bytesB, range_all_succ, A.out, hz.out, byteB_true (by omega)]; rw [show (List.range k).all _ = true from HE.out]; rfl⟩
            case measure => simp [intOf]; omega
          · have hq : ((s[k].toNat : Int) == 95) = false := by first | (rw [beq_eq_false_iff_ne]; omega) | (rw [beq_iff_eq]; omega)
            have hd57 : decide ((s[k].toNat : Int) ≤ 57) = false := decide_eq_false (by omega)
            have hd122 : decide ((s[k].toNat : Int) ≤ 122) = true := decide_eq_true (by omega)
            go_wp2
            go_ret
            refine ⟨ret_bool (Eq.symm ?_), HB.out⟩
            rw [nameB, range_all_false _ _ k hlt (by rw [A.out, hz.out]; exact byteB_false (by omega))]; simp
          · have hq : ((s[k].toNat : Int) == 95) = true := by first | (rw [beq_eq_false_iff_ne]; omega) | (rw [beq_iff_eq]; omega)
            have hd57 : decide ((s[k].toNat : Int) ≤ 57) = false := decide_eq_false (by omega)
            have hd122 : decide ((s[k].toNat : Int) ≤ 122) = true := decide_eq_true (by omega)
            go_wp2
            go_round
            case rel => exact ⟨k + 1, by go_num, rfl, by omega, by show _ = _; rw [bytesB, range_all_succ, A.out, hz.out, byteB_true (by omega)]; rw [show (List.range k).all _ = true from HE.out]; rfl⟩
            case measure => simp [intOf]; omega
          · have hq : ((s[k].toNat : Int) == 95) = false := by first | (rw [beq_eq_false_iff_ne]; omega) | (rw [beq_iff_eq]; omega)
            have hd57 : decide ((s[k].toNat : Int) ≤ 57) = false := decide_eq_false (by omega)
            have hd122 : decide ((s[k].toNat : Int) ≤ 122) = true := decide_eq_true (by omega)
            go_wp2
            go_ret
            refine ⟨ret_bool (Eq.symm ?_), HB.out⟩
            rw [nameB, range_all_false _ _ k hlt (by rw [A.out, hz.out]; exact byteB_false (by omega))]; simp
          · have hq : ((s[k].toNat : Int) == 95) = false := by first | (rw [beq_eq_false_iff_ne]; omega) | (rw [beq_iff_eq]; omega)
            have hd57 : decide ((s[k].toNat : Int) ≤ 57) = false := decide_eq_false (by omega)
            have hd122 : decide ((s[k].toNat : Int) ≤ 122) = true := decide_eq_true (by omega)
            go_wp2
            go_round
            case rel => exact ⟨k + 1, by go_num, rfl, by omega, by show _ = _; rw [bytesB, range_all_succ, A.out, hz.out, byteB_true (by omega)]; rw [show (List.range k).all _ = true from HE.out]; rfl⟩
            case measure => simp [intOf]; omega
          · have hq : ((s[k].toNat : Int) == 95) = false := by first | (rw [beq_eq_false_iff_ne]; omega) | (rw [beq_iff_eq]; omega)
            have hd57 : decide ((s[k].toNat : Int) ≤ 57) = false := decide_eq_false (by omega)
            have hd122 : decide ((s[k].toNat : Int) ≤ 122) = false := decide_eq_false (by omega)
            go_wp2
            go_ret
            refine ⟨ret_bool (Eq.symm ?_), HB.out⟩
            rw [nameB, range_all_false _ _ k hlt (by rw [A.out, hz.out]; exact byteB_false (by omega))]; simp
        · obtain rfl : k = 0 := by omega
          rcases (by omega : (s[0].toNat : Int) < 48 ∨ (48 ≤ (s[0].toNat : Int) ∧ (s[0].toNat : Int) ≤ 57) ∨ (57 < (s[0].toNat : Int) ∧ (s[0].toNat : Int) < 95) ∨ (95 ≤ (s[0].toNat : Int) ∧ (s[0].toNat : Int) ≤ 95) ∨ (95 < (s[0].toNat : Int) ∧ (s[0].toNat : Int) < 97) ∨ (97 ≤ (s[0].toNat : Int) ∧ (s[0].toNat : Int) ≤ 122) ∨ 122 < (s[0].toNat : Int)) with hc | hc | hc | hc | hc | hc | hc
          · have hq : ((s[0].toNat : Int) == 95) = false := by first | (rw [beq_eq_false_iff_ne]; omega) | (rw [beq_iff_eq]; omega)
            have hd57 : decide ((s[0].toNat : Int) ≤ 57) = true := decide_eq_true (by omega)
            have hd122 : decide ((s[0].toNat : Int) ≤ 122) = true := decide_eq_true (by omega)
            go_wp2
            go_ret
            refine ⟨ret_bool (Eq.symm ?_), HB.out⟩
            rw [nameB, range_all_false _ _ 0 hlt (by rw [A.out]; exact byteB_nofirst (by omega))]; simp
          · have hq : ((s[0].toNat : Int) == 95) = false := by first | (rw [beq_eq_false_iff_ne]; omega) | (rw [beq_iff_eq]; omega)
            have hd57 : decide ((s[0].toNat : Int) ≤ 57) = true := decide_eq_true (by omega)
            have hd122 : decide ((s[0].toNat : Int) ≤ 122) = true := decide_eq_true (by omega)
            go_wp2
            go_ret
            refine ⟨ret_bool (Eq.symm ?_), HB.out⟩
            rw [nameB, range_all_false _ _ 0 hlt (by rw [A.out]; exact byteB_nofirst (by omega))]; simp
          · have hq : ((s[0].toNat : Int) == 95) = false := by first | (rw [beq_eq_false_iff_ne]; omega) | (rw [beq_iff_eq]; omega)
            have hd57 : decide ((s[0].toNat : Int) ≤ 57) = false := decide_eq_false (by omega)
            have hd122 : decide ((s[0].toNat : Int) ≤ 122) = true := decide_eq_true (by omega)
            go_wp2
            go_ret
            refine ⟨ret_bool (Eq.symm ?_), HB.out⟩
            rw [nameB, range_all_false _ _ 0 hlt (by rw [A.out]; exact byteB_nofirst (by omega))]; simp
          · have hq : ((s[0].toNat : Int) == 95) = true := by first | (rw [beq_eq_false_iff_ne]; omega) | (rw [beq_iff_eq]; omega)
            have hd57 : decide ((s[0].toNat : Int) ≤ 57) = false := decide_eq_false (by omega)
            have hd122 : decide ((s[0].toNat : Int) ≤ 122) = true := decide_eq_true (by omega)
            go_wp2
            go_ret
            refine ⟨ret_bool (Eq.symm ?_), HB.out⟩
            rw [nameB, range_all_false _ _ 0 hlt (by rw [A.out]; exact byteB_nofirst (by omega))]; simp
          · have hq : ((s[0].toNat : Int) == 95) = false := by first | (rw [beq_eq_false_iff_ne]; omega) | (rw [beq_iff_eq]; omega)
            have hd57 : decide ((s[0].toNat : Int) ≤ 57) = false := decide_eq_false (by omega)
            have hd122 : decide ((s[0].toNat : Int) ≤ 122) = true := decide_eq_true (by omega)
            go_wp2
            go_ret
            refine ⟨ret_bool (Eq.symm ?_), HB.out⟩
            rw [nameB, range_all_false _ _ 0 hlt (by rw [A.out]; exact byteB_nofirst (by omega))]; simp
          · have hq : ((s[0].toNat : Int) == 95) = false := by first | (rw [beq_eq_false_iff_ne]; omega) | (rw [beq_iff_eq]; omega)
            have hd57 : decide ((s[0].toNat : Int) ≤ 57) = false := decide_eq_false (by omega)
            have hd122 : decide ((s[0].toNat : Int) ≤ 122) = true := decide_eq_true (by omega)
            go_wp2
            go_round
            case rel => exact ⟨0 + 1, by go_num, rfl, by omega, by show _ = _; rw [bytesB, range_all_succ, A.out, byteB_first (by omega)]; rfl⟩
            case measure => simp [intOf]; omega
          · have hq : ((s[0].toNat : Int) == 95) = false := by first | (rw [beq_eq_false_iff_ne]; omega) | (rw [beq_iff_eq]; omega)
            have hd57 : decide ((s[0].toNat : Int) ≤ 57) = false := decide_eq_false (by omega)
            have hd122 : decide ((s[0].toNat : Int) ≤ 122) = false := decide_eq_false (by omega)
            go_wp2
            go_ret
            refine ⟨ret_bool (Eq.symm ?_), HB.out⟩
            rw [nameB, range_all_false _ _ 0 hlt (by rw [A.out]; exact byteB_nofirst (by omega))]; simp
      · obtain rfl : k = s.size := by omega
        go_wp2
        go_ret
        refine ⟨ret_bool ?_, HB.out⟩
        rw [nameB, HC.out, decide_eq_true (show 1 ≤ s.size by omega), decide_eq_true (show s.size ≤ 12 by omega), show (List.range s.size).all _ = true from HE.out]; rfl
  · go_ret
    refine ⟨ret_bool ?_, HB.out⟩
    rw [nameB, HC.out]; simp
end Go.Proofs.YtlfackilmpnlhaaDoor
