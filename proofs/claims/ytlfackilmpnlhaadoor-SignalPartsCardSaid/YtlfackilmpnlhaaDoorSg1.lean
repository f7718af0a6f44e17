/- What the two functions Find compute; the two functions Name. -/
import Derived.Test.YtlfackilmpnlhaaDoorSgBase
import Derived.Deep.CutBlock
namespace Go.Proofs.YtlfackilmpnlhaaDoor
open Go.RowKit

theorem findF_step {l : List Sig} {k : Nat} (s : ByteArray) (h : k < l.length) : findF s (l.drop k) k = if l[k].name.toList = s.toList then (k : Int) else findF s (l.drop (k + 1)) (k + 1) := by
  rw [drop_cons l k h]; rfl

theorem Find_c (w : World) (vl : Value) (l : List Sig) (s : ByteArray) (hl : IsSigs w vl l) :
    Calls Tryd.prog 17 #[vl, .string s] w fun e w' => e = .returned (.int .i64 (findI l s)) ∧ w = w' := by
  obtain ⟨ao, cap, b, off, rfl, hl⟩ := hl
  have hn := hl.nb
  go_enter Tryd.func17, Tryd.ntmps17
  go_wp2
  go_loop [4, 8] (fun r i => ∃ k : Nat, i = .int .i64 k ∧ r = .int .i64 0 ∧ k ≤ l.length ∧ Hid (findI l s = findF s (l.drop k) k)) (fun _ i => l.length - (intOf i).toNat)
  case atStart => exact ⟨0, rfl, rfl, by omega, by simp [Hid, findI]⟩
  case round =>
    obtain ⟨k, rfl, rfl, hk, HE⟩ := hrel
    by_cases hlt : k < l.length
    · obtain rfl := hl.ad (by omega)
      have c := hl.nn k hlt
      have HD := Lib.hid (findF_step s hlt)
      go_wp2
      · have hq : (l[k].name.toList == s.toList) = true := by assumption
        go_ret
        exact ⟨ret_int (by rw [HE.out, HD.out, if_pos (by simpa using hq)]), rfl⟩
      · have hq : (l[k].name.toList == s.toList) = false := by assumption
        go_round
        case rel => exact ⟨k + 1, by go_num, rfl, by omega, by show _ = _; rw [HE.out, HD.out, if_neg (by simpa using hq)]⟩
        case measure => simp [intOf]; omega
    · go_wp2
      go_ret
      refine ⟨ret_int ?_, rfl⟩
      rw [HE.out, List.drop_eq_nil_of_le (by omega)]; rfl

theorem RFind_c (w : World) (vl : Value) (l : List Sig) (s : ByteArray) (hl : IsSigs w vl l) :
    Calls Tryd.prog 18 #[vl, .string s] w fun e w' => e = .returned (.int .i64 (findI l s)) ∧ w = w' := by
  obtain ⟨ao, cap, b, off, rfl, hl⟩ := hl
  have hn := hl.nb
  go_enter Tryd.func18, Tryd.ntmps18
  go_wp2
  go_loop [4, 5] (fun r i => ∃ k : Nat, i = .int .i64 k ∧ r = .int .i64 0 ∧ k ≤ l.length ∧ Hid (findI l s = findF s (l.drop k) k)) (fun _ i => l.length - (intOf i).toNat)
  case atStart => exact ⟨0, rfl, rfl, by omega, by simp [Hid, findI]⟩
  case round =>
    obtain ⟨k, rfl, rfl, hk, HE⟩ := hrel
    by_cases hlt : k < l.length
    · obtain rfl := hl.ad (by omega)
      have c := hl.nn k hlt
      have HD := Lib.hid (findF_step s hlt)
      go_wp2
      · have hq : (l[k].name.toList == s.toList) = true := by assumption
        go_ret
        exact ⟨ret_int (by rw [HE.out, HD.out, if_pos (by simpa using hq)]), rfl⟩
      · have hq : (l[k].name.toList == s.toList) = false := by assumption
        go_round
        case rel => exact ⟨k + 1, by go_num, rfl, by omega, by show _ = _; rw [HE.out, HD.out, if_neg (by simpa using hq)]⟩
        case measure => simp [intOf]; omega
    · go_wp2
      go_ret
      refine ⟨ret_int ?_, rfl⟩
      rw [HE.out, List.drop_eq_nil_of_le (by omega)]; rfl

/-- All bytes of a name are right. -/
def bytesB (s : ByteArray) (k : Nat) : Bool := (List.range k).all (fun i => byteB (decide (i = 0)) (s.data.toList.getD i 0))

theorem keyA_toList (k : Nat) (_h : k < 10) : (keyA k).toList = keyL.getD k [] := by
  rw [ByteArray.toList_eq]; simp [keyA]

theorem keys_index (k : Nat) (h : k < 10) : ∀ W : World, (Instr.index 45 (.agg #[.string (keyA 0), .string (keyA 1), .string (keyA 2), .string (keyA 3), .string (keyA 4), .string (keyA 5), .string (keyA 6), .string (keyA 7), .string (keyA 8), .string (keyA 9)]) (.int .i64 (k : Int))).run Tryd.prog W = .ok (.string (keyA k)) W := by
  match k, h with
  | 0, _ => exact fun _ => by kernel_rfl
  | 1, _ => exact fun _ => by kernel_rfl
  | 2, _ => exact fun _ => by kernel_rfl
  | 3, _ => exact fun _ => by kernel_rfl
  | 4, _ => exact fun _ => by kernel_rfl
  | 5, _ => exact fun _ => by kernel_rfl
  | 6, _ => exact fun _ => by kernel_rfl
  | 7, _ => exact fun _ => by kernel_rfl
  | 8, _ => exact fun _ => by kernel_rfl
  | 9, _ => exact fun _ => by kernel_rfl

theorem byteB_true {c : UInt8} (h : (97 ≤ (c.toNat : Int) ∧ (c.toNat : Int) ≤ 122) ∨ (48 ≤ (c.toNat : Int) ∧ (c.toNat : Int) ≤ 57) ∨ (c.toNat : Int) = 95) : byteB false c = true := by
  simp only [byteB, Bool.or_eq_true, Bool.and_eq_true, decide_eq_true_eq, Bool.not_false, true_and]; omega
theorem byteB_false {c : UInt8} (h : ¬ ((97 ≤ (c.toNat : Int) ∧ (c.toNat : Int) ≤ 122) ∨ (48 ≤ (c.toNat : Int) ∧ (c.toNat : Int) ≤ 57) ∨ (c.toNat : Int) = 95)) : byteB false c = false := by
  rw [← Bool.not_eq_true]
  simp only [byteB, Bool.or_eq_true, Bool.and_eq_true, decide_eq_true_eq, Bool.not_false, true_and]; omega
theorem byteB_first {c : UInt8} (h : 97 ≤ (c.toNat : Int) ∧ (c.toNat : Int) ≤ 122) : byteB (decide (0 = 0)) c = true := by
  simp only [byteB, Bool.or_eq_true, Bool.and_eq_true, decide_eq_true_eq]; omega
theorem byteB_nofirst {c : UInt8} (h : ¬ (97 ≤ (c.toNat : Int) ∧ (c.toNat : Int) ≤ 122)) : byteB (decide (0 = 0)) c = false := by
  rw [← Bool.not_eq_true]
  simp [byteB]; omega
theorem range_all_succ (p : Nat → Bool) (k : Nat) : (List.range (k + 1)).all p = ((List.range k).all p && p k) := by
  rw [List.range_succ, List.all_append]; simp
theorem range_all_false (p : Nat → Bool) (n k : Nat) (h : k < n) (hp : p k = false) : (List.range n).all p = false := by
  rw [List.all_eq_false]; exact ⟨k, List.mem_range.2 h, by simp [hp]⟩

set_option maxRecDepth 100000 in
set_option maxHeartbeats 2000000 in
theorem Name_c (w : World) (s : ByteArray) (hK : Keys w) (hs : s.size ≤ maxN) :
    Calls Tryd.prog 15 #[.string s] w fun e w' => e = .returned (.bool (nameB s)) ∧ w = w' := by
  have hsz : s.size ≤ 140737488351232 := hs
  clear hs
  have k0 := hK 0 (by omega)
  have k1 := hK 1 (by omega)
  have k2 := hK 2 (by omega)
  have k3 := hK 3 (by omega)
  have k4 := hK 4 (by omega)
  have k5 := hK 5 (by omega)
  have k6 := hK 6 (by omega)
  have k7 := hK 7 (by omega)
  have k8 := hK 8 (by omega)
  have k9 := hK 9 (by omega)
  by_cases h1 : (s.size : Int) < 1
  · go_enter Tryd.func15, Tryd.ntmps15
    go_wp2
    go_step3
    go_wp2
    (try rw [Exit.noGoto_ret])
    go_ret
    exact ⟨ret_bool (by simp [nameB]; omega), rfl⟩
  have h3 : (1 : Int) ≤ s.size := by omega
  by_cases h2 : (12 : Int) < s.size
  · clear h1
    go_enter Tryd.func15, Tryd.ntmps15
    go_wp2
    go_step3
    go_wp2
    (try rw [Exit.noGoto_ret])
    go_ret
    exact ⟨ret_bool (by simp [nameB]; omega), rfl⟩
  have h4 : (s.size : Int) ≤ 12 := by omega
  clear h1 h2
  go_enter Tryd.func15, Tryd.ntmps15
  go_wp2
  go_step3
  go_wp2
  go_step3
  go_upto_block 0 with (fail)
  go_cut [3] (fun v wx => w = wx ∧ v = .bool (bytesB s s.size))
  case first =>
    go_wp2
    go_loopg [3, 18] s.size (fun gh ok i wr => ∃ k : Nat, gh = s.size - k ∧ i = .int .i64 k ∧ ok = .bool true ∧ k ≤ s.size ∧ Hid (bytesB s k = true) ∧ w = wr)
    case atStart => exact ⟨0, rfl, rfl, rfl, by omega, rfl, rfl⟩
    case round =>
      obtain ⟨k, hgk, rfl, rfl, hk, HE, rfl⟩ := hrel
      have HG := Lib.hid hgk
      clear hgk
      by_cases hlt : k < s.size
      · have A : Hid (s.data.toList.getD k 0 = s[k]) := by show _ = _; simp [List.getD, hlt]; rfl
        by_cases hk0 : 0 < k
        · have hz : Hid (decide (k = 0) = false) := by show _ = _; simp; omega
          go_wp2
          all_goals
            first
            | (go_roundg (s.size - (k + 1))
               case measure => have := HG.out; omega
               case rel => exact ⟨k + 1, rfl, by go_num, rfl, by omega, by show _ = _; rw [bytesB, range_all_succ, A.out, hz.out]; (try simp only [beq_iff_eq, beq_eq_false_iff_ne] at *); rw [show (List.range k).all _ = true from HE.out, byteB_true (by omega)]; rfl, rfl⟩)
            | (go_meet
               case rel => exact ⟨rfl, by rw [bytesB, range_all_false _ _ k hlt (by rw [A.out, hz.out]; (try simp only [beq_iff_eq, beq_eq_false_iff_ne] at *); exact byteB_false (by omega))]⟩)
        · obtain rfl : k = 0 := by omega
          go_wp2
          all_goals
            first
            | (go_roundg (s.size - (0 + 1))
               case measure => have := HG.out; omega
               case rel => exact ⟨0 + 1, rfl, by go_num, rfl, by omega, by show _ = _; rw [bytesB, range_all_succ, A.out]; rw [byteB_first (by omega)]; rfl, rfl⟩)
            | (go_meet
               case rel => exact ⟨rfl, by rw [bytesB, range_all_false _ _ 0 hlt (by rw [A.out]; exact byteB_nofirst (by omega))]⟩)
      · obtain rfl : k = s.size := by omega
        go_wp2
        go_meet
        case rel => exact ⟨rfl, by rw [HE.out]⟩
  case rest =>
    obtain ⟨rfl, rfl⟩ := hcut
    go_wp2
    clear k0 k1 k2 k3 k4 k5 k6 k7 k8 k9 hK
    go_loopg [2, 48] 10 (fun gh r i wr => ∃ k : Nat, gh = 10 - k ∧ i = .int .i64 k ∧ r = .bool false ∧ k ≤ 10 ∧ Hid (∀ j, j < k → keyL.getD j [] ≠ s.toList) ∧ w = wr)
    case atStart => exact ⟨0, rfl, rfl, rfl, by omega, fun j hj => absurd hj (by omega), rfl⟩
    case round =>
      obtain ⟨k, hgk, rfl, rfl, hk, HE, rfl⟩ := hrel
      have HG := Lib.hid hgk
      clear hgk
      by_cases hlt : k < 10
      · have hi := keys_index k hlt
        have hkl := keyA_toList k hlt
        have HKL := Lib.hid hkl
        clear hkl
        go_wp2
        · have hq : ((keyA k).toList == s.toList) = true := by assumption
          (try rw [Exit.noGoto_ret])
          go_ret
          refine ⟨ret_bool (Eq.symm ?_), rfl⟩
          rw [HKL.out] at hq
          have h5 : isKey s = true := by
            rw [isKey, List.contains_iff_mem, ← eq_of_beq hq, getD_lt keyL [] k (by simpa [keyL] using hlt)]
            exact List.getElem_mem _
          rw [nameB, h5]; simp
        · have hq : ((keyA k).toList == s.toList) = false := by assumption
          go_roundg (10 - (k + 1))
          case measure => have := HG.out; omega
          case rel =>
            refine ⟨k + 1, rfl, by go_num, rfl, by omega, fun j hj => ?_, rfl⟩
            rcases Nat.lt_or_ge j k with h | h
            · exact HE.out j h
            · obtain rfl : j = k := by omega
              rw [HKL.out] at hq
              simpa using hq
      · obtain rfl : k = 10 := by omega
        go_wp2
        (try rw [Exit.noGoto_ret])
        go_ret
        refine ⟨ret_bool ?_, rfl⟩
        have h5 : isKey s = false := by
          rw [isKey, ← Bool.not_eq_true, List.contains_iff_mem]
          intro h
          obtain ⟨j, hj, e⟩ := List.getElem_of_mem h
          refine HE.out j (by simpa [keyL] using hj) ?_
          rw [getD_lt _ _ _ hj, e]
        rw [nameB, h5, decide_eq_true (show 1 ≤ s.size by omega), decide_eq_true (show s.size ≤ 12 by omega)]
        simp [bytesB]

end Go.Proofs.YtlfackilmpnlhaaDoor
