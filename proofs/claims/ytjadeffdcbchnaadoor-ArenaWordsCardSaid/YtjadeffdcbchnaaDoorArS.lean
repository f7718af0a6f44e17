/- Signals: Valid, Letters, Inputs, Outputs, In, Out, Join, and the reference's. -/
import Derived.Test.YtjadeffdcbchnaaDoorBase
import Derived.Deep.CutBlock
import Derived.RangeFuncNested
import Derived.RangeFuncBound
import Derived.RangeFuncCalls
import Derived.RangeFuncLeaves
import Derived.Shelf.Abstract
import Derived.Shelf.RegionOpen
import Derived.OwnWalkIn
import Derived.TacticsInMore
import Derived.LoopNIn
import Derived.LoopIn
import Derived.Sort.CutIn
import Derived.Deep.RegionWith
import Derived.StillTail
import Derived.StillTailTactics
import Derived.Deep.QuietTactic
import Derived.OrdersIn
namespace Go.Proofs.YtjadeffdcbchnaaDoor
open Go.RowKit
open Go.RowKit Go.Shelf
open Go

structure Sig where
  name : ByteArray
  inp : Bool
  size : Int

def sig0 : Sig := ⟨⟨#[]⟩, false, 0⟩

/-- The slice of signals with address ao lies from ⟨b, off⟩ on. -/
structure SArr (w : World) (ao : Option Addr) (cap b off : Nat) (l : List Sig) : Prop where
  lc : l.length ≤ cap
  cm : cap ≤ maxLen
  nm : l.length ≤ maxN
  ad : 0 < l.length → ao = some ⟨b, off, none⟩
  nn : ∀ j (h : j < l.length), w.cell? ⟨b, off + j * 3, none⟩ = some (.string l[j].name)
  ni : ∀ j (h : j < l.length), w.cell? ⟨b, off + j * 3 + 1, none⟩ = some (.bool l[j].inp)
  nz : ∀ j (h : j < l.length), w.cell? ⟨b, off + j * 3 + 2, none⟩ = some (.int .i64 l[j].size)
  sz : ∀ s ∈ l, I64 s.size
  sn : ∀ s ∈ l, s.name.size ≤ maxN

def IsSigs (w : World) (v : Value) (l : List Sig) : Prop := ∃ ao cap b off, v = .slice ao l.length cap ∧ SArr w ao cap b off l

theorem SArr.below {w wr : World} {ao : Option Addr} {cap b off : Nat} {l : List Sig} (h : SArr w ao cap b off l) (hb : Below w.heap.size w wr) : SArr wr ao cap b off l :=
  { h with
    nn := fun j hj => cellB hb (h.nn j hj)
    ni := fun j hj => cellB hb (h.ni j hj)
    nz := fun j hj => cellB hb (h.nz j hj) }

theorem IsSigs.below {w wr : World} {v : Value} {l : List Sig} (h : IsSigs w v l) (hb : Below w.heap.size w wr) : IsSigs wr v l := by
  obtain ⟨ao, cap, b, off, rfl, h⟩ := h
  exact ⟨ao, cap, b, off, rfl, h.below hb⟩

theorem SArr.nb {w : World} {ao : Option Addr} {cap b off : Nat} {l : List Sig} (h : SArr w ao cap b off l) : l.length ≤ 140737488351232 := h.nm

/-- The key words, as lists of bytes. -/
def keyL : List (List UInt8) := [[105, 110, 112, 117, 116], [111, 117, 116, 112, 117, 116], [112, 97, 114, 116], [97, 115, 115, 117, 109, 101], [103, 117, 97, 114, 97, 110, 116, 101, 101], [116, 114, 117, 101], [102, 97, 108, 115, 101], [97, 100, 100], [100, 114, 111, 112], [114, 101, 112, 108, 97, 99, 101]]

def keyA (j : Nat) : ByteArray := ⟨(keyL.getD j []).toArray⟩

/-- The variable of the key words reads as it was laid. -/
def Keys (w : World) : Prop := ∀ j, j < 10 → w.cell? ⟨0, j, none⟩ = some (.string (keyA j))

theorem Keys.below {w wr : World} (h : Keys w) (hb : Below w.heap.size w wr) : Keys wr := fun j hj => cellB hb (h j hj)

/-- A key word. -/
def isKey (s : ByteArray) : Bool := keyL.contains s.toList

def byteB (first : Bool) (c : UInt8) : Bool := (decide (97 ≤ c.toNat) && decide (c.toNat ≤ 122)) || (!first && ((decide (48 ≤ c.toNat) && decide (c.toNat ≤ 57)) || decide (c.toNat = 95)))

/-- A name is well-formed. -/
def nameB (s : ByteArray) : Bool := decide (1 ≤ s.size) && decide (s.size ≤ 12) && (List.range s.size).all (fun i => byteB (decide (i = 0)) (s.data.toList.getD i 0)) && !isKey s

def findF (s : ByteArray) : List Sig → Nat → Int
  | [], _ => -1
  | x :: r, k => if x.name.toList = s.toList then k else findF s r (k + 1)

/-- The index of the first signal with a name. -/
def findI (l : List Sig) (s : ByteArray) : Int := findF s l 0

theorem drop_cons {α : Type} (l : List α) (k : Nat) (h : k < l.length) : l.drop k = l[k] :: l.drop (k + 1) := List.drop_eq_getElem_cons h

theorem findF_step {l : List Sig} {k : Nat} (s : ByteArray) (h : k < l.length) : findF s (l.drop k) k = if l[k].name.toList = s.toList then (k : Int) else findF s (l.drop (k + 1)) (k + 1) := by
  rw [drop_cons l k h]; rfl

theorem RFind_c (w : World) (vl : Value) (l : List Sig) (s : ByteArray) (hl : IsSigs w vl l) :
    Calls Tryd.prog 68 #[vl, .string s] w fun e w' => e = .returned (.int .i64 (findI l s)) ∧ w = w' := by
  obtain ⟨ao, cap, b, off, rfl, hl⟩ := hl
  have hn := hl.nb
  go_enter Tryd.func68, Tryd.ntmps68
  go_wp2
  go_loop [4, 5] (fun r i => ∃ k : Nat, i = .int .i64 k ∧ r = .int .i64 0 ∧ k ≤ l.length ∧ Hid (findI l s = findF s (l.drop k) k)) (fun _ i => l.length - (intOf i).toNat)
  case atStart => exact ⟨0, rfl, rfl, by omega, by simp [Hid, findI]⟩
  case round =>
    obtain ⟨k, rfl, rfl, hk, HE⟩ := hrel
    by_cases hlt : k < l.length
    · obtain rfl := hl.ad (by omega)
      have c := hl.nn k hlt
      have HD := Lib.hid (findF_step s hlt)
      go_wp2
      · have hq : (l[k].name.toList == s.toList) = true := by assumption
        go_ret
        exact ⟨ret_int (by rw [HE.out, HD.out, if_pos (by simpa using hq)]), rfl⟩
      · have hq : (l[k].name.toList == s.toList) = false := by assumption
        go_round
        case rel => exact ⟨k + 1, by go_num, rfl, by omega, by show _ = _; rw [HE.out, HD.out, if_neg (by simpa using hq)]⟩
        case measure => simp [intOf]; omega
    · go_wp2
      go_ret
      refine ⟨ret_int ?_, rfl⟩
      rw [HE.out, List.drop_eq_nil_of_le (by omega)]; rfl

/-- All bytes of a name are right. -/
def bytesB (s : ByteArray) (k : Nat) : Bool := (List.range k).all (fun i => byteB (decide (i = 0)) (s.data.toList.getD i 0))

theorem keyA_toList (k : Nat) (_h : k < 10) : (keyA k).toList = keyL.getD k [] := by
  rw [ByteArray.toList_eq]; simp [keyA]

set_option maxRecDepth 100000 in
theorem keys_index (k : Nat) (h : k < 10) : ∀ W : World, (Instr.index 99 (.agg #[.string (keyA 0), .string (keyA 1), .string (keyA 2), .string (keyA 3), .string (keyA 4), .string (keyA 5), .string (keyA 6), .string (keyA 7), .string (keyA 8), .string (keyA 9)]) (.int .i64 (k : Int))).run Tryd.prog W = .ok (.string (keyA k)) W := by
  match k, h with
  | 0, _ => exact fun _ => by kernel_rfl
  | 1, _ => exact fun _ => by kernel_rfl
  | 2, _ => exact fun _ => by kernel_rfl
  | 3, _ => exact fun _ => by kernel_rfl
  | 4, _ => exact fun _ => by kernel_rfl
  | 5, _ => exact fun _ => by kernel_rfl
  | 6, _ => exact fun _ => by kernel_rfl
  | 7, _ => exact fun _ => by kernel_rfl
  | 8, _ => exact fun _ => by kernel_rfl
  | 9, _ => exact fun _ => by kernel_rfl

theorem byteB_true {c : UInt8} (h : (97 ≤ (c.toNat : Int) ∧ (c.toNat : Int) ≤ 122) ∨ (48 ≤ (c.toNat : Int) ∧ (c.toNat : Int) ≤ 57) ∨ (c.toNat : Int) = 95) : byteB false c = true := by
  simp only [byteB, Bool.or_eq_true, Bool.and_eq_true, decide_eq_true_eq, Bool.not_false, true_and]; omega

theorem byteB_false {c : UInt8} (h : ¬ ((97 ≤ (c.toNat : Int) ∧ (c.toNat : Int) ≤ 122) ∨ (48 ≤ (c.toNat : Int) ∧ (c.toNat : Int) ≤ 57) ∨ (c.toNat : Int) = 95)) : byteB false c = false := by
  rw [← Bool.not_eq_true]
  simp only [byteB, Bool.or_eq_true, Bool.and_eq_true, decide_eq_true_eq, Bool.not_false, true_and]; omega

theorem byteB_first {c : UInt8} (h : 97 ≤ (c.toNat : Int) ∧ (c.toNat : Int) ≤ 122) : byteB (decide (0 = 0)) c = true := by
  simp only [byteB, Bool.or_eq_true, Bool.and_eq_true, decide_eq_true_eq]; omega

theorem byteB_nofirst {c : UInt8} (h : ¬ (97 ≤ (c.toNat : Int) ∧ (c.toNat : Int) ≤ 122)) : byteB (decide (0 = 0)) c = false := by
  rw [← Bool.not_eq_true]
  simp [byteB]; omega

theorem sg_all_succ (p : Nat → Bool) (k : Nat) : (List.range (k + 1)).all p = ((List.range k).all p && p k) := by
  rw [List.range_succ, List.all_append]; simp

theorem sg_all_false (p : Nat → Bool) (n k : Nat) (h : k < n) (hp : p k = false) : (List.range n).all p = false := by
  rw [List.all_eq_false]; exact ⟨k, List.mem_range.2 h, by simp [hp]⟩

set_option maxRecDepth 100000 in
set_option maxHeartbeats 2000000 in
theorem Name_c (w : World) (s : ByteArray) (hK : Keys w) (hs : s.size ≤ maxN) :
    Calls Tryd.prog 62 #[.string s] w fun e w' => e = .returned (.bool (nameB s)) ∧ w = w' := by
  have hsz : s.size ≤ 140737488351232 := hs
  clear hs
  have k0 := hK 0 (by omega)
  have k1 := hK 1 (by omega)
  have k2 := hK 2 (by omega)
  have k3 := hK 3 (by omega)
  have k4 := hK 4 (by omega)
  have k5 := hK 5 (by omega)
  have k6 := hK 6 (by omega)
  have k7 := hK 7 (by omega)
  have k8 := hK 8 (by omega)
  have k9 := hK 9 (by omega)
  by_cases h1 : (s.size : Int) < 1
  · go_enter Tryd.func62, Tryd.ntmps62
    go_wp2
    go_step3
    go_wp2
    (try rw [Exit.noGoto_ret])
    go_ret
    exact ⟨ret_bool (by simp [nameB]; omega), rfl⟩
  have h3 : (1 : Int) ≤ s.size := by omega
  by_cases h2 : (12 : Int) < s.size
  · clear h1
    go_enter Tryd.func62, Tryd.ntmps62
    go_wp2
    go_step3
    go_wp2
    (try rw [Exit.noGoto_ret])
    go_ret
    exact ⟨ret_bool (by simp [nameB]; omega), rfl⟩
  have h4 : (s.size : Int) ≤ 12 := by omega
  clear h1 h2
  go_enter Tryd.func62, Tryd.ntmps62
  go_wp2
  go_step3
  go_wp2
  go_step3
  go_upto_block 0 with (fail)
  go_cut [3] (fun v wx => w = wx ∧ v = .bool (bytesB s s.size))
  case first =>
    go_wp2
    go_loopg [3, 18] s.size (fun gh ok i wr => ∃ k : Nat, gh = s.size - k ∧ i = .int .i64 k ∧ ok = .bool true ∧ k ≤ s.size ∧ Hid (bytesB s k = true) ∧ w = wr)
    case atStart => exact ⟨0, rfl, rfl, rfl, by omega, rfl, rfl⟩
    case round =>
      obtain ⟨k, hgk, rfl, rfl, hk, HE, rfl⟩ := hrel
      have HG := Lib.hid hgk
      clear hgk
      by_cases hlt : k < s.size
      · have A : Hid (s.data.toList.getD k 0 = s[k]) := by show _ = _; simp [List.getD, hlt]; rfl
        by_cases hk0 : 0 < k
        · have hz : Hid (decide (k = 0) = false) := by show _ = _; simp; omega
          go_wp2
          all_goals
            first
            | (go_roundg (s.size - (k + 1))
               case measure => have := HG.out; omega
               case rel => exact ⟨k + 1, rfl, by go_num, rfl, by omega, by show _ = _; rw [bytesB, sg_all_succ, A.out, hz.out]; (try simp only [beq_iff_eq] at *); (try simp only [beq_eq_false_iff_ne] at *); rw [show (List.range k).all _ = true from HE.out, byteB_true (by omega)]; rfl, rfl⟩)
            | (go_meet
               case rel => exact ⟨rfl, by rw [bytesB, sg_all_false _ _ k hlt (by rw [A.out, hz.out]; (try simp only [beq_iff_eq] at *); (try simp only [beq_eq_false_iff_ne] at *); exact byteB_false (by omega))]⟩)
        · obtain rfl : k = 0 := by omega
          go_wp2
          all_goals
            first
            | (go_roundg (s.size - (0 + 1))
               case measure => have := HG.out; omega
               case rel => exact ⟨0 + 1, rfl, by go_num, rfl, by omega, by show _ = _; rw [bytesB, sg_all_succ, A.out]; rw [byteB_first (by omega)]; rfl, rfl⟩)
            | (go_meet
               case rel => exact ⟨rfl, by rw [bytesB, sg_all_false _ _ 0 hlt (by rw [A.out]; exact byteB_nofirst (by omega))]⟩)
      · obtain rfl : k = s.size := by omega
        go_wp2
        go_meet
        case rel => exact ⟨rfl, by rw [HE.out]⟩
  case rest =>
    obtain ⟨rfl, rfl⟩ := hcut
    go_wp2
    clear k0 k1 k2 k3 k4 k5 k6 k7 k8 k9 hK
    go_loopg [2, 48] 10 (fun gh r i wr => ∃ k : Nat, gh = 10 - k ∧ i = .int .i64 k ∧ r = .bool false ∧ k ≤ 10 ∧ Hid (∀ j, j < k → keyL.getD j [] ≠ s.toList) ∧ w = wr)
    case atStart => exact ⟨0, rfl, rfl, rfl, by omega, fun j hj => absurd hj (by omega), rfl⟩
    case round =>
      obtain ⟨k, hgk, rfl, rfl, hk, HE, rfl⟩ := hrel
      have HG := Lib.hid hgk
      clear hgk
      by_cases hlt : k < 10
      · have hi := keys_index k hlt
        have hkl := keyA_toList k hlt
        have HKL := Lib.hid hkl
        clear hkl
        go_wp2
        · have hq : ((keyA k).toList == s.toList) = true := by assumption
          (try rw [Exit.noGoto_ret])
          go_ret
          refine ⟨ret_bool (Eq.symm ?_), rfl⟩
          rw [HKL.out] at hq
          have h5 : isKey s = true := by
            rw [isKey, List.contains_iff_mem, ← eq_of_beq hq, getD_lt keyL [] k (by simpa [keyL] using hlt)]
            exact List.getElem_mem _
          rw [nameB, h5]; simp
        · have hq : ((keyA k).toList == s.toList) = false := by assumption
          go_roundg (10 - (k + 1))
          case measure => have := HG.out; omega
          case rel =>
            refine ⟨k + 1, rfl, by go_num, rfl, by omega, fun j hj => ?_, rfl⟩
            rcases Nat.lt_or_ge j k with h | h
            · exact HE.out j h
            · obtain rfl : j = k := by omega
              rw [HKL.out] at hq
              simpa using hq
      · obtain rfl : k = 10 := by omega
        go_wp2
        (try rw [Exit.noGoto_ret])
        go_ret
        refine ⟨ret_bool ?_, rfl⟩
        have h5 : isKey s = false := by
          rw [isKey, ← Bool.not_eq_true, List.contains_iff_mem]
          intro h
          obtain ⟨j, hj, e⟩ := List.getElem_of_mem h
          refine HE.out j (by simpa [keyL] using hj) ?_
          rw [getD_lt _ _ _ hj, e]
        rw [nameB, h5, decide_eq_true (show 1 ≤ s.size by omega), decide_eq_true (show s.size ≤ 12 by omega)]
        simp [bytesB]

theorem keys_in {s : ByteArray} {k : Nat} (h : k < 10) (e : (keyA k).toList = s.toList) : isKey s = true := by
  rw [keyA_toList k h] at e
  rw [isKey, List.contains_iff_mem, ← e, getD_lt keyL [] k (by simpa [keyL] using h)]
  exact List.getElem_mem _

theorem keys_out {s : ByteArray} (h : ∀ j, j < 10 → (keyA j).toList ≠ s.toList) : isKey s = false := by
  rw [isKey, ← Bool.not_eq_true, List.contains_iff_mem]
  intro hm
  obtain ⟨j, hj, e⟩ := List.getElem_of_mem hm
  have hj' : j < 10 := by simpa [keyL] using hj
  refine h j hj' ?_
  rw [keyA_toList j hj', getD_lt _ _ _ hj, e]

theorem In_c (w : World) (b : Nat) (s : ByteArray) (hk : ∀ j, j < 10 → w.cell? ⟨b, j, none⟩ = some (.string (keyA j))) :
    Calls Tryd.prog 75 #[.slice (some ⟨b, 0, none⟩) 10 10, .string s] w fun e w' => e = .returned (.bool (isKey s)) ∧ w = w' := by
  have HK := Lib.hid hk
  clear hk
  go_enter Tryd.func75, Tryd.ntmps75
  go_wp2
  go_loop [4, 5] (fun r i => ∃ k : Nat, i = .int .i64 k ∧ r = .bool false ∧ k ≤ 10 ∧ Hid (∀ j, j < k → (keyA j).toList ≠ s.toList)) (fun _ i => 10 - (intOf i).toNat)
  case atStart => exact ⟨0, rfl, rfl, by omega, fun j hj => absurd hj (by omega)⟩
  case round =>
    obtain ⟨k, rfl, rfl, hk, HE⟩ := hrel
    by_cases hlt : k < 10
    · have c := HK.out k hlt
      go_wp2
      · have hq : ((keyA k).toList == s.toList) = true := by assumption
        go_ret
        exact ⟨ret_bool (keys_in hlt (eq_of_beq hq)).symm, rfl⟩
      · have hq : ((keyA k).toList == s.toList) = false := by assumption
        go_round
        case rel =>
          refine ⟨k + 1, by go_num, rfl, by omega, fun j hj => ?_⟩
          rcases Nat.lt_or_ge j k with h | h
          · exact HE.out j h
          · obtain rfl : j = k := by omega
            simpa using hq
        case measure => simp [intOf]; omega
    · obtain rfl : k = 10 := by omega
      go_wp2
      go_ret
      exact ⟨ret_bool (keys_out HE.out).symm, rfl⟩

theorem Keywords_c (w : World) : Calls Tryd.prog 76 #[] w fun e w' => e = .returned (.slice (some ⟨w.heap.size, 0, none⟩) 10 10) ∧ w' = w.alloc (.cells #[.string (keyA 0), .string (keyA 1), .string (keyA 2), .string (keyA 3), .string (keyA 4), .string (keyA 5), .string (keyA 6), .string (keyA 7), .string (keyA 8), .string (keyA 9)] 9) := by
  go_enter Tryd.func76, Tryd.ntmps76
  go_wp2
  go_ret
  exact ⟨rfl, rfl⟩

theorem keys_new (w : World) : ∀ j, j < 10 → (w.alloc (.cells #[.string (keyA 0), .string (keyA 1), .string (keyA 2), .string (keyA 3), .string (keyA 4), .string (keyA 5), .string (keyA 6), .string (keyA 7), .string (keyA 8), .string (keyA 9)] 9)).cell? ⟨w.heap.size, j, none⟩ = some (.string (keyA j)) := fun j h => by
  rw [cell_of_row _ _ j _ _ _ (heap_alloc_new _ _)]
  match j, h with
  | 0, _ => rfl
  | 1, _ => rfl
  | 2, _ => rfl
  | 3, _ => rfl
  | 4, _ => rfl
  | 5, _ => rfl
  | 6, _ => rfl
  | 7, _ => rfl
  | 8, _ => rfl
  | 9, _ => rfl

set_option maxRecDepth 100000 in
set_option maxHeartbeats 4000000 in
theorem RName_c (w : World) (s : ByteArray) (hs : s.size ≤ maxN) :
    Calls Tryd.prog 67 #[.string s] w (Calm (.bool (nameB s)) w) := by
  have hsz : s.size ≤ 140737488351232 := hs
  clear hs
  by_cases h1 : (s.size : Int) < 1
  · go_enter Tryd.func67, Tryd.ntmps67
    go_wp2
    go_ret
    exact ⟨ret_bool (by simp [nameB]; omega), Below.refl _ _⟩
  have h3 : (1 : Int) ≤ s.size := by omega
  by_cases h2 : (12 : Int) < s.size
  · clear h1
    go_enter Tryd.func67, Tryd.ntmps67
    go_wp2
    go_ret
    exact ⟨ret_bool (by simp [nameB]; omega), Below.refl _ _⟩
  have h4 : (s.size : Int) ≤ 12 := by omega
  clear h1 h2
  have hIn : Hid (∀ W : World, (∀ j, j < 10 → W.cell? ⟨w.heap.size, j, none⟩ = some (.string (keyA j))) → Calls Tryd.prog 75 #[.slice (some ⟨w.heap.size, 0, none⟩) 10 10, .string s] W fun e w' => e = .returned (.bool (isKey s)) ∧ W = w') := fun W h => In_c W _ s h
  cases hc : isKey s
  all_goals
    go_enter Tryd.func67, Tryd.ntmps67
    go_wp2_with fail
    refine (Keywords_c _).mono ?_
    rintro e w1 ⟨rfl, hw1⟩
    have hk1 := keys_new w
    rw [← hw1] at hk1
    have HB : Hid (Below w.heap.size w w1) := by rw [hw1]; exact bel_box _
    have HK1 := Lib.hid hk1
    clear hk1 hw1
    go_wp2_with fail
    refine (hIn.out _ HK1.out).mono ?_
    rintro e w1 ⟨rfl, rfl⟩
    rw [hc]
    have HC := Lib.hid hc
    clear hc
    go_wp2
  · go_loop [2, 3] (fun r i => ∃ k : Nat, i = .int .i64 k ∧ r = .bool false ∧ k ≤ s.size ∧ Hid (bytesB s k = true)) (fun _ i => s.size - (intOf i).toNat)
    case atStart => exact ⟨0, rfl, rfl, by omega, rfl⟩
    case round =>
      obtain ⟨k, rfl, rfl, hk, HE⟩ := hrel
      by_cases hlt : k < s.size
      · have A : Hid (s.data.toList.getD k 0 = s[k]) := by show _ = _; simp [List.getD, hlt]; rfl
        by_cases hk0 : 0 < k
        · have hz : Hid (decide (k = 0) = false) := by show _ = _; simp; omega
          have hz1 : ((k : Int) == 0) = false := by rw [beq_eq_false_iff_ne]; omega
          rcases (by omega : (s[k].toNat : Int) < 48 ∨ (48 ≤ (s[k].toNat : Int) ∧ (s[k].toNat : Int) ≤ 57) ∨ (57 < (s[k].toNat : Int) ∧ (s[k].toNat : Int) < 95) ∨ (95 ≤ (s[k].toNat : Int) ∧ (s[k].toNat : Int) ≤ 95) ∨ (95 < (s[k].toNat : Int) ∧ (s[k].toNat : Int) < 97) ∨ (97 ≤ (s[k].toNat : Int) ∧ (s[k].toNat : Int) ≤ 122) ∨ 122 < (s[k].toNat : Int)) with hc | hc | hc | hc | hc | hc | hc
          · have hq : ((s[k].toNat : Int) == 95) = false := by first | (rw [beq_eq_false_iff_ne]; omega) | (rw [beq_iff_eq]; omega)
            have hd57 : decide ((s[k].toNat : Int) ≤ 57) = true := decide_eq_true (by omega)
            have hd122 : decide ((s[k].toNat : Int) ≤ 122) = true := decide_eq_true (by omega)
            go_wp2
            go_ret
            refine ⟨ret_bool (Eq.symm ?_), HB.out⟩
            rw [nameB, sg_all_false _ _ k hlt (by rw [A.out, hz.out]; exact byteB_false (by omega))]; simp
          · have hq : ((s[k].toNat : Int) == 95) = false := by first | (rw [beq_eq_false_iff_ne]; omega) | (rw [beq_iff_eq]; omega)
            have hd57 : decide ((s[k].toNat : Int) ≤ 57) = true := decide_eq_true (by omega)
            have hd122 : decide ((s[k].toNat : Int) ≤ 122) = true := decide_eq_true (by omega)
            go_wp2
            go_round
            case rel => exact ⟨k + 1, by go_num, rfl, by omega, by show _ = _; rw [bytesB, sg_all_succ, A.out, hz.out, byteB_true (by omega)]; rw [show (List.range k).all _ = true from HE.out]; rfl⟩
            case measure => simp [intOf]; omega
          · have hq : ((s[k].toNat : Int) == 95) = false := by first | (rw [beq_eq_false_iff_ne]; omega) | (rw [beq_iff_eq]; omega)
            have hd57 : decide ((s[k].toNat : Int) ≤ 57) = false := decide_eq_false (by omega)
            have hd122 : decide ((s[k].toNat : Int) ≤ 122) = true := decide_eq_true (by omega)
            go_wp2
            go_ret
            refine ⟨ret_bool (Eq.symm ?_), HB.out⟩
            rw [nameB, sg_all_false _ _ k hlt (by rw [A.out, hz.out]; exact byteB_false (by omega))]; simp
          · have hq : ((s[k].toNat : Int) == 95) = true := by first | (rw [beq_eq_false_iff_ne]; omega) | (rw [beq_iff_eq]; omega)
            have hd57 : decide ((s[k].toNat : Int) ≤ 57) = false := decide_eq_false (by omega)
            have hd122 : decide ((s[k].toNat : Int) ≤ 122) = true := decide_eq_true (by omega)
            go_wp2
            go_round
            case rel => exact ⟨k + 1, by go_num, rfl, by omega, by show _ = _; rw [bytesB, sg_all_succ, A.out, hz.out, byteB_true (by omega)]; rw [show (List.range k).all _ = true from HE.out]; rfl⟩
            case measure => simp [intOf]; omega
          · have hq : ((s[k].toNat : Int) == 95) = false := by first | (rw [beq_eq_false_iff_ne]; omega) | (rw [beq_iff_eq]; omega)
            have hd57 : decide ((s[k].toNat : Int) ≤ 57) = false := decide_eq_false (by omega)
            have hd122 : decide ((s[k].toNat : Int) ≤ 122) = true := decide_eq_true (by omega)
            go_wp2
            go_ret
            refine ⟨ret_bool (Eq.symm ?_), HB.out⟩
            rw [nameB, sg_all_false _ _ k hlt (by rw [A.out, hz.out]; exact byteB_false (by omega))]; simp
          · have hq : ((s[k].toNat : Int) == 95) = false := by first | (rw [beq_eq_false_iff_ne]; omega) | (rw [beq_iff_eq]; omega)
            have hd57 : decide ((s[k].toNat : Int) ≤ 57) = false := decide_eq_false (by omega)
            have hd122 : decide ((s[k].toNat : Int) ≤ 122) = true := decide_eq_true (by omega)
            go_wp2
            go_round
            case rel => exact ⟨k + 1, by go_num, rfl, by omega, by show _ = _; rw [bytesB, sg_all_succ, A.out, hz.out, byteB_true (by omega)]; rw [show (List.range k).all _ = true from HE.out]; rfl⟩
            case measure => simp [intOf]; omega
          · have hq : ((s[k].toNat : Int) == 95) = false := by first | (rw [beq_eq_false_iff_ne]; omega) | (rw [beq_iff_eq]; omega)
            have hd57 : decide ((s[k].toNat : Int) ≤ 57) = false := decide_eq_false (by omega)
            have hd122 : decide ((s[k].toNat : Int) ≤ 122) = false := decide_eq_false (by omega)
            go_wp2
            go_ret
            refine ⟨ret_bool (Eq.symm ?_), HB.out⟩
            rw [nameB, sg_all_false _ _ k hlt (by rw [A.out, hz.out]; exact byteB_false (by omega))]; simp
        · obtain rfl : k = 0 := by omega
          rcases (by omega : (s[0].toNat : Int) < 48 ∨ (48 ≤ (s[0].toNat : Int) ∧ (s[0].toNat : Int) ≤ 57) ∨ (57 < (s[0].toNat : Int) ∧ (s[0].toNat : Int) < 95) ∨ (95 ≤ (s[0].toNat : Int) ∧ (s[0].toNat : Int) ≤ 95) ∨ (95 < (s[0].toNat : Int) ∧ (s[0].toNat : Int) < 97) ∨ (97 ≤ (s[0].toNat : Int) ∧ (s[0].toNat : Int) ≤ 122) ∨ 122 < (s[0].toNat : Int)) with hc | hc | hc | hc | hc | hc | hc
          · have hq : ((s[0].toNat : Int) == 95) = false := by first | (rw [beq_eq_false_iff_ne]; omega) | (rw [beq_iff_eq]; omega)
            have hd57 : decide ((s[0].toNat : Int) ≤ 57) = true := decide_eq_true (by omega)
            have hd122 : decide ((s[0].toNat : Int) ≤ 122) = true := decide_eq_true (by omega)
            go_wp2
            go_ret
            refine ⟨ret_bool (Eq.symm ?_), HB.out⟩
            rw [nameB, sg_all_false _ _ 0 hlt (by rw [A.out]; exact byteB_nofirst (by omega))]; simp
          · have hq : ((s[0].toNat : Int) == 95) = false := by first | (rw [beq_eq_false_iff_ne]; omega) | (rw [beq_iff_eq]; omega)
            have hd57 : decide ((s[0].toNat : Int) ≤ 57) = true := decide_eq_true (by omega)
            have hd122 : decide ((s[0].toNat : Int) ≤ 122) = true := decide_eq_true (by omega)
            go_wp2
            go_ret
            refine ⟨ret_bool (Eq.symm ?_), HB.out⟩
            rw [nameB, sg_all_false _ _ 0 hlt (by rw [A.out]; exact byteB_nofirst (by omega))]; simp
          · have hq : ((s[0].toNat : Int) == 95) = false := by first | (rw [beq_eq_false_iff_ne]; omega) | (rw [beq_iff_eq]; omega)
            have hd57 : decide ((s[0].toNat : Int) ≤ 57) = false := decide_eq_false (by omega)
            have hd122 : decide ((s[0].toNat : Int) ≤ 122) = true := decide_eq_true (by omega)
            go_wp2
            go_ret
            refine ⟨ret_bool (Eq.symm ?_), HB.out⟩
            rw [nameB, sg_all_false _ _ 0 hlt (by rw [A.out]; exact byteB_nofirst (by omega))]; simp
          · have hq : ((s[0].toNat : Int) == 95) = true := by first | (rw [beq_eq_false_iff_ne]; omega) | (rw [beq_iff_eq]; omega)
            have hd57 : decide ((s[0].toNat : Int) ≤ 57) = false := decide_eq_false (by omega)
            have hd122 : decide ((s[0].toNat : Int) ≤ 122) = true := decide_eq_true (by omega)
            go_wp2
            go_ret
            refine ⟨ret_bool (Eq.symm ?_), HB.out⟩
            rw [nameB, sg_all_false _ _ 0 hlt (by rw [A.out]; exact byteB_nofirst (by omega))]; simp
          · have hq : ((s[0].toNat : Int) == 95) = false := by first | (rw [beq_eq_false_iff_ne]; omega) | (rw [beq_iff_eq]; omega)
            have hd57 : decide ((s[0].toNat : Int) ≤ 57) = false := decide_eq_false (by omega)
            have hd122 : decide ((s[0].toNat : Int) ≤ 122) = true := decide_eq_true (by omega)
            go_wp2
            go_ret
            refine ⟨ret_bool (Eq.symm ?_), HB.out⟩
            rw [nameB, sg_all_false _ _ 0 hlt (by rw [A.out]; exact byteB_nofirst (by omega))]; simp
          · have hq : ((s[0].toNat : Int) == 95) = false := by first | (rw [beq_eq_false_iff_ne]; omega) | (rw [beq_iff_eq]; omega)
            have hd57 : decide ((s[0].toNat : Int) ≤ 57) = false := decide_eq_false (by omega)
            have hd122 : decide ((s[0].toNat : Int) ≤ 122) = true := decide_eq_true (by omega)
            go_wp2
            go_round
            case rel => exact ⟨0 + 1, by go_num, rfl, by omega, by show _ = _; rw [bytesB, sg_all_succ, A.out, byteB_first (by omega)]; rfl⟩
            case measure => simp [intOf]; omega
          · have hq : ((s[0].toNat : Int) == 95) = false := by first | (rw [beq_eq_false_iff_ne]; omega) | (rw [beq_iff_eq]; omega)
            have hd57 : decide ((s[0].toNat : Int) ≤ 57) = false := decide_eq_false (by omega)
            have hd122 : decide ((s[0].toNat : Int) ≤ 122) = false := decide_eq_false (by omega)
            go_wp2
            go_ret
            refine ⟨ret_bool (Eq.symm ?_), HB.out⟩
            rw [nameB, sg_all_false _ _ 0 hlt (by rw [A.out]; exact byteB_nofirst (by omega))]; simp
      · obtain rfl : k = s.size := by omega
        go_wp2
        go_ret
        refine ⟨ret_bool ?_, HB.out⟩
        rw [nameB, HC.out, decide_eq_true (show 1 ≤ s.size by omega), decide_eq_true (show s.size ≤ 12 by omega), show (List.range s.size).all _ = true from HE.out]; rfl
  · go_ret
    refine ⟨ret_bool ?_, HB.out⟩
    rw [nameB, HC.out]; simp

/-- The product of the sizes. -/
def prodL : List Sig → Int
  | [] => 1
  | s :: r => s.size * prodL r

theorem prodL_snoc (l : List Sig) (s : Sig) : prodL (l ++ [s]) = prodL l * s.size := by
  induction l with
  | nil => simp [prodL]
  | cons a l ih => simp only [List.cons_append, prodL, ih, Int.mul_assoc]

theorem prodL_take {l : List Sig} {k : Nat} (h : k < l.length) : prodL (l.take (k + 1)) = prodL (l.take k) * l[k].size := by
  rw [List.take_succ_eq_append_getElem h, prodL_snoc]

def sizeB (s : Sig) : Bool := decide (2 ≤ s.size) && decide (s.size ≤ 4)

/-- No earlier signal bears this name. -/
def newNm (l : List Sig) (i : Nat) : Bool := (List.range i).all fun k => !((l.getD k sig0).name.toList == (l.getD i sig0).name.toList)

def sigB (l : List Sig) (i : Nat) : Bool := nameB (l.getD i sig0).name && sizeB (l.getD i sig0) && newNm l i

def allB (l : List Sig) (k : Nat) : Bool := (List.range k).all (sigB l)

/-- Signals are well-formed. -/
def validS (l : List Sig) : Bool := decide (1 ≤ l.length) && decide (l.length ≤ 6) && allB l l.length && decide (prodL l ≤ 64)

theorem pow4 {k : Nat} (h : k ≤ 6) : (4 : Int) ^ k ≤ 4096 := by
  match k, h with
  | 0, _ => decide
  | 1, _ => decide
  | 2, _ => decide
  | 3, _ => decide
  | 4, _ => decide
  | 5, _ => decide
  | 6, _ => decide

theorem prodL_bd (l : List Sig) (h : ∀ s ∈ l, sizeB s = true) : 1 ≤ prodL l ∧ prodL l ≤ 4 ^ l.length := by
  induction l with
  | nil => simp [prodL]
  | cons a l ih =>
    obtain ⟨h1, h2⟩ := ih (fun s hs => h s (List.mem_cons_of_mem _ hs))
    have ha := h a List.mem_cons_self
    simp only [sizeB, Bool.and_eq_true, decide_eq_true_eq] at ha
    rw [prodL, List.length_cons, Int.pow_succ]
    refine ⟨?_, ?_⟩
    · have := Int.mul_le_mul (show (1 : Int) ≤ a.size by omega) h1 (by omega) (by omega); omega
    · rw [Int.mul_comm (4 ^ l.length) 4]
      exact Int.mul_le_mul ha.2 h2 (by omega) (by omega)

theorem allB_mem {l : List Sig} {k : Nat} (h : allB l k = true) (hk : k ≤ l.length) : ∀ s ∈ l.take k, sizeB s = true := fun s hs => by
  obtain ⟨j, hj, rfl⟩ := List.getElem_of_mem hs
  rw [List.length_take] at hj
  have := List.all_eq_true.1 h j (List.mem_range.2 (by omega))
  simp only [sigB, Bool.and_eq_true] at this
  rw [List.getElem_take]
  have e := this.1.2
  rwa [getD_lt _ _ _ (by omega)] at e

theorem prod_step {l : List Sig} {k : Nat} (h : allB l k = true) (hk : k < l.length) (h6 : l.length ≤ 6) (hs : sizeB l[k] = true) :
    (1 ≤ prodL (l.take k) ∧ prodL (l.take k) ≤ 4096) ∧ IntKind.i64.wrap (prodL (l.take k) * l[k].size) = prodL (l.take (k + 1)) := by
  have h1 := prodL_bd _ (allB_mem h (by omega))
  have h2 : prodL (l.take k) ≤ 4096 := by
    exact Int.le_trans h1.2 (pow4 (by rw [List.length_take]; omega))
  refine ⟨⟨h1.1, h2⟩, ?_⟩
  rw [prodL_take hk]
  simp only [sizeB, Bool.and_eq_true, decide_eq_true_eq] at hs
  refine IntWalk.i64_in _ ⟨?_, ?_⟩
  · have := Int.mul_nonneg (show 0 ≤ prodL (l.take k) by omega) (show 0 ≤ l[k].size by omega); omega
  · have := Int.mul_le_mul h2 hs.2 (by omega) (by omega); omega

theorem allB_succ (l : List Sig) (k : Nat) : allB l (k + 1) = (allB l k && sigB l k) := sg_all_succ _ _

theorem allB_false {l : List Sig} {n k : Nat} (h : k < n) (hs : sigB l k = false) : allB l n = false := sg_all_false _ _ _ h hs

set_option maxRecDepth 100000 in
set_option maxHeartbeats 4000000 in
theorem SValid_c (w : World) (vl : Value) (l : List Sig) (hK : Keys w) (hl : IsSigs w vl l) :
    Calls Tryd.prog 39 #[vl] w (Quiet (.bool (validS l)) w) := by
  obtain ⟨ao, cap, b, off, rfl, hl⟩ := hl
  have hn := hl.nb
  by_cases h1 : (l.length : Int) < 1
  · go_enter Tryd.func39, Tryd.ntmps39
    go_wp2
    go_step3
    go_wp2
    (try rw [Exit.noGoto_ret])
    go_ret
    exact ⟨ret_bool (by simp [validS]; omega), 0, rfl⟩
  have h3 : (1 : Int) ≤ l.length := by omega
  by_cases h2 : (6 : Int) < l.length
  · clear h1
    go_enter Tryd.func39, Tryd.ntmps39
    go_wp2
    go_step3
    go_wp2
    (try rw [Exit.noGoto_ret])
    go_ret
    exact ⟨ret_bool (by simp [validS]; omega), 0, rfl⟩
  have h4 : (l.length : Int) ≤ 6 := by omega
  have hN : Hid (∀ (W : World) (s : ByteArray), Below w.heap.size w W → s.size ≤ maxN → Calls Tryd.prog 62 #[.string s] W fun e w' => e = .returned (.bool (nameB s)) ∧ W = w') := fun W s hW h => Name_c W s (hK.below hW) h
  have HSN : Hid (∀ j (h : j < l.length), l[j].name.size ≤ maxN) := fun j h => hl.sn _ (List.getElem_mem h)
  clear h1 h2 hK
  go_enter Tryd.func39, Tryd.ntmps39
  go_wp2
  go_step3
  go_wp2
  go_step3
  go_upto_block 0 with (fail)
  go_cut [3, 4] (fun ok pr wx => (∃ n, wx = w.drewN n) ∧ ok = .bool (allB l l.length) ∧ ∃ p, pr = .int .i64 p ∧ Hid (allB l l.length = true → p = prodL l))
  case first =>
    go_wp2
    go_loopg [3, 4, 17] l.length (fun gh ok pr i wr => ∃ k n : Nat, gh = l.length - k ∧ i = .int .i64 k ∧ ok = .bool true ∧ pr = .int .i64 (prodL (l.take k)) ∧ k ≤ l.length ∧ Hid (allB l k = true) ∧ wr = w.drewN n)
    case atStart => exact ⟨0, 0, rfl, rfl, rfl, rfl, by omega, rfl, rfl⟩
    case round =>
      obtain ⟨k, n, hgk, rfl, rfl, rfl, hk, HE, rfl⟩ := hrel
      have HG := Lib.hid hgk
      clear hgk
      by_cases hlt : k < l.length
      · obtain rfl := hl.ad (by omega)
        have c0 := hl.nn k hlt
        have c2 := hl.nz k hlt
        have hz := hl.sz _ (List.getElem_mem hlt)
        have A : Hid (l.getD k sig0 = l[k]) := getD_lt _ _ _ hlt
        unfold I64 at hz
        cases hq : nameB l[k].name
        · go_wp2_with fail
          refine (hN.out _ _ (below_draws _ _ _) (HSN.out k hlt)).mono ?_
          rintro e w' ⟨rfl, rfl⟩
          rw [hq]
          go_wp2
          go_meet
          case rel => exact ⟨⟨n, rfl⟩, by rw [allB_false hlt (by rw [sigB, A.out, hq]; rfl)], _, rfl, fun h => by rw [allB_false hlt (by rw [sigB, A.out, hq]; rfl)] at h; cases h⟩
        · by_cases hs : 2 ≤ l[k].size ∧ l[k].size ≤ 4
          case neg =>
            have HF : Hid (allB l l.length = false) := allB_false hlt (by
              have : sizeB l[k] = false := by rw [← Bool.not_eq_true]; simp only [sizeB, Bool.and_eq_true, decide_eq_true_eq]; exact hs
              rw [sigB, A.out, this]; simp)
            rcases (by omega : l[k].size < 2 ∨ (2 ≤ l[k].size ∧ 4 < l[k].size)) with hs2 | hs2
            all_goals
              clear hs
              go_wp2_with fail
              refine (hN.out _ _ (below_draws _ _ _) (HSN.out k hlt)).mono ?_
              rintro e w' ⟨rfl, rfl⟩
              rw [hq]
              go_wp2
              go_meet
              case rel => exact ⟨⟨n, rfl⟩, by rw [HF.out], _, rfl, fun h => by rw [HF.out] at h; cases h⟩
          have hsB : sizeB l[k] = true := by simp only [sizeB, Bool.and_eq_true, decide_eq_true_eq]; exact hs
          obtain ⟨⟨hp1, hp2⟩, hpw⟩ := prod_step HE.out hlt (by omega) hsB
          have HPW := Lib.hid hpw
          have HSB := Lib.hid hsB
          have HQ := Lib.hid hq
          obtain ⟨hs1, hs2⟩ := hs
          have hI : Hid (IsSigs w (.slice (some ⟨b, off, none⟩) l.length cap) l) := ⟨_, _, b, off, rfl, hl⟩
          clear hpw hsB
          generalize prodL (l.take k) = pr at *
          go_wp2_with fail
          refine (hN.out _ _ (below_draws _ _ _) (HSN.out k hlt)).mono ?_
          rintro e w' ⟨rfl, rfl⟩
          rw [hq]
          clear hq
          go_wp2
          go_loopg [3, 44] k (fun gh ok i wx => ∃ j m : Nat, gh = k - j ∧ i = .int .i64 j ∧ ok = .bool true ∧ j ≤ k ∧ Hid ((List.range j).all (fun i => !((l.getD i sig0).name.toList == (l.getD k sig0).name.toList)) = true) ∧ wx = w.drewN m)
          case atStart => exact ⟨0, n, rfl, rfl, rfl, by omega, rfl, rfl⟩
          case round =>
            obtain ⟨j, m, hgj, rfl, rfl, hj, HJ, rfl⟩ := hrel
            have HGJ := Lib.hid hgj
            clear hgj
            by_cases hltj : j < k
            · have hjl : j < l.length := by omega
              have c3 := hl.nn j hjl
              have A2 : Hid (l.getD j sig0 = l[j]) := getD_lt _ _ _ hjl
              go_wp2
              go_quiet (fail)
              go_wp2
              · have he : (l[j].name.toList == l[k].name.toList) = true := by assumption
                have HF : Hid (allB l l.length = false) := allB_false hlt (by rw [sigB, newNm, sg_all_false _ _ j hltj (by rw [A.out, A2.out, he]; rfl)]; simp)
                go_meet
                case rel => exact ⟨⟨_, World.drewN_drewN ..⟩, by rw [HF.out], _, rfl, fun h => by rw [HF.out] at h; cases h⟩
              · have he : (l[j].name.toList == l[k].name.toList) = false := by assumption
                go_roundg (k - (j + 1))
                case measure => have := HGJ.out; omega
                case rel => exact ⟨j + 1, _, rfl, by go_num, rfl, by omega, by show _ = _; rw [sg_all_succ, HJ.out, A.out, A2.out, he]; rfl, rfl⟩
            · obtain rfl : j = k := by omega
              have hpw := HPW.out
              go_wp2
              go_roundg (l.length - (j + 1))
              case measure => have := HG.out; omega
              case rel => exact ⟨j + 1, m, rfl, by go_num, rfl, by first | rw [HPW.out] | rfl, by omega, by show _ = _; rw [allB_succ, HE.out, sigB, A.out, HQ.out, HSB.out, newNm, HJ.out]; rfl, rfl⟩
      · obtain rfl : k = l.length := by omega
        go_wp2
        go_meet
        case rel => exact ⟨⟨n, rfl⟩, by rw [HE.out], _, rfl, fun _ => by rw [List.take_length]⟩
  case rest =>
    obtain ⟨⟨n, rfl⟩, rfl, p, rfl, HP⟩ := hcut
    have HV : Hid (validS l = (allB l l.length && decide (prodL l ≤ 64))) := by
      show _ = _
      rw [validS, decide_eq_true (show 1 ≤ l.length by omega), decide_eq_true (show l.length ≤ 6 by omega)]; rfl
    cases hA : allB l l.length
    · go_wp2
      (try rw [Exit.noGoto_ret])
      go_ret
      exact ⟨ret_bool (by rw [HV.out, hA]; rfl), n, rfl⟩
    · have HP2 := Lib.hid (HP.out hA)
      go_wp2
      (try rw [Exit.noGoto_ret])
      go_ret
      exact ⟨ret_bool (by rw [HV.out, hA, HP2.out]; rfl), n, rfl⟩

theorem findF_first {l : List Sig} {s : ByteArray} : ∀ (i k : Nat) (h : i < l.length), l[i].name.toList = s.toList → (∀ j (hj : j < i), l[j].name.toList ≠ s.toList) → findF s l k = ((k + i : Nat) : Int) := by
  induction l with
  | nil => intro i k h; simp at h
  | cons x r ih =>
    intro i k h he hn
    unfold findF
    cases i with
    | zero => rw [if_pos (by simpa using he)]; simp
    | succ i =>
      rw [if_neg (by simpa using hn 0 (by omega)), ih i (k + 1) (by simpa using h) (by simpa using he) (fun j hj => by simpa using hn (j + 1) (by omega))]
      congr 1; omega

theorem findF_some {l : List Sig} {s : ByteArray} : ∀ (k : Nat), findF s l k ≠ -1 → ∃ i, ∃ h : i < l.length, l[i].name.toList = s.toList ∧ (∀ j (hj : j < i), l[j].name.toList ≠ s.toList) ∧ findF s l k = ((k + i : Nat) : Int) := by
  induction l with
  | nil => intro k h; exact absurd rfl h
  | cons x r ih =>
    intro k h
    unfold findF at h ⊢
    by_cases hx : x.name.toList = s.toList
    · rw [if_pos hx]
      exact ⟨0, by simp, by simpa using hx, fun j hj => absurd hj (by omega), by simp⟩
    · rw [if_neg hx] at h ⊢
      obtain ⟨i, hi, h1, h2, h3⟩ := ih (k + 1) h
      refine ⟨i + 1, by simp; exact hi, by simpa using h1, fun j hj => ?_, by rw [h3]; congr 1; omega⟩
      cases j with
      | zero => simpa using hx
      | succ j => simpa using h2 j (by omega)

/-- The first signal of a name is at its own place just if no earlier one bears it. -/
theorem find_new {l : List Sig} {i : Nat} (h : i < l.length) : (findI l l[i].name = (i : Int)) ↔ newNm l i = true := by
  have e : newNm l i = true ↔ ∀ j, ∀ hj : j < i, (l[j]'(by omega)).name.toList ≠ l[i].name.toList := by
    simp only [newNm, List.all_eq_true, List.mem_range, Bool.not_eq_true', beq_eq_false_iff_ne]
    constructor
    · intro k j hj
      have := k j hj
      rwa [getD_lt _ _ _ (show j < l.length by omega), getD_lt _ _ _ h] at this
    · intro k j hj
      rw [getD_lt _ _ _ (show j < l.length by omega), getD_lt _ _ _ h]
      exact k j hj
  rw [e]
  constructor
  · intro hf j hj
    obtain ⟨i', hi', h1, h2, h3⟩ := findF_some (l := l) (s := l[i].name) 0 (by unfold findI at hf; omega)
    unfold findI at hf
    obtain rfl : i' = i := by omega
    exact h2 j hj
  · intro hn
    have := findF_first (l := l) (s := l[i].name) i 0 h rfl hn
    unfold findI
    rw [this]; simp

set_option maxRecDepth 100000 in
set_option maxHeartbeats 4000000 in
theorem RSValid_c (w : World) (vl : Value) (l : List Sig) (hl : IsSigs w vl l) :
    Calls Tryd.prog 43 #[vl] w (Calm (.bool (validS l)) w) := by
  have hlx := hl
  obtain ⟨ao, cap, b, off, rfl, hl⟩ := hl
  have hn := hl.nb
  by_cases h1 : (l.length : Int) < 1
  · go_enter Tryd.func43, Tryd.ntmps43
    go_wp2
    go_ret
    exact ⟨ret_bool (by simp [validS]; omega), Below.refl _ _⟩
  have h3 : (1 : Int) ≤ l.length := by omega
  by_cases h2 : (6 : Int) < l.length
  · clear h1
    go_enter Tryd.func43, Tryd.ntmps43
    go_wp2
    go_ret
    exact ⟨ret_bool (by simp [validS]; omega), Below.refl _ _⟩
  have h4 : (l.length : Int) ≤ 6 := by omega
  have HSN : Hid (∀ j (h : j < l.length), l[j].name.size ≤ maxN) := fun j h => hl.sn _ (List.getElem_mem h)
  have HV : Hid (validS l = (allB l l.length && decide (prodL l ≤ 64))) := by
    show _ = _
    rw [validS, decide_eq_true (show 1 ≤ l.length by omega), decide_eq_true (show l.length ≤ 6 by omega)]; rfl
  clear h1 h2
  go_enter Tryd.func43, Tryd.ntmps43
  go_wp2
  go_loopg [2, 3, 4] l.length (fun gh r pr i wr => ∃ k : Nat, gh = l.length - k ∧ i = .int .i64 k ∧ r = .bool false ∧ pr = .int .i64 (prodL (l.take k)) ∧ k ≤ l.length ∧ Hid (allB l k = true) ∧ Below w.heap.size w wr)
  case atStart => exact ⟨0, rfl, rfl, rfl, rfl, by omega, rfl, Below.refl _ _⟩
  case round =>
    obtain ⟨k, hgk, rfl, rfl, rfl, hk, HE, hB⟩ := hrel
    have HG := Lib.hid hgk
    clear hgk
    by_cases hlt : k < l.length
    · obtain rfl := hl.ad (by omega)
      have c0 := cellB hB (hl.nn k hlt)
      have c2 := cellB hB (hl.nz k hlt)
      have hz := hl.sz _ (List.getElem_mem hlt)
      have A : Hid (l.getD k sig0 = l[k]) := getD_lt _ _ _ hlt
      unfold I64 at hz
      have HB := Lib.hid hB
      clear hB
      have HFN : Hid (∀ c, sigB l k = c → c = false → false = validS l) := fun c h1 h2 => by rw [HV.out, allB_false hlt (h1.trans h2)]; rfl
      cases hq : nameB l[k].name
      · go_wp2_with fail
        refine (RName_c _ _ (HSN.out k hlt)).mono ?_
        rintro e w2 ⟨rfl, hb2⟩
        rw [hq]
        go_wp2
        go_ret
        exact ⟨ret_bool (HFN.out _ (by rw [sigB, A.out, hq]; rfl) rfl), HB.out.trans (hb2.mono HB.out.size)⟩
      · have HQ := Lib.hid hq
        clear hq
        go_wp2_with fail
        refine (RName_c _ _ (HSN.out k hlt)).mono ?_
        rintro e w2 ⟨rfl, hb2⟩
        rw [HQ.out]
        have hB2 := HB.out.trans (hb2.mono HB.out.size)
        have d0 := cellB hb2 c0
        have d2 := cellB hb2 c2
        clear c0 c2 hb2
        go_wp2_with fail
        refine (RFind_c _ _ l l[k].name (hlx.below hB2)).mono ?_
        rintro e w2 ⟨rfl, rfl⟩
        cases hnw : newNm l k
        · have hne : (findI l l[k].name != (k : Int)) = true := by
            rw [bne_iff_ne]; intro h; rw [(find_new hlt).1 h] at hnw; cases hnw
          have HF := Lib.hid <| HFN.out _ (show sigB l k = false by rw [sigB, A.out, HQ.out, hnw]; simp) rfl
          generalize findI l l[k].name = fi at *
          clear hnw
          go_wp2
          go_ret
          exact ⟨ret_bool HF.out, hB2⟩
        · have hne : (findI l l[k].name != (k : Int)) = false := by
            rw [(find_new hlt).2 hnw]; simp
          generalize findI l l[k].name = fi at *
          have HNW := Lib.hid hnw
          clear hnw
          by_cases hs : 2 ≤ l[k].size ∧ l[k].size ≤ 4
          case neg =>
            have HF := Lib.hid <| HFN.out _ (show sigB l k = false by
              have : sizeB l[k] = false := by rw [← Bool.not_eq_true]; simp only [sizeB, Bool.and_eq_true, decide_eq_true_eq]; exact hs
              rw [sigB, A.out, this]; simp) rfl
            rcases (by omega : l[k].size < 2 ∨ (2 ≤ l[k].size ∧ 4 < l[k].size)) with hs2 | hs2
            all_goals
              clear hs
              go_wp2
              go_ret
              exact ⟨ret_bool HF.out, hB2⟩
          have hsB : sizeB l[k] = true := by simp only [sizeB, Bool.and_eq_true, decide_eq_true_eq]; exact hs
          obtain ⟨⟨hp1, hp2⟩, hpw⟩ := prod_step HE.out hlt (by omega) hsB
          have HPW := Lib.hid hpw
          have HSB := Lib.hid hsB
          obtain ⟨hs1, hs2⟩ := hs
          clear hpw hsB
          generalize prodL (l.take k) = pr at *
          have hpw := HPW.out
          go_wp2
          go_roundg (l.length - (k + 1))
          case measure => have := HG.out; omega
          case rel => exact ⟨k + 1, rfl, by go_num, rfl, by first | rw [HPW.out] | rfl, by omega, by show _ = _; rw [allB_succ, HE.out, sigB, A.out, HQ.out, HSB.out, HNW.out]; rfl, hB2⟩
    · obtain rfl : k = l.length := by omega
      rw [List.take_length]
      go_wp2
      go_ret
      exact ⟨ret_bool (by rw [HV.out, HE.out]; rfl), hB⟩

attribute [local go_sem] Oper.semAt_some

/-- What a round keeps: what lay below n₀, and the block of the iterator's slice. -/
def KpW (n₀ Bs : Nat) (W W' : World) : Prop := Below n₀ W W' ∧ W'.heap[Bs]? = W.heap[Bs]?

theorem KpW.trans {n₀ Bs : Nat} {A B C : World} (h : KpW n₀ Bs A B) (k : KpW n₀ Bs B C) : KpW n₀ Bs A C := ⟨h.1.trans k.1, k.2.trans h.2⟩

theorem KpW.refl (n₀ Bs : Nat) (A : World) : KpW n₀ Bs A A := ⟨Below.refl _ _, rfl⟩

theorem KpW.put {n₀ Bs : Nat} {w : World} (hn : n₀ ≤ w.heap.size) (hB : Bs < w.heap.size) (W : World) (l : Nat) (o o' : Obj) (hl : w.heap.size ≤ l) (h : W.heap[l]? = some o) (h1 : o.isCells = false) (h2 : o.isWalk = false) : KpW n₀ Bs W (W.putObj l o') :=
  ⟨belowK_b hn W l o o' hl h h1 h2, (grownBy_putObj' W l o').block Bs (by have := (Array.getElem?_eq_some_iff.1 h).1; omega) (by simp; omega)⟩

theorem cellN {n₀ : Nat} {w wr : World} {a : Addr} {v : Value} (hb : Below n₀ w wr) (ha : a.block < n₀) (h : w.cell? a = some v) : wr.cell? a = some v := (hb.cell ha).trans h

theorem SArr.belowN {n₀ : Nat} {w wr : World} {ao : Option Addr} {cap b off : Nat} {l : List Sig} (h : SArr w ao cap b off l) (hb : Below n₀ w wr) (hn : 0 < l.length → b < n₀) : SArr wr ao cap b off l :=
  { h with
    nn := fun j hj => cellN hb (hn (by omega)) (h.nn j hj)
    ni := fun j hj => cellN hb (hn (by omega)) (h.ni j hj)
    nz := fun j hj => cellN hb (hn (by omega)) (h.nz j hj) }

/-- The places of n things. -/
def allF (n : Nat) : List (Fin n) := List.finRange n

theorem allF_len (n : Nat) : (allF n).length = n := by simp [allF]

theorem allF_take {n k : Nat} (h : k < n) : (allF n).take (k + 1) = (allF n).take k ++ [⟨k, h⟩] := by
  rw [List.take_succ_eq_append_getElem (by rw [allF_len]; exact h)]
  congr 2
  simp [allF]

/-- The index and the weight that the iterator hands on. -/
def encW (l : List Sig) (x : Fin l.length) : Array Value := #[.int .i64 ((x : Nat) : Int), .int .i64 (prodL (l.take x))]

set_option maxRecDepth 100000 in
set_option maxHeartbeats 4000000 in
theorem weights1_in (F : Fence) (n : Nat) (h7 : F.fn 78) (hro : F.round = none) (hn : 1 ≤ n) (lY Bs n₀ b off cap : Nat) (ao : Option Addr) (l : List Sig) (hv : validS l = true) (hb : b < n₀) (J Jx : List (Fin l.length) → World → Prop)
    (hY : ∀ pre x W, J pre W → pre.length < l.length → YieldAt F (n - 1) Tryd.prog lY (encW l x) W fun e W' =>
      (e = .returned (.bool true) ∧ J (pre ++ [x]) W' ∧ KpW n₀ Bs W W') ∨ (e = .returned (.bool false) ∧ Jx (pre ++ [x]) W'))
    (W : World) (hBs : W.cell? ⟨Bs, 0, none⟩ = some (.slice ao l.length cap)) (hl : SArr W ao cap b off l) (h0 : J [] W) :
    CallsIn F n Tryd.prog 78 #[.func (.yield lY) #[] #[], .pointer (some ⟨Bs, 0, none⟩)] W fun e W' => (∃ v, e = .returned v) ∧
      ((∃ ys, ys = allF l.length ∧ J ys W') ∨ (∃ pre, (∃ k, k ≤ l.length ∧ pre = (allF l.length).take k) ∧ Jx pre W')) := by
  have hnb := hl.nb
  have hvx := hv
  simp only [validS, Bool.and_eq_true, decide_eq_true_eq] at hvx
  obtain ⟨⟨⟨hl1, hl6⟩, hA⟩, hP⟩ := hvx
  have HA := Lib.hid hA
  have h6i : (l.length : Int) ≤ 6 := by omega
  clear hA hP hv
  refine callsIn_of_wp Tryd.func78 rfl h7 ?_ hro
  simp only [Tryd.ntmps78, List.size_toArray, List.length_cons, List.length_nil, Nat.reduceAdd, Nat.reduceSub, Array.replicate_succ, Array.replicate_zero, List.push_toArray, List.append_toArray, List.nil_append, List.cons_append]
  gi_wp2
  gi_loopw [3, 7] (fun wt i wr => ∃ k : Nat, k ≤ l.length ∧ i = .int .i64 k ∧ wt = .int .i64 (prodL (l.take k)) ∧ J ((allF l.length).take k) wr ∧ KpW n₀ Bs W wr)
    (fun _ i _ => l.length - (intOf i).toNat)
  case atStart => exact ⟨0, Nat.zero_le _, rfl, rfl, h0, KpW.refl _ _ _⟩
  case round =>
    obtain ⟨k, hk, rfl, rfl, hJs, hnx⟩ := hrel
    by_cases hlt : k < l.length
    · obtain ⟨fn, tmps, assign, body, hy, hR⟩ := hY _ ⟨k, hlt⟩ wr hJs (by rw [List.length_take, allF_len]; omega)
      dsimp only [encW] at hy
      have hAk : allB l k = true := by
        rw [allB, List.all_eq_true]
        intro j hj
        exact List.all_eq_true.1 HA.out j (List.mem_range.2 (by have := List.mem_range.1 hj; omega))
      have hsB : sizeB l[k] = true := by
        have := List.all_eq_true.1 HA.out k (List.mem_range.2 hlt)
        simp only [sigB, Bool.and_eq_true] at this
        have e := this.1.2
        rwa [getD_lt _ _ _ hlt] at e
      obtain ⟨⟨hp1, hp2⟩, hpw⟩ := prod_step hAk hlt hl6 hsB
      simp only [sizeB, Bool.and_eq_true, decide_eq_true_eq] at hsB
      obtain ⟨hs1, hs2⟩ := hsB
      have HPW := Lib.hid hpw
      clear hpw hAk
      generalize prodL (l.take k) = pr at *
      obtain rfl := hl.ad (by omega)
      gi_wp2
      refine hR.mono ?_
      rintro e W3 (⟨rfl, hJ3, hk3⟩ | ⟨rfl, hJx3⟩)
      · have hk4 := hnx.trans hk3
        have hB3 : W3.cell? ⟨Bs, 0, none⟩ = some (.slice (some ⟨b, off, none⟩) l.length cap) := (World.cell?_of_block (a := ⟨Bs, 0, none⟩) hk4.2).trans hBs
        have c2 := (hl.belowN hk4.1 (fun _ => hb)).nz k hlt
        have hpw := HPW.out
        gi_wp2
        go_roundw
        case rel => exact ⟨k + 1, by omega, by go_num, by first | rw [HPW.out] | rfl, by rw [allF_take hlt]; exact hJ3, hk4⟩
        case measure => simp [intOf]; omega
      · gi_wp2
        refine bodyPost_ret (results_none rfl _ _ _) rfl ?_
        exact ⟨⟨_, rfl⟩, .inr ⟨_, ⟨k + 1, by omega, (allF_take hlt).symm⟩, hJx3⟩⟩
    · obtain rfl : k = l.length := by omega
      gi_wp2
      go_end0
      exact ⟨⟨_, rfl⟩, .inl ⟨_, rfl, by rw [List.take_of_length_le (by rw [allF_len]; exact Nat.le_refl _)] at hJs; exact hJs⟩⟩

theorem weights_c (w : World) (ao : Option Addr) (n cap : Nat) :
    Calls Tryd.prog 72 #[.slice ao n cap] w fun e w' => e = .returned (.func (.func 78) #[] #[.pointer (some ⟨w.heap.size, 0, none⟩)]) ∧ w' = w.alloc (.cells #[.slice ao n cap] 22) := by
  go_enter Tryd.func72, Tryd.ntmps72
  go_wp2
  go_ret
  exact ⟨rfl, rfl⟩

theorem weights_stops (F : Fence) (n : Nat) (h7 : F.fn 78) (hro : F.round = none) (hn : 1 ≤ n) (Bs n₀ b off cap : Nat) (ao : Option Addr) (l : List Sig) (hv : validS l = true) (hb : b < n₀) (w : World) (hBl : Bs < w.heap.size) (_ : n₀ ≤ w.heap.size)
    (hBs : w.cell? ⟨Bs, 0, none⟩ = some (.slice ao l.length cap)) (hl : SArr w ao cap b off l) :
    SeqStopsK F n Tryd.prog 78 #[.pointer (some ⟨Bs, 0, none⟩)] (encW l) (KpW n₀ Bs) (fun ys => ys = allF l.length) (fun pre => ∃ k, k ≤ l.length ∧ pre = (allF l.length).take k) l.length w := fun lY J Jx W hW _ _ hY h0 =>
  weights1_in F n h7 hro hn lY Bs n₀ b off cap ao l hv hb J Jx hY W ((hW.cell (p := ⟨Bs, 0, none⟩) hBl).trans hBs) (hl.below hW) h0

/-- A signal as a value. -/
def sigV (s : Sig) : Value := .agg #[.string s.name, .bool s.inp, .int .i64 s.size]

theorem ch0_c (W : World) (s : Sig) : Calls Tryd.prog 60 #[sigV s] W (Calm (.bool true) W) := by
  unfold sigV
  go_enter Tryd.func60, Tryd.ntmps60
  go_wp2
  go_ret
  exact ⟨rfl, (by repeat (first | exact Below.refl _ _ | assumption | (refine belA ?_ _) | (refine belD ?_ _)))⟩

theorem ch1_c (W : World) (s : Sig) : Calls Tryd.prog 73 #[sigV s] W (Calm (.bool s.inp) W) := by
  unfold sigV
  go_enter Tryd.func73, Tryd.ntmps73
  go_wp2
  go_ret
  exact ⟨rfl, (by repeat (first | exact Below.refl _ _ | assumption | (refine belA ?_ _) | (refine belD ?_ _)))⟩

theorem ch2_c (W : World) (s : Sig) : Calls Tryd.prog 74 #[sigV s] W (Calm (.bool (!s.inp)) W) := by
  unfold sigV
  go_enter Tryd.func74, Tryd.ntmps74
  go_wp2
  go_ret
  exact ⟨rfl, (by repeat (first | exact Below.refl _ _ | assumption | (refine belA ?_ _) | (refine belD ?_ _)))⟩

/-- The product of the sizes of the signals that are chosen. -/
def prodC (ch : Sig → Bool) : List Sig → Int
  | [] => 1
  | s :: r => if ch s then s.size * prodC ch r else prodC ch r

/-- The same, of the places that have come. -/
def prodF (ch : Sig → Bool) (l : List Sig) (pre : List (Fin l.length)) : Int := pre.foldl (fun p x => if ch l[x] then p * l[x].size else p) 1

theorem prodF_snoc (ch : Sig → Bool) (l : List Sig) (pre : List (Fin l.length)) (x : Fin l.length) : prodF ch l (pre ++ [x]) = if ch l[x] then prodF ch l pre * l[x].size else prodF ch l pre := by simp [prodF]

theorem prodF_bd {ch : Sig → Bool} {l : List Sig} (h : ∀ s ∈ l, sizeB s = true) (pre : List (Fin l.length)) : 1 ≤ prodF ch l pre ∧ prodF ch l pre ≤ 4 ^ pre.length := by
  have key : ∀ (n : Nat) (pre : List (Fin l.length)), pre.length = n → 1 ≤ prodF ch l pre ∧ prodF ch l pre ≤ 4 ^ pre.length := by
    intro n
    induction n with
    | zero => intro pre hp; rw [List.eq_nil_of_length_eq_zero hp]; simp [prodF]
    | succ n ih =>
      intro pre hp
      have hne : pre ≠ [] := by intro e; rw [e] at hp; simp at hp
      rw [← List.dropLast_concat_getLast hne]
      obtain ⟨h1, h2⟩ := ih pre.dropLast (by simp [hp])
      have hs := h l[pre.getLast hne] (List.getElem_mem _)
      simp only [sizeB, Bool.and_eq_true, decide_eq_true_eq] at hs
      rw [prodF_snoc, List.length_append, List.length_singleton, Int.pow_succ]
      split
      · refine ⟨?_, Int.mul_le_mul h2 hs.2 (by omega) (by omega)⟩
        have := Int.mul_le_mul h1 (show (1 : Int) ≤ l[pre.getLast hne].size by omega) (by omega) (by omega)
        omega
      · omega
  exact key _ pre rfl

theorem prodF_take (ch : Sig → Bool) (l : List Sig) (k : Nat) (hk : k ≤ l.length) : prodF ch l ((allF l.length).take k) * prodC ch (l.drop k) = prodC ch l := by
  induction k with
  | zero => simp [prodF]
  | succ k ih =>
    have h := ih (by omega)
    rw [drop_cons l k (by omega)] at h
    rw [allF_take (by omega), prodF_snoc, ← h]
    simp only [prodC, Fin.getElem_fin]
    split
    · rw [Int.mul_assoc]
    · rfl

theorem prodF_all (ch : Sig → Bool) (l : List Sig) : prodF ch l (allF l.length) = prodC ch l := by
  have := prodF_take ch l l.length (Nat.le_refl _)
  rw [List.take_of_length_le (by rw [allF_len]; exact Nat.le_refl _), List.drop_length, prodC, Int.mul_one] at this
  exact this

attribute [local go_sem] Oper.semAt_some

theorem prod_wrap {p z : Int} (h1 : 1 ≤ p) (h2 : p ≤ 4096) (h3 : 2 ≤ z) (h4 : z ≤ 4) : IntKind.i64.wrap (p * z) = p * z := by
  refine IntWalk.i64_in _ ⟨?_, ?_⟩
  · have := Int.mul_nonneg (show 0 ≤ p by omega) (show 0 ≤ z by omega); omega
  · have := Int.mul_le_mul h2 h4 (by omega) (by omega); omega

theorem new1 (w : World) (v : Value) (t : TypeId) : (w.alloc (.cells #[v] t)).cell? ⟨w.heap.size, 0, none⟩ = some v := cell_of_row _ _ 0 #[v] t (0, 0) (heap_alloc_new _ _)

theorem newF (w : World) (v : Value) (t : TypeId) : (w.alloc (.cells #[v] t)).frozen? ⟨w.heap.size, 0, none⟩ = false := frozen_of_row _ _ 0 _ _ (heap_alloc_new _ _)

theorem keepsFrom_of_below {B : Nat} {W W' : World} (h : Below W.heap.size W W') : KeepsFrom B W W' := ⟨h.size, fun i _ _ hi _ => (h.block i (Array.getElem?_eq_some_iff.1 hi).1).trans hi⟩

/-- What lies in the boxes of count: the slice, the function, the product, the iterator's slice. -/
def CountI (w : World) (vs vf : Value) (p : Int) (W : World) : Prop :=
  W.cell? ⟨w.heap.size + 2, 0, none⟩ = some (.int .i64 p) ∧ W.frozen? ⟨w.heap.size + 2, 0, none⟩ = false ∧ W.cell? ⟨w.heap.size, 0, none⟩ = some vs ∧ W.cell? ⟨w.heap.size + 1, 0, none⟩ = some vf ∧ W.cell? ⟨w.heap.size + 3, 0, none⟩ = some vs

theorem countI_own (w : World) (vs vf : Value) {α : Type} (f : α → Int) (B : Nat) : OwnFrom B (fun (s : α) W => CountI w vs vf (f s) W) :=
  Own.from (fun _ _ _ _ hs hg hr => ⟨cell_kept hs.1 hg hr, (frozen_kept hs.1 hg hr).trans hs.2.1, cell_kept hs.2.2.1 hg hr, cell_kept hs.2.2.2.1 hg hr, cell_kept hs.2.2.2.2 hg hr⟩) _

theorem CountI.below {w W W3 : World} {vs vf : Value} {p : Int} (h : CountI w vs vf p W) (hb : Below W.heap.size W W3) : CountI w vs vf p W3 :=
  ⟨cellB hb h.1, (hb.frozen (p := ⟨w.heap.size + 2, 0, none⟩) (World.block_lt_of_cell? W _ h.1)).trans h.2.1, cellB hb h.2.2.1, cellB hb h.2.2.2.1, cellB hb h.2.2.2.2⟩

theorem cell_set_far {W : World} {a b : Nat} {u v : Value} (h : W.cell? ⟨a, 0, none⟩ = some v) (hne : a ≠ b) : (W.setCell ⟨b, 0, none⟩ u).cell? ⟨a, 0, none⟩ = some v :=
  (World.cell?_of_block (a := ⟨a, 0, none⟩) (heap_setCell_other W ⟨b, 0, none⟩ a u hne)).trans h

theorem CountI.set {w W : World} {vs vf : Value} {p : Int} (h : CountI w vs vf p W) (q : Int) : CountI w vs vf q (W.setCell ⟨w.heap.size + 2, 0, none⟩ (.int .i64 q)) :=
  ⟨World.cell?_setCell_same' _ _ _ (by rw [h.1]; rfl), by rw [World.frozen?_setCell]; exact h.2.1, cell_set_far h.2.2.1 (by omega), cell_set_far h.2.2.2.1 (by omega), cell_set_far h.2.2.2.2 (by omega)⟩

/-- A round that multiplies. -/
theorem count_round {B : Nat} {w W W3 : World} {vs vf : Value} {p q : Int} (h : CountI w vs vf p W) (hB : Below w.heap.size w W) (hb : Below W.heap.size W W3) :
    KeepsFrom B W (W3.setCell ⟨w.heap.size + 2, 0, none⟩ (.int .i64 q)).drew ∧ KpW w.heap.size (w.heap.size + 3) W (W3.setCell ⟨w.heap.size + 2, 0, none⟩ (.int .i64 q)).drew ∧
      CountI w vs vf q (W3.setCell ⟨w.heap.size + 2, 0, none⟩ (.int .i64 q)).drew ∧ Below w.heap.size w (W3.setCell ⟨w.heap.size + 2, 0, none⟩ (.int .i64 q)).drew := by
  have h3 := (h.below hb).set q
  have hb2 : Below w.heap.size W (W3.setCell ⟨w.heap.size + 2, 0, none⟩ (.int .i64 q)).drew := ((hb.mono hB.size).setCell (p := ⟨w.heap.size + 2, 0, none⟩) (by simp) _).trans (Below.drew (Below.refl _ _))
  refine ⟨((keepsFrom_of_below hb).trans ((KeepsOthers.setCell _ _ _).from _)).trans ((KeepsOthers.drew _).from _), ⟨hb2, ?_⟩, h3, hB.trans hb2⟩
  show (W3.setCell ⟨w.heap.size + 2, 0, none⟩ (.int .i64 q)).heap[w.heap.size + 3]? = _
  rw [heap_setCell_other W3 ⟨w.heap.size + 2, 0, none⟩ (w.heap.size + 3) _ (by simp)]
  exact hb.block _ (World.block_lt_of_cell? W _ h.2.2.2.2)

/-- A round that leaves the product. -/
theorem count_skip {B : Nat} {w W W3 : World} {vs vf : Value} {p : Int} (h : CountI w vs vf p W) (hB : Below w.heap.size w W) (hb : Below W.heap.size W W3) :
    KeepsFrom B W W3 ∧ KpW w.heap.size (w.heap.size + 3) W W3 ∧ CountI w vs vf p W3 ∧ Below w.heap.size w W3 :=
  ⟨keepsFrom_of_below hb, ⟨hb.mono hB.size, hb.block _ (World.block_lt_of_cell? W _ h.2.2.2.2)⟩, h.below hb, hB.trans (hb.mono hB.size)⟩

set_option maxRecDepth 100000 in
set_option maxHeartbeats 4000000 in
theorem count0_c (w : World) (vl : Value) (l : List Sig) (hK : Keys w) (hl : IsSigs w vl l) :
    Calls Tryd.prog 59 #[vl, .func (.func 60) #[] #[]] w (Calm (.int .i64 (if validS l then prodC (fun _ => true) l else 0)) w) := by
  have hlx := hl
  obtain ⟨ao, cap, b, off, rfl, hl⟩ := hl
  have hn := hl.nb
  cases hv : validS l
  · go_enter Tryd.func59, Tryd.ntmps59
    go_wp2_with fail
    refine (SValid_c _ _ l (hK.below (by repeat (first | exact Below.refl _ _ | assumption | (refine belA ?_ _) | (refine belD ?_ _)))) (hlx.below (by repeat (first | exact Below.refl _ _ | assumption | (refine belA ?_ _) | (refine belD ?_ _))))).mono ?_
    rintro e w1 ⟨rfl, n, rfl⟩
    rw [hv]
    go_wp2
    go_ret
    exact ⟨rfl, belD (by repeat (first | exact Below.refl _ _ | assumption | (refine belA ?_ _) | (refine belD ?_ _))) _⟩
  have hV : Hid (∀ W, Below w.heap.size w W → Calls Tryd.prog 39 #[.slice ao l.length cap] W (Quiet (.bool true) W)) := fun W hW => by
    have := SValid_c W _ l (hK.below hW) (hlx.below hW)
    rwa [hv] at this
  refine callsIn_wide (n := 5) |>.1 ?_
  refine callsIn_of_wp_marks Tryd.func59 rfl trivial ?_
  simp only [Tryd.ntmps59, List.size_toArray, List.length_cons, List.length_nil, Nat.reduceAdd, Nat.reduceSub, Array.replicate_succ, Array.replicate_zero, List.push_toArray, List.append_toArray, List.nil_append, List.cons_append]
  gi_wp2_with fail
  refine ⟨trivial, ?_⟩
  refine (callsIn_wide.2 (hV.out _ (by repeat (first | exact Below.refl _ _ | assumption | (refine belA ?_ _) | (refine belD ?_ _))))).mono ?_
  rintro e w1 ⟨rfl, n1, hw1⟩
  have hB1 : Below w.heap.size w w1 := by rw [hw1]; exact belD (by repeat (first | exact Below.refl _ _ | assumption | (refine belA ?_ _) | (refine belD ?_ _))) _
  have hz1 : w1.heap.size = w.heap.size + 2 := by rw [hw1]; simp [World.drewN]
  have c0 : w1.cell? ⟨w.heap.size, 0, none⟩ = some (.slice ao l.length cap) := by rw [hw1]; exact cellD n1 (cellB (bel_box _) (new1 w _ _))
  have c1 : w1.cell? ⟨w.heap.size + 1, 0, none⟩ = some (.func (.func 60) #[] #[]) := by rw [hw1]; have := new1 (w.alloc (.cells #[.slice ao l.length cap] 22)) (.func (.func 60) #[] #[]) 89; rwa [World.size_alloc] at this
  clear hw1
  gi_wp2_with fail
  refine ⟨trivial, ?_⟩
  refine (callsIn_wide.2 (weights_c _ _ _ _)).mono ?_
  rintro e w2 ⟨rfl, hw2⟩
  gi_wp2_with fail
  rw [← hw2]
  have hB2 : Below w.heap.size w w2 := by rw [hw2]; exact hB1.trans ((((Below.refl _ w1).alloc (Nat.le_refl _) _).alloc (by simp) _).mono (by omega))
  have hz2 : w2.heap.size = w.heap.size + 4 := by rw [hw2]; simp [hz1]
  have e0 : w2.cell? ⟨w.heap.size, 0, none⟩ = some (.slice ao l.length cap) := by rw [hw2]; exact cellB (bel_box _) (cellB (bel_box _) c0)
  have e1 : w2.cell? ⟨w.heap.size + 1, 0, none⟩ = some (.func (.func 60) #[] #[]) := by rw [hw2]; exact cellB (bel_box _) (cellB (bel_box _) c1)
  have en := new1 w1 (.int .i64 1) 3
  have e2 : w2.cell? ⟨w.heap.size + 2, 0, none⟩ = some (.int .i64 1) := by rw [hw2, ← hz1]; exact cellB (bel_box _) en
  have f2 : w2.frozen? ⟨w.heap.size + 2, 0, none⟩ = false := by rw [hw2, ← hz1]; exact ((bel_box _).frozen (p := ⟨w1.heap.size, 0, none⟩) (by simp)).trans (newF w1 _ _)
  have e3 : w2.cell? ⟨w.heap.size + 3, 0, none⟩ = some (.slice ao l.length cap) := by
    have := new1 (w1.alloc (.cells #[.int .i64 1] 3)) (.slice ao l.length cap) 22
    rw [World.size_alloc, hz1] at this
    rw [hw2]; exact this
  have hvx := hv
  simp only [validS, Bool.and_eq_true, decide_eq_true_eq] at hvx
  obtain ⟨⟨⟨hl1, hl6⟩, hA⟩, -⟩ := hvx
  have hsz : ∀ s ∈ l, sizeB s = true := fun s hs => allB_mem hA (Nat.le_refl _) s (by rwa [List.take_length])
  have hb : b < w.heap.size := by
    have := World.block_lt_of_cell? w _ (hl.nn 0 (by omega))
    exact this
  have hmx : Tryd.prog.follows .mixedOrders = true := by kernel_rfl
  clear hA c0 c1 en hw2 hB1 hz1
  refine wpIn_rangeFunc_ownG rfl (by omega) (gf := 78) (lb := #[.pointer (some ⟨w.heap.size + 2 + 1, 0, none⟩)]) rfl trivial (enters_of Tryd.func78 (by kernel_rfl) rfl)
    (weights_stops Fence.wide (5 - 1) trivial rfl (by omega) (w.heap.size + 3) w.heap.size b off cap ao l hv hb w2 (by omega) (by omega) e3 (hl.below hB2)) KpW.trans (KpW.put (by omega) (by omega)) (Below.refl _ _) (fun _ => rfl)
    (fun pre W => CountI w (.slice ao l.length cap) (.func (.func 60) #[] #[]) (prodF (fun _ => true) l pre) W ∧ Below w.heap.size w W)
    (fun _ _ _ => False)
    (OwnFrom.and (countI_own w _ _ (prodF (fun _ => true) l) _) (ownFrom_below (Nat.le_refl _) (by omega)))
    (fun _ _ _ _ _ hs _ _ => hs)
    ⟨⟨e2, f2, e0, e1, e3⟩, hB2⟩
    (fun x => { tmps := #[.slice ao l.length cap, .func (.func 60) #[] #[], .pointer (some ⟨w.heap.size, 0, none⟩), .pointer (some ⟨w.heap.size + 1, 0, none⟩), .int .i64 0, .pointer (some ⟨w.heap.size + 2, 0, none⟩), .int .i64 ((x : Nat) : Int), .slice ao l.length cap, .bool true, .bool false, .slice ao l.length cap, .func (.func 78) #[] #[.pointer (some ⟨w.heap.size + 2 + 1, 0, none⟩)], .int .i64 ((x : Nat) : Int), .int .i64 (prodL (l.take x)), undef, undef, undef, undef, undef, undef, undef, undef, undef, undef, undef, undef, undef, undef], defers := [] }) ?assign ?body ?done ?stop
  case assign =>
    intro lY x W K hK
    unfold encW
    gi_wp2
    exact hK
  case body =>
    rintro lY pre x W ⟨hI, hB⟩ hpl
    obtain ⟨q2, g2, q0, q1, -⟩ := id hI
    have hd : 1 ≤ 5 - 1 - 1 := by omega
    have hlW := hl.below hB
    obtain ⟨x, hx⟩ := x
    have n0 := hlW.nn x hx
    have n1 := hlW.ni x hx
    have n2 := hlW.nz x hx
    obtain rfl := hl.ad (by omega)
    have hch : ∀ W : World, Calls Tryd.prog 60 #[.agg #[.string l[x].name, .bool l[x].inp, .int .i64 l[x].size]] W (Calm (.bool true) W) := fun W => ch0_c W l[x]
    have HCH := Lib.hid hch
    clear hch hlx hK hV hn
    gi_upto_region 6 with (fail)
    gi_cut [19] from 14 (fun v wx => ∃ W3 : World, W3 = wx ∧ v = .bool true ∧ Below W.heap.size W W3)
    case first =>
      gi_region_with_o (refine ⟨trivial, ?_⟩; gi_at_call 60; refine (CallsIn.inRound lY (callsIn_wide.2 (HCH.out _))).mono ?_; rintro e W3 ⟨rfl, hb3⟩)
      all_goals gi_wp2_with fail
      all_goals
        gi_meet
        case rel => exact ⟨_, rfl, rfl, (Below.drew (Below.refl _ _)).trans hb3⟩
    case rest =>
      obtain ⟨W3, rfl, rfl, hb3⟩ := hcut
      have hsx := hsz _ (List.getElem_mem hx)
      obtain ⟨hp1, hp2⟩ := prodF_bd (ch := fun _ => true) hsz pre
      have hp3 : prodF (fun _ => true) l pre ≤ 4096 := Int.le_trans hp2 (pow4 (by omega))
      simp only [sizeB, Bool.and_eq_true, decide_eq_true_eq] at hsx
      obtain ⟨hs1, hs2⟩ := hsx
      have hpw := prod_wrap hp1 hp3 hs1 hs2
      have HSN : Hid (prodF (fun _ => true) l (pre ++ [⟨x, hx⟩]) = prodF (fun _ => true) l pre * l[x].size) := prodF_snoc _ _ _ _
      have r2 := cellB hb3 q2
      have r0 := cellB hb3 q0
      have m2 := cellB hb3 n2
      have g3 : W3.frozen? ⟨w.heap.size + 2, 0, none⟩ = false := (hb3.frozen (p := ⟨w.heap.size + 2, 0, none⟩) (World.block_lt_of_cell? W _ q2)).trans g2
      have r1 := cellB hb3 q1
      have HI := Lib.hid hI
      clear q2 q0 q1 n0 n1 n2 g2 e0 e1 e2 e3 f2 HCH hp2 hlW hI
      generalize prodF (fun _ => true) l pre = pp at *
      gi_wp2
      gi_region_with_o (fail)
      all_goals gi_wp2
      all_goals
        have hr := count_round (B := w2.heap.size) (q := pp * l[x].size) HI.out hB hb3
        exact ⟨hr.1, hr.2.1, by rw [HSN.out]; exact hr.2.2.1, hr.2.2.2⟩
  case done =>
    rintro D ys W hD rfl ⟨⟨q2, g2, q0, q1, -⟩, hB⟩ hK
    gi_wp2
    refine ⟨by simp, .inl ⟨_, _, rfl, run_takeDeferred hK, ?_⟩⟩
    exact ⟨_, results_tmp rfl _ _ _, by simp [prodF_all], hB.trans (belowK_b (w := w) (Nat.le_refl _) W D _ _ (by omega) hK rfl rfl)⟩
  case stop =>
    rintro D c pre W _ _ h _
    exact h.elim

theorem prodC_snoc (ch : Sig → Bool) (l : List Sig) (s : Sig) : prodC ch (l ++ [s]) = if ch s then prodC ch l * s.size else prodC ch l := by
  induction l with
  | nil => simp only [List.nil_append, prodC]; split <;> simp
  | cons a l ih =>
    simp only [List.cons_append, prodC, ih]
    split <;> split <;> simp [Int.mul_assoc]

theorem prodC_take {ch : Sig → Bool} {l : List Sig} {k : Nat} (h : k < l.length) : prodC ch (l.take (k + 1)) = if ch l[k] then prodC ch (l.take k) * l[k].size else prodC ch (l.take k) := by
  rw [List.take_succ_eq_append_getElem h, prodC_snoc]

theorem prodC_bd (ch : Sig → Bool) (l : List Sig) (h : ∀ s ∈ l, sizeB s = true) : 1 ≤ prodC ch l ∧ prodC ch l ≤ 4 ^ l.length := by
  induction l with
  | nil => simp [prodC]
  | cons a l ih =>
    obtain ⟨h1, h2⟩ := ih (fun s hs => h s (List.mem_cons_of_mem _ hs))
    have ha := h a List.mem_cons_self
    simp only [sizeB, Bool.and_eq_true, decide_eq_true_eq] at ha
    rw [prodC, List.length_cons, Int.pow_succ]
    have h3 := Int.mul_le_mul ha.2 h2 (by omega) (by omega)
    have h4 := Int.mul_le_mul (show (1 : Int) ≤ a.size by omega) h1 (by omega) (by omega)
    have h5 : (4 : Int) * 4 ^ l.length = 4 ^ l.length * 4 := Int.mul_comm _ _
    split <;> omega

theorem prodC_both (l : List Sig) : prodC (fun s => s.inp) l * prodC (fun s => !s.inp) l = prodL l := by
  induction l with
  | nil => rfl
  | cons a l ih =>
    simp only [prodC, prodL, ← ih]
    rcases Bool.eq_false_or_eq_true a.inp with h | h
    · rw [if_pos h, if_neg (by rw [h]; simp), Int.mul_assoc]
    · rw [if_neg (by rw [h]; simp), if_pos (by rw [h]; rfl), Int.mul_left_comm]

theorem prodC_true (l : List Sig) : prodC (fun _ => true) l = prodL l := by
  induction l with
  | nil => rfl
  | cons a l ih => simp [prodC, prodL, ih]

theorem prod_wrap' {p z : Int} (h1 : 1 ≤ p) (h2 : p ≤ 4096) (h3 : 2 ≤ z) (h4 : z ≤ 4) : IntKind.i64.wrap (p * z) = p * z := by
  refine IntWalk.i64_in _ ⟨?_, ?_⟩
  · have := Int.mul_nonneg (show 0 ≤ p by omega) (show 0 ≤ z by omega); omega
  · have := Int.mul_le_mul h2 h4 (by omega) (by omega); omega

def sideI (l : List Sig) (b : Bool) : Int := if validS l then prodC (fun s => s.inp == b) l else 0

theorem valid_sizes {l : List Sig} (h : validS l = true) : (∀ s ∈ l, sizeB s = true) ∧ 1 ≤ l.length ∧ l.length ≤ 6 ∧ prodL l ≤ 64 := by
  simp only [validS, Bool.and_eq_true, decide_eq_true_eq] at h
  exact ⟨fun s hs => allB_mem h.1.2 (Nat.le_refl _) s (by rwa [List.take_length]), h.1.1.1, h.1.1.2, h.2⟩

set_option maxRecDepth 100000 in
set_option maxHeartbeats 4000000 in
theorem side_c (w : World) (vl : Value) (l : List Sig) (q : Bool) (hl : IsSigs w vl l) : Calls Tryd.prog 49 #[vl, .bool q] w (Calm (.int .i64 (sideI l q)) w) := by
  have hlx := hl
  obtain ⟨ao, cap, b, off, rfl, hl⟩ := hl
  have hn := hl.nb
  have HS : Hid (∀ c, validS l = c → sideI l q = if c then prodC (fun s => s.inp == q) l else 0) := fun c h => by unfold sideI; rw [h]
  cases hv : validS l
  · go_enter Tryd.func49, Tryd.ntmps49
    go_wp2_with fail
    refine (RSValid_c _ _ l hlx).mono ?_
    rintro e w1 ⟨rfl, hb⟩
    rw [hv]
    go_wp2
    go_ret
    exact ⟨ret_int (by rw [HS.out _ hv]; rfl), hb⟩
  obtain ⟨hz, hl1, hl6, -⟩ := valid_sizes hv
  have HZ := Lib.hid hz
  have HV := Lib.hid hv
  clear hz hv
  go_enter Tryd.func49, Tryd.ntmps49
  go_wp2_with fail
  refine (RSValid_c _ _ l hlx).mono ?_
  rintro e w1 ⟨rfl, hb⟩
  rw [HV.out]
  go_wp2
  go_loop [5, 6] (fun p i => ∃ k : Nat, i = .int .i64 k ∧ p = .int .i64 (prodC (fun s => s.inp == q) (l.take k)) ∧ k ≤ l.length) (fun _ i => l.length - (intOf i).toNat)
  case atStart => exact ⟨0, rfl, rfl, by omega⟩
  case round =>
    obtain ⟨k, rfl, rfl, hk⟩ := hrel
    by_cases hlt : k < l.length
    · obtain rfl := hl.ad (by omega)
      have c1 := cellB hb (hl.ni k hlt)
      have c2 := cellB hb (hl.nz k hlt)
      obtain ⟨hp1, hp2⟩ := prodC_bd (fun s => s.inp == q) (l.take k) (fun s hs => HZ.out s (List.mem_of_mem_take hs))
      have hp3 : prodC (fun s => s.inp == q) (l.take k) ≤ 4096 := Int.le_trans hp2 (pow4 (by rw [List.length_take]; omega))
      have hsz := HZ.out _ (List.getElem_mem hlt)
      simp only [sizeB, Bool.and_eq_true, decide_eq_true_eq] at hsz
      obtain ⟨hs1, hs2⟩ := hsz
      have hpw := prod_wrap' hp1 hp3 hs1 hs2
      have HT := Lib.hid (prodC_take (ch := fun s => s.inp == q) hlt)
      clear hp2
      generalize prodC (fun s => s.inp == q) (l.take k) = pp at *
      cases hq : (l[k].inp == q)
      · go_wp2
        go_round
        case rel => exact ⟨k + 1, by go_num, by rw [HT.out, hq]; rfl, by omega⟩
        case measure => simp [intOf]; omega
      · go_wp2
        go_round
        case rel => exact ⟨k + 1, by go_num, by rw [HT.out, hq]; first | rfl | (rw [hpw]; rfl), by omega⟩
        case measure => simp [intOf]; omega
    · obtain rfl : k = l.length := by omega
      rw [List.take_length]
      go_wp2
      go_ret
      exact ⟨ret_int (by rw [HS.out _ HV.out]; rfl), hb⟩

end Go.Proofs.YtjadeffdcbchnaaDoor
