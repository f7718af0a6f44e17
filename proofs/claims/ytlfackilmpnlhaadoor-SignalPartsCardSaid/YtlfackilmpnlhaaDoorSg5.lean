/- The iterator over the weights of signals: its contract. -/
import Derived.RangeFuncNested
import Derived.RangeFuncBound
import Derived.RangeFuncCalls
import Derived.RangeFuncLeaves
import Derived.Shelf.Abstract
import Derived.Shelf.RegionOpen
import Derived.OwnWalkIn
import Derived.TacticsInMore
import Derived.LoopNIn
import Derived.LoopIn
import Derived.Test.YtlfackilmpnlhaaDoorSg4
namespace Go.Proofs.YtlfackilmpnlhaaDoor
open Go.RowKit Go.Shelf
attribute [local go_sem] Oper.semAt_some

/-- What a round keeps: what lay below n₀, and the block of the iterator's slice. -/
def KpW (n₀ Bs : Nat) (W W' : World) : Prop := Below n₀ W W' ∧ W'.heap[Bs]? = W.heap[Bs]?

theorem KpW.trans {n₀ Bs : Nat} {A B C : World} (h : KpW n₀ Bs A B) (k : KpW n₀ Bs B C) : KpW n₀ Bs A C := ⟨h.1.trans k.1, k.2.trans h.2⟩
theorem KpW.refl (n₀ Bs : Nat) (A : World) : KpW n₀ Bs A A := ⟨Below.refl _ _, rfl⟩
theorem KpW.put {n₀ Bs : Nat} {w : World} (hn : n₀ ≤ w.heap.size) (hB : Bs < w.heap.size) (W : World) (l : Nat) (o o' : Obj) (hl : w.heap.size ≤ l) (h : W.heap[l]? = some o) (h1 : o.isCells = false) (h2 : o.isWalk = false) : KpW n₀ Bs W (W.putObj l o') :=
  ⟨belowK_b hn W l o o' hl h h1 h2, (grownBy_putObj' W l o').block Bs (by have := (Array.getElem?_eq_some_iff.1 h).1; omega) (by simp; omega)⟩

theorem cellN {n₀ : Nat} {w wr : World} {a : Addr} {v : Value} (hb : Below n₀ w wr) (ha : a.block < n₀) (h : w.cell? a = some v) : wr.cell? a = some v := (hb.cell ha).trans h

theorem SArr.belowN {n₀ : Nat} {w wr : World} {ao : Option Addr} {cap b off : Nat} {l : List Sig} (h : SArr w ao cap b off l) (hb : Below n₀ w wr) (hn : 0 < l.length → b < n₀) : SArr wr ao cap b off l :=
  { h with
    nn := fun j hj => cellN hb (hn (by omega)) (h.nn j hj)
    ni := fun j hj => cellN hb (hn (by omega)) (h.ni j hj)
    nz := fun j hj => cellN hb (hn (by omega)) (h.nz j hj) }

/-- The places of n things. -/
def allF (n : Nat) : List (Fin n) := List.finRange n
theorem allF_len (n : Nat) : (allF n).length = n := by simp [allF]
theorem allF_take {n k : Nat} (h : k < n) : (allF n).take (k + 1) = (allF n).take k ++ [⟨k, h⟩] := by
  rw [List.take_succ_eq_append_getElem (by rw [allF_len]; exact h)]
  congr 2
  simp [allF]

/-- The index and the weight that the iterator hands on. -/
def encW (l : List Sig) (x : Fin l.length) : Array Value := #[.int .i64 ((x : Nat) : Int), .int .i64 (prodL (l.take x))]

set_option maxRecDepth 100000 in
set_option maxHeartbeats 4000000 in
theorem weights1_in (F : Fence) (n : Nat) (h7 : F.fn 47) (hro : F.round = none) (hn : 1 ≤ n) (lY Bs n₀ b off cap : Nat) (ao : Option Addr) (l : List Sig) (hv : validS l = true) (hb : b < n₀) (J Jx : List (Fin l.length) → World → Prop)
    (hY : ∀ pre x W, J pre W → pre.length < l.length → YieldAt F (n - 1) Tryd.prog lY (encW l x) W fun e W' =>
      (e = .returned (.bool true) ∧ J (pre ++ [x]) W' ∧ KpW n₀ Bs W W') ∨ (e = .returned (.bool false) ∧ Jx (pre ++ [x]) W'))
    (W : World) (hBs : W.cell? ⟨Bs, 0, none⟩ = some (.slice ao l.length cap)) (hl : SArr W ao cap b off l) (h0 : J [] W) :
    CallsIn F n Tryd.prog 47 #[.func (.yield lY) #[] #[], .pointer (some ⟨Bs, 0, none⟩)] W fun e W' => (∃ v, e = .returned v) ∧
      ((∃ ys, ys = allF l.length ∧ J ys W') ∨ (∃ pre, (∃ k, k ≤ l.length ∧ pre = (allF l.length).take k) ∧ Jx pre W')) := by
  have hnb := hl.nb
  have hvx := hv
  simp only [validS, Bool.and_eq_true, decide_eq_true_eq] at hvx
  obtain ⟨⟨⟨hl1, hl6⟩, hA⟩, hP⟩ := hvx
  have HA := Lib.hid hA
  have h6i : (l.length : Int) ≤ 6 := by omega
  clear hA hP hv
  refine callsIn_of_wp Tryd.func47 rfl h7 ?_ hro
  simp only [Tryd.ntmps47, List.size_toArray, List.length_cons, List.length_nil, Nat.reduceAdd, Nat.reduceSub, Array.replicate_succ, Array.replicate_zero, List.push_toArray, List.append_toArray, List.nil_append, List.cons_append]
  gi_wp2
  gi_loopw [3, 7] (fun wt i wr => ∃ k : Nat, k ≤ l.length ∧ i = .int .i64 k ∧ wt = .int .i64 (prodL (l.take k)) ∧ J ((allF l.length).take k) wr ∧ KpW n₀ Bs W wr)
    (fun _ i _ => l.length - (intOf i).toNat)
  case atStart => exact ⟨0, Nat.zero_le _, rfl, rfl, h0, KpW.refl _ _ _⟩
  case round =>
    obtain ⟨k, hk, rfl, rfl, hJs, hnx⟩ := hrel
    by_cases hlt : k < l.length
    · obtain ⟨fn, tmps, assign, body, hy, hR⟩ := hY _ ⟨k, hlt⟩ wr hJs (by rw [List.length_take, allF_len]; omega)
      dsimp only [encW] at hy
      have hAk : allB l k = true := by
        rw [allB, List.all_eq_true]
        intro j hj
        exact List.all_eq_true.1 HA.out j (List.mem_range.2 (by have := List.mem_range.1 hj; omega))
      have hsB : sizeB l[k] = true := by
        have := List.all_eq_true.1 HA.out k (List.mem_range.2 hlt)
        simp only [sigB, Bool.and_eq_true] at this
        have e := this.1.2
        rwa [getD_lt _ _ _ hlt] at e
      obtain ⟨⟨hp1, hp2⟩, hpw⟩ := prod_step hAk hlt hl6 hsB
      simp only [sizeB, Bool.and_eq_true, decide_eq_true_eq] at hsB
      obtain ⟨hs1, hs2⟩ := hsB
      have HPW := Lib.hid hpw
      clear hpw hAk
      generalize prodL (l.take k) = pr at *
      obtain rfl := hl.ad (by omega)
      gi_wp2
      refine hR.mono ?_
      rintro e W3 (⟨rfl, hJ3, hk3⟩ | ⟨rfl, hJx3⟩)
      · have hk4 := hnx.trans hk3
        have hB3 : W3.cell? ⟨Bs, 0, none⟩ = some (.slice (some ⟨b, off, none⟩) l.length cap) := (World.cell?_of_block (a := ⟨Bs, 0, none⟩) hk4.2).trans hBs
        have c2 := (hl.belowN hk4.1 (fun _ => hb)).nz k hlt
        have hpw := HPW.out
        gi_wp2
        go_roundw
        case rel => exact ⟨k + 1, by omega, by go_num, by first | rw [HPW.out] | rfl, by rw [allF_take hlt]; exact hJ3, hk4⟩
        case measure => simp [intOf]; omega
      · gi_wp2
        refine bodyPost_ret (results_none rfl _ _ _) rfl ?_
        exact ⟨⟨_, rfl⟩, .inr ⟨_, ⟨k + 1, by omega, (allF_take hlt).symm⟩, hJx3⟩⟩
    · obtain rfl : k = l.length := by omega
      gi_wp2
      go_end0
      exact ⟨⟨_, rfl⟩, .inl ⟨_, rfl, by rw [List.take_of_length_le (by rw [allF_len]; exact Nat.le_refl _)] at hJs; exact hJs⟩⟩

theorem weights_c (w : World) (ao : Option Addr) (n cap : Nat) :
    Calls Tryd.prog 36 #[.slice ao n cap] w fun e w' => e = .returned (.func (.func 47) #[] #[.pointer (some ⟨w.heap.size, 0, none⟩)]) ∧ w' = w.alloc (.cells #[.slice ao n cap] 22) := by
  go_enter Tryd.func36, Tryd.ntmps36
  go_wp2
  go_ret
  exact ⟨rfl, rfl⟩

theorem weights_stops (F : Fence) (n : Nat) (h7 : F.fn 47) (hro : F.round = none) (hn : 1 ≤ n) (Bs n₀ b off cap : Nat) (ao : Option Addr) (l : List Sig) (hv : validS l = true) (hb : b < n₀) (w : World) (hBl : Bs < w.heap.size) (hn₀ : n₀ ≤ w.heap.size)
    (hBs : w.cell? ⟨Bs, 0, none⟩ = some (.slice ao l.length cap)) (hl : SArr w ao cap b off l) :
    SeqStopsK F n Tryd.prog 47 #[.pointer (some ⟨Bs, 0, none⟩)] (encW l) (KpW n₀ Bs) (fun ys => ys = allF l.length) (fun pre => ∃ k, k ≤ l.length ∧ pre = (allF l.length).take k) l.length w := fun lY J Jx W hW _ _ hY h0 =>
  weights1_in F n h7 hro hn lY Bs n₀ b off cap ao l hv hb J Jx hY W ((hW.cell (p := ⟨Bs, 0, none⟩) hBl).trans hBs) (hl.below hW) h0

/-- A signal as a value. -/
def sigV (s : Sig) : Value := .agg #[.string s.name, .bool s.inp, .int .i64 s.size]

theorem ch0_c (W : World) (s : Sig) : Calls Tryd.prog 40 #[sigV s] W (Calm (.bool true) W) := by
  unfold sigV
  go_enter Tryd.func40, Tryd.ntmps40
  go_wp2
  go_ret
  exact ⟨rfl, (by repeat (first | exact Below.refl _ _ | assumption | (refine belA ?_ _) | (refine belD ?_ _)))⟩
theorem ch1_c (W : World) (s : Sig) : Calls Tryd.prog 41 #[sigV s] W (Calm (.bool s.inp) W) := by
  unfold sigV
  go_enter Tryd.func41, Tryd.ntmps41
  go_wp2
  go_ret
  exact ⟨rfl, (by repeat (first | exact Below.refl _ _ | assumption | (refine belA ?_ _) | (refine belD ?_ _)))⟩
theorem ch2_c (W : World) (s : Sig) : Calls Tryd.prog 43 #[sigV s] W (Calm (.bool (!s.inp)) W) := by
  unfold sigV
  go_enter Tryd.func43, Tryd.ntmps43
  go_wp2
  go_ret
  exact ⟨rfl, (by repeat (first | exact Below.refl _ _ | assumption | (refine belA ?_ _) | (refine belD ?_ _)))⟩

/-- The product of the sizes of the signals that are chosen. -/
def prodC (ch : Sig → Bool) : List Sig → Int
  | [] => 1
  | s :: r => if ch s then s.size * prodC ch r else prodC ch r

/-- The same, of the places that have come. -/
def prodF (ch : Sig → Bool) (l : List Sig) (pre : List (Fin l.length)) : Int := pre.foldl (fun p x => if ch l[x] then p * l[x].size else p) 1

theorem prodF_snoc (ch : Sig → Bool) (l : List Sig) (pre : List (Fin l.length)) (x : Fin l.length) : prodF ch l (pre ++ [x]) = if ch l[x] then prodF ch l pre * l[x].size else prodF ch l pre := by simp [prodF]

theorem prodF_bd {ch : Sig → Bool} {l : List Sig} (h : ∀ s ∈ l, sizeB s = true) (pre : List (Fin l.length)) : 1 ≤ prodF ch l pre ∧ prodF ch l pre ≤ 4 ^ pre.length := by
  have key : ∀ (n : Nat) (pre : List (Fin l.length)), pre.length = n → 1 ≤ prodF ch l pre ∧ prodF ch l pre ≤ 4 ^ pre.length := by
    intro n
    induction n with
    | zero => intro pre hp; rw [List.eq_nil_of_length_eq_zero hp]; simp [prodF]
    | succ n ih =>
      intro pre hp
      have hne : pre ≠ [] := by intro e; rw [e] at hp; simp at hp
      rw [← List.dropLast_concat_getLast hne]
      obtain ⟨h1, h2⟩ := ih pre.dropLast (by simp [hp])
      have hs := h l[pre.getLast hne] (List.getElem_mem _)
      simp only [sizeB, Bool.and_eq_true, decide_eq_true_eq] at hs
      rw [prodF_snoc, List.length_append, List.length_singleton, Int.pow_succ]
      split
      · refine ⟨?_, Int.mul_le_mul h2 hs.2 (by omega) (by omega)⟩
        have := Int.mul_le_mul h1 (show (1 : Int) ≤ l[pre.getLast hne].size by omega) (by omega) (by omega)
        omega
      · omega
  exact key _ pre rfl

theorem prodF_take (ch : Sig → Bool) (l : List Sig) (k : Nat) (hk : k ≤ l.length) : prodF ch l ((allF l.length).take k) * prodC ch (l.drop k) = prodC ch l := by
  induction k with
  | zero => simp [prodF]
  | succ k ih =>
    have h := ih (by omega)
    rw [drop_cons l k (by omega)] at h
    rw [allF_take (by omega), prodF_snoc, ← h]
    simp only [prodC, Fin.getElem_fin]
    split
    · rw [Int.mul_assoc]
    · rfl

theorem prodF_all (ch : Sig → Bool) (l : List Sig) : prodF ch l (allF l.length) = prodC ch l := by
  have := prodF_take ch l l.length (Nat.le_refl _)
  rw [List.take_of_length_le (by rw [allF_len]; exact Nat.le_refl _), List.drop_length, prodC, Int.mul_one] at this
  exact this

end Go.Proofs.YtlfackilmpnlhaaDoor
