/- The iterator over the places that follow one: its contract. -/
import Derived.RangeFuncNested
import Derived.RangeFuncBound
import Derived.RangeFuncCalls
import Derived.RangeFuncLeaves
import Derived.Shelf.Abstract
import Derived.Shelf.RegionOpen
import Derived.OwnWalkIn
import Derived.TacticsInMore
import Derived.LoopNIn
import Derived.LoopIn
import Derived.Test.YtjadeffdcbchnaaDoorAr7
import Derived.Test.YtjadeffdcbchnaaDoorArRI
namespace Go.Proofs.YtjadeffdcbchnaaDoor
open Go.RowKit Go.Shelf
attribute [local go_sem] Oper.semAt_some

/-- The places that follow one. -/
def succPl (a : Au) (T : List (List Int)) (y : Pl) : List Pl :=
  if y.inn < 0 then (List.range T.length).map fun (i : Nat) => ⟨y.st, (i : Int), -1⟩
  else (T.getD y.inn.toNat []).map fun v => ⟨(a.next.getD y.st.toNat []).getD v.toNat 0, -1, (a.prio.getD y.st.toNat []).getD v.toNat 0⟩

/-- What a round keeps: what lay below n₀, and the blocks of the place and of the board. -/
def KpN (n₀ Bp Bb : Nat) (W W' : World) : Prop := Below n₀ W W' ∧ W'.heap[Bp]? = W.heap[Bp]? ∧ W'.heap[Bb]? = W.heap[Bb]?
theorem KpN.trans {n₀ Bp Bb : Nat} {A B C : World} (h : KpN n₀ Bp Bb A B) (k : KpN n₀ Bp Bb B C) : KpN n₀ Bp Bb A C := ⟨h.1.trans k.1, k.2.1.trans h.2.1, k.2.2.trans h.2.2⟩
theorem KpN.refl (n₀ Bp Bb : Nat) (A : World) : KpN n₀ Bp Bb A A := ⟨Below.refl _ _, rfl, rfl⟩
theorem KpN.put {n₀ Bp Bb : Nat} {w : World} (hn : n₀ ≤ w.heap.size) (hB : Bp < w.heap.size) (hC : Bb < w.heap.size) (W : World) (l : Nat) (o o' : Obj) (hl : w.heap.size ≤ l) (h : W.heap[l]? = some o) (h1 : o.isCells = false) (h2 : o.isWalk = false) : KpN n₀ Bp Bb W (W.putObj l o') :=
  ⟨belowK_b hn W l o o' hl h h1 h2, (grownBy_putObj' W l o').block Bp (by have := (Array.getElem?_eq_some_iff.1 h).1; omega) (by simp; omega), (grownBy_putObj' W l o').block Bb (by have := (Array.getElem?_eq_some_iff.1 h).1; omega) (by simp; omega)⟩
theorem KpN.of_below {n₀ Bp Bb : Nat} {W W' : World} (h : Below W.heap.size W W') (hn : n₀ ≤ W.heap.size) (hB : Bp < W.heap.size) (hC : Bb < W.heap.size) : KpN n₀ Bp Bb W W' := ⟨h.mono hn, h.block _ hB, h.block _ hC⟩

/-- The place that the iterator hands on. -/
def encP (S : List Pl) (x : Fin S.length) : Array Value := #[plV S[x]]

set_option maxRecDepth 100000 in
set_option maxHeartbeats 4000000 in
theorem next1_free (F : Fence) (n : Nat) (h7 : F.fn 66) (hro : F.round = none) (hn : 1 ≤ n) (lY Bp Bb n₀ : Nat) (a : Au) (T : List (List Int)) (y : Pl) (S : List Pl) (hS : S = succPl a T y) (hy : y.inn < 0) (hT : T.length ≤ 64)
    (L St tp : Int) (ao2 ao3 aot : Option Addr) (n2 cap2 n3 cap3 capt : Nat) (J Jx : List (Fin S.length) → World → Prop)
    (hY : ∀ pre x W, J pre W → pre.length < S.length → YieldAt F (n - 1) Tryd.prog lY (encP S x) W fun e W' =>
      (e = .returned (.bool true) ∧ J (pre ++ [x]) W' ∧ KpN n₀ Bp Bb W W') ∨ (e = .returned (.bool false) ∧ Jx (pre ++ [x]) W'))
    (W : World) (hBp : W.heap[Bp]? = some (.cells (plC y) 48 (0, 0))) (hBb : W.heap[Bb]? = some (.cells #[.int .i64 L, .int .i64 St, .slice ao2 n2 cap2, .slice ao3 n3 cap3, .int .i64 tp, .slice aot T.length capt] 70 (0, 0))) (h0 : J [] W) :
    CallsIn F n Tryd.prog 66 #[.func (.yield lY) #[] #[], .pointer (some ⟨Bp, 0, none⟩), .pointer (some ⟨Bb, 0, none⟩)] W fun e W' => (∃ v, e = .returned v) ∧
      ((∃ ys, ys = allF S.length ∧ J ys W') ∨ (∃ pre, (∃ k, k ≤ S.length ∧ pre = (allF S.length).take k) ∧ Jx pre W')) := by
  have hlen : S.length = T.length := by rw [hS, succPl, if_pos hy, List.length_map, List.length_range]
  have HE : Hid (∀ k (h : k < S.length), encP S ⟨k, h⟩ = #[.agg #[.int .i64 y.st, .int .i64 (k : Int), .int .i64 (-1)]]) := fun k h => by
    subst hS
    simp only [encP, plV, succPl]
    simp [hy]
  have HCP : Hid (∀ W' : World, W'.heap[Bp]? = W.heap[Bp]? → W'.cell? ⟨Bp, 0, none⟩ = some (.int .i64 y.st)) := fun W' h => cell_of_row W' Bp 0 _ _ _ (h.trans hBp)
  have p1 : W.cell? ⟨Bp, 1, none⟩ = some (.int .i64 y.inn) := cell_of_row _ _ 1 _ _ _ hBp
  have b5 : W.cell? ⟨Bb, 5, none⟩ = some (.slice aot T.length capt) := cell_of_row _ _ 5 _ _ _ hBb
  have e3 : decide (y.inn < 0) = true := by simpa using hy
  generalize T.length = m at *
  generalize hst : y.st = st at *
  clear hS hBp hBb hst
  refine callsIn_of_wp Tryd.func66 rfl h7 ?_ hro
  simp only [Tryd.ntmps66, List.size_toArray, List.length_cons, List.length_nil, Nat.reduceAdd, Nat.reduceSub, Array.replicate_succ, Array.replicate_zero, List.push_toArray, List.append_toArray, List.nil_append, List.cons_append]
  gi_wp2
  gi_loopw [14] (fun i wr => ∃ k : Nat, k ≤ m ∧ i = .int .i64 k ∧ J ((allF S.length).take k) wr ∧ KpN n₀ Bp Bb W wr)
    (fun i _ => m - (intOf i).toNat)
  case atStart => exact ⟨0, Nat.zero_le _, rfl, h0, KpN.refl _ _ _ _⟩
  case round =>
    obtain ⟨k, hk, rfl, hJs, hnx⟩ := hrel
    by_cases hlt : k < m
    · have hltS : k < S.length := by omega
      obtain ⟨fn, tmps, assign, body, hy', hR⟩ := hY _ ⟨k, hltS⟩ wr hJs (by rw [List.length_take, allF_len]; omega)
      rw [HE.out k hltS] at hy'
      have p0 := HCP.out wr hnx.2.1
      gi_wp2
      refine hR.mono ?_
      rintro e W3 (⟨rfl, hJ3, hk3⟩ | ⟨rfl, hJx3⟩)
      · have hk4 := hnx.trans hk3
        gi_wp2
        go_roundw
        case rel => exact ⟨k + 1, by omega, by go_num, by rw [allF_take hltS]; exact hJ3, hk4⟩
        case measure => simp [intOf]; omega
      · gi_wp2
        refine bodyPost_ret (results_none rfl _ _ _) rfl ?_
        exact ⟨⟨_, rfl⟩, .inr ⟨_, ⟨k + 1, by omega, (allF_take hltS).symm⟩, hJx3⟩⟩
    · obtain rfl : k = m := by omega
      gi_wp2
      refine bodyPost_ret (results_none rfl _ _ _) rfl ?_
      exact ⟨⟨_, rfl⟩, .inl ⟨_, rfl, by rw [List.take_of_length_le (by rw [allF_len]; omega)] at hJs; exact hJs⟩⟩

end Go.Proofs.YtjadeffdcbchnaaDoor
