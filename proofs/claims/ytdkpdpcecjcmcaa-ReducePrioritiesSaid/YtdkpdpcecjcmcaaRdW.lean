/- Words: the two Valid, At, the word's run, slices.Min, parity.Word. -/
import Derived.Test.YtdkpdpcecjcmcaaRdV
import Derived.Test.YtdkpdpcecjcmcaaRd5
import Derived.ProofKit
import Derived.Deep.Slices
import Derived.OpenShut
import Derived.LaidMore
import Derived.OwnWalkIn
import Derived.Maps.OwnIn
import Derived.Laws.CopyOwn
import Derived.Deep.RegionHeld3
import Derived.Deep.QuietTactic
import Derived.BigQuiet
import Derived.Maps.OwnSet
namespace Go.Proofs.Ytdkpdpcecjcmcaa
open Go.ChangeShapes Go.WideShapes Go.ChangeAt Go.RowKit Go.Deep
open Go.RowKit
open Go.RowKit Go.Maps Go.WideMaps

theorem zero_int (w : World) : (zeroValue 3).run Try.prog w = .ok (.int .i64 0) w := by kernel_rfl
theorem grown_trans {a b c : World} {r : Option Nat} (h : a.grownBy b r) (k : b.grownBy c r) : a.grownBy c r :=
  ⟨k.os.trans h.os, k.tape.trans h.tape, k.output.trans h.output, Nat.le_trans h.size k.size, fun i hi hr => (k.block i (Nat.lt_of_lt_of_le hi h.size) hr).trans (h.block i hi hr)⟩
theorem IsInts.dropA {w : World} {b off n c j : Nat} {l : List Int} (h : IsInts w (.slice (some ⟨b, off, none⟩) n c) l) (hj : j < n) : IsInts w (.slice (some ⟨b, off + j, none⟩) (n - j) (c - j)) (l.drop j) := by
  obtain ⟨⟨a', c', b', o', hv, ha⟩, hr⟩ := h
  simp only [Value.slice.injEq] at hv
  obtain ⟨rfl, rfl, rfl⟩ := hv
  have had := ha.ad (by omega)
  simp only [Option.some.injEq, Addr.mk.injEq, and_true] at had
  obtain ⟨rfl, rfl⟩ := had
  have h1 := ha.lc
  have h2 := ha.cm
  have h3 := ha.nm
  refine ⟨⟨_, c - j, b, off + j, by rw [List.length_drop], by rw [List.length_drop]; omega, by omega, by rw [List.length_drop]; omega, (fun h => by cases h), (fun _ => rfl), fun i hi => ?_⟩, fun x hx => hr x (List.mem_of_mem_drop hx)⟩
  rw [List.length_drop] at hi
  have := ha.el (j + i) (by omega)
  rw [show off + j + i = off + (j + i) by omega, this]
  simp [ivF, List.getD]

theorem validA_row {a : Au} (hv : validA a = true) {s : Nat} (hs : s < a.next.length) : ((a.next.getD s []).length : Int) = a.letters ∧ ((a.prio.getD s []).length : Int) = a.letters ∧
    ∀ k : Nat, k < (a.next.getD s []).length → 0 ≤ (a.next.getD s []).getD k 0 ∧ (a.next.getD s []).getD k 0 < a.next.length := by
  simp only [validA, Bool.and_eq_true, decide_eq_true_eq] at hv
  have hr := List.all_eq_true.1 hv.2 s (List.mem_range.2 hs)
  simp only [rowA, Bool.and_eq_true, decide_eq_true_eq] at hr
  refine ⟨hr.1.1, hr.1.2, fun k hk => ?_⟩
  have hm := List.all_eq_true.1 hr.2 k (List.mem_range.2 hk)
  simp only [moveA, Bool.and_eq_true, decide_eq_true_eq] at hm
  exact hm.1.1

theorem validA_pr {a : Au} (hv : validA a = true) {s : Nat} (hs : s < a.next.length) (k : Nat) (hk : k < (a.next.getD s []).length) : 0 ≤ (a.prio.getD s []).getD k 0 ∧ (a.prio.getD s []).getD k 0 ≤ 20000 := by
  simp only [validA, Bool.and_eq_true, decide_eq_true_eq] at hv
  have hr := List.all_eq_true.1 hv.2 s (List.mem_range.2 hs)
  simp only [rowA, Bool.and_eq_true, decide_eq_true_eq] at hr
  have hm := List.all_eq_true.1 hr.2 k (List.mem_range.2 hk)
  simp only [moveA, Bool.and_eq_true, decide_eq_true_eq] at hm
  exact ⟨hm.1.2, hm.2⟩

structure Ls where
  stem : List Int
  loop : List Int
deriving DecidableEq

/-- The letter at a position. -/
def atL (w : Ls) (i : Nat) : Int := if i < w.stem.length then w.stem.getD i 0 else w.loop.getD ((i - w.stem.length) % w.loop.length) 0

/-- From m on, u has the period p. -/
def Per (u : Nat → Int) (m p : Nat) : Prop := ∀ i, m ≤ i → u (i + p) = u i

theorem Per.mono {u : Nat → Int} {m m' p : Nat} (h : Per u m p) (hm : m ≤ m') : Per u m' p := fun i hi => h i (by omega)

theorem atL_stem {w : Ls} {i : Nat} (h : i < w.stem.length) : atL w i = w.stem.getD i 0 := if_pos h

/-! Formed lassos. -/

def letB (x : Int) : Bool := decide (0 ≤ x) && decide (x < 64)

def formB (w : Ls) : Bool := decide (w.stem.length ≤ 60) && decide (1 ≤ w.loop.length) && decide (w.loop.length ≤ 40) && w.stem.all letB && w.loop.all letB

theorem formB_iff (w : Ls) : formB w = true ↔ w.stem.length ≤ 60 ∧ 1 ≤ w.loop.length ∧ w.loop.length ≤ 40 ∧ (∀ x ∈ w.stem, letB x = true) ∧ ∀ x ∈ w.loop, letB x = true := by
  simp only [formB, Bool.and_eq_true, decide_eq_true_eq, List.all_eq_true]
  exact ⟨fun ⟨⟨⟨⟨a, b⟩, c⟩, d⟩, e⟩ => ⟨a, b, c, d, e⟩, fun ⟨a, b, c, d, e⟩ => ⟨⟨⟨⟨a, b⟩, c⟩, d⟩, e⟩⟩

def atI (w : Ls) (i : Int) : Int := if 0 ≤ i ∧ formB w = true then atL w i.toNat else -1

def validI (k : Int) (w : Ls) : Bool := formB w && w.stem.all (fun x => decide (x < k)) && w.loop.all (fun x => decide (x < k))

theorem form_pos {w : Ls} (h : formB w = true) : 0 < w.loop.length := ((formB_iff w).1 h).2.1

theorem letB_iff (x : Int) : letB x = true ↔ 0 ≤ x ∧ x < 64 := by simp [letB]

def IsLs (w : World) (v : Value) (l : Ls) : Prop := ∃ v0 v1, v = .agg #[v0, v1] ∧ IsInts w v0 l.stem ∧ IsInts w v1 l.loop

theorem IsLs.below {w wr : World} {v : Value} {l : Ls} (h : IsLs w v l) (hb : Below w.heap.size w wr) : IsLs wr v l := by
  obtain ⟨v0, v1, rfl, h0, h1⟩ := h
  exact ⟨v0, v1, rfl, h0.below hb, h1.below hb⟩

/-- All numbers are from 0 to most - 1. -/
def belB (most : Int) (l : List Int) : Bool := l.all fun x => decide (0 ≤ x) && decide (x < most)

theorem belB_let (l : List Int) : belB 64 l = l.all letB := rfl

/-- A lasso of lists made for the call. -/
def NewL (l : Ls) (w : World) (e : Ending) (w' : World) : Prop := ∃ v, e = .returned v ∧ IsLs w' v l ∧ Below w.heap.size w w'

theorem below_c (w : World) (vl : Value) (l : List Int) (most : Int) (hl : IsInts w vl l) :
    Calls Try.prog 55 #[vl, .int .i64 most] w (fun e w' => e = .returned (.bool (belB most l)) ∧ w = w') := by
  obtain ⟨⟨ao, cap, b, off, rfl, hl⟩, -⟩ := hl
  have hn := hl.nb
  go_enter Try.func55, Try.ntmps55
  go_wp2
  go_loop [9] (fun i => ∃ k : Nat, i = .int .i64 k ∧ k ≤ l.length ∧ Hid (belB most (l.take k) = true)) (fun i => l.length - (intOf i).toNat)
  case atStart => exact ⟨0, rfl, by omega, by show _ = _; simp [belB]⟩
  case round =>
    obtain ⟨k, rfl, hk, HA⟩ := hrel
    by_cases hlt : k < l.length
    · obtain rfl := hl.ad (by omega)
      have c1 := hl.el k hlt
      unfold ivF at c1
      rw [getD_lt _ _ _ hlt] at c1
      have HS := Lib.hid (all_take_succ l (fun x => decide (0 ≤ x) && decide (x < most)) k hlt)
      have HF0 : Hid ((decide (0 ≤ l[k]) && decide (l[k] < most)) = false → belB most l = false) := fun h => all_false_of l _ k hlt h
      generalize l[k] = x at *
      by_cases h0 : x < 0
      · have HF := Lib.hid (HF0.out (by simp; omega))
        go_wp2
        go_ret
        exact ⟨ret_bool (by rw [HF.out]), rfl⟩
      · by_cases h1 : most ≤ x
        · have HF := Lib.hid (HF0.out (by simp; omega))
          go_wp2
          go_ret
          exact ⟨ret_bool (by rw [HF.out]), rfl⟩
        · have HT : Hid (belB most (l.take (k + 1)) = true) := by
            show _ = _
            have := HA.out
            unfold belB at this ⊢
            rw [HS.out, this]; simp; omega
          go_wp2
          go_round
          case rel => exact ⟨k + 1, by go_num, by omega, HT⟩
          case measure => simp [intOf]; omega
    · obtain rfl : k = l.length := by omega
      have HF : Hid (belB most l = true) := by
        show _ = _
        have := HA.out
        rwa [List.take_length] at this
      go_wp2
      go_ret
      exact ⟨ret_bool (by rw [HF.out]), rfl⟩

theorem Letter_c (w : World) (x : Int) : Calls Try.prog 54 #[.int .i64 x] w (fun e w' => e = .returned (.bool (letB x)) ∧ w = w') := by
  by_cases h0 : 0 ≤ x
  · go_enter Try.func54, Try.ntmps54
    go_wp2
    go_ret
    exact ⟨ret_bool (by simp [letB]; omega), rfl⟩
  · go_enter Try.func54, Try.ntmps54
    go_wp2
    go_ret
    exact ⟨ret_bool (by simp [letB]; omega), rfl⟩

theorem formB_split (l : Ls) : formB l = (decide (l.stem.length ≤ 60) && decide (1 ≤ l.loop.length) && decide (l.loop.length ≤ 40) && belB 64 l.stem && belB 64 l.loop) := rfl

set_option maxHeartbeats 2000000 in
theorem formed_c (w : World) (v : Value) (l : Ls) (hl : IsLs w v l) :
    Calls Try.prog 43 #[v] w (Calm (.bool (formB l)) w) := by
  obtain ⟨v0, v1, rfl, h0, h1⟩ := hl
  have H0 := Lib.hid (fun (W : World) (hW : Below w.heap.size w W) => below_c W v0 l.stem 64 (h0.below hW))
  have H1 := Lib.hid (fun (W : World) (hW : Below w.heap.size w W) => below_c W v1 l.loop 64 (h1.below hW))
  obtain ⟨⟨a0, c0, b0, o0, rfl, g0⟩, -⟩ := h0
  obtain ⟨⟨a1, c1, b1, o1, rfl, g1⟩, -⟩ := h1
  have hn0 := g0.nb
  have hn1 := g1.nb
  have HF := Lib.hid (formB_split l)
  generalize belB 64 l.stem = r0 at *
  generalize belB 64 l.loop = r1 at *
  generalize formB l = r at *
  clear g0 g1
  by_cases q0 : (60 : Int) < l.stem.length
  · have HR : Hid (r = false) := by show _ = _; rw [HF.out]; simp; omega
    go_enter Try.func43, Try.ntmps43
    go_wp2
    go_ret
    exact ⟨ret_bool HR.out.symm, bel_box _⟩
  by_cases q1 : (l.loop.length : Int) < 1
  · have HR : Hid (r = false) := by show _ = _; rw [HF.out]; simp; omega
    go_enter Try.func43, Try.ntmps43
    go_wp2
    go_ret
    exact ⟨ret_bool HR.out.symm, bel_box _⟩
  by_cases q2 : (40 : Int) < l.loop.length
  · have HR : Hid (r = false) := by show _ = _; rw [HF.out]; simp; omega
    go_enter Try.func43, Try.ntmps43
    go_wp2
    go_ret
    exact ⟨ret_bool HR.out.symm, bel_box _⟩
  have HR : Hid (r = (r0 && r1)) := by
    show _ = _
    rw [HF.out, decide_eq_true (show l.stem.length ≤ 60 by omega), decide_eq_true (show 1 ≤ l.loop.length by omega), decide_eq_true (show l.loop.length ≤ 40 by omega)]
    rfl
  go_enter Try.func43, Try.ntmps43
  go_wp2_with fail
  refine (H0.out _ (bel_box _)).mono ?_
  rintro e w' ⟨rfl, rfl⟩
  cases r0 with
  | false =>
    go_wp2
    go_ret
    exact ⟨ret_bool (by rw [HR.out]; rfl), bel_box _⟩
  | true =>
    go_wp2_with fail
    refine (H1.out _ (bel_box _)).mono ?_
    rintro e w' ⟨rfl, rfl⟩
    go_wp2
    go_ret
    exact ⟨ret_bool (by rw [HR.out]; rfl), bel_box _⟩

set_option maxHeartbeats 2000000 in
theorem RFormed_c (w : World) (v : Value) (l : Ls) (hl : IsLs w v l) :
    Calls Try.prog 42 #[v] w (Calm (.bool (formB l)) w) := by
  obtain ⟨v0, v1, rfl, h0, h1⟩ := hl
  obtain ⟨⟨a0, c0, b0, o0, rfl, g0⟩, -⟩ := h0
  obtain ⟨⟨a1, c1, b1, o1, rfl, g1⟩, -⟩ := h1
  have hn0 := g0.nb
  have hn1 := g1.nb
  have HF := Lib.hid (formB_split l)
  have HS0 := Lib.hid (fun k (h : k < l.stem.length) (hb : letB l.stem[k] = false) => all_false_of l.stem letB k h hb)
  have HS1 := Lib.hid (fun k (h : k < l.loop.length) (hb : letB l.loop[k] = false) => all_false_of l.loop letB k h hb)
  rw [belB_let, belB_let] at HF
  generalize formB l = r at *
  by_cases q0 : (60 : Int) < l.stem.length
  · have HR : Hid (r = false) := by show _ = _; rw [HF.out]; simp; omega
    go_enter Try.func42, Try.ntmps42
    go_wp2
    go_ret
    exact ⟨ret_bool HR.out.symm, bel_box _⟩
  by_cases q1 : (l.loop.length : Int) < 1
  · have HR : Hid (r = false) := by show _ = _; rw [HF.out]; simp; omega
    go_enter Try.func42, Try.ntmps42
    go_wp2
    go_ret
    exact ⟨ret_bool HR.out.symm, bel_box _⟩
  by_cases q2 : (40 : Int) < l.loop.length
  · have HR : Hid (r = false) := by show _ = _; rw [HF.out]; simp; omega
    go_enter Try.func42, Try.ntmps42
    go_wp2
    go_ret
    exact ⟨ret_bool HR.out.symm, bel_box _⟩
  have HR : Hid (r = (l.stem.all letB && l.loop.all letB)) := by
    show _ = _
    rw [HF.out, decide_eq_true (show l.stem.length ≤ 60 by omega), decide_eq_true (show 1 ≤ l.loop.length by omega), decide_eq_true (show l.loop.length ≤ 40 by omega)]
    rfl
  clear HF
  go_enter Try.func42, Try.ntmps42
  go_wp2
  have hB0 : Below w.heap.size w (w.alloc (Obj.cells #[Value.slice a0 l.stem.length c0, Value.slice a1 l.loop.length c1] 36)) := bel_box _
  have cA : (w.alloc (Obj.cells #[Value.slice a0 l.stem.length c0, Value.slice a1 l.loop.length c1] 36)).cell? ⟨w.heap.size, 0, none⟩ = some (Value.slice a0 l.stem.length c0) := boxCell 0 (Below.refl _ _) rfl
  have cB : (w.alloc (Obj.cells #[Value.slice a0 l.stem.length c0, Value.slice a1 l.loop.length c1] 36)).cell? ⟨w.heap.size, 1, none⟩ = some (Value.slice a1 l.loop.length c1) := boxCell 1 (Below.refl _ _) rfl
  generalize (w.alloc (Obj.cells #[Value.slice a0 l.stem.length c0, Value.slice a1 l.loop.length c1] 36)) = w1 at *
  go_loop [3] (fun i => ∃ k : Nat, i = .int .i64 k ∧ k ≤ l.stem.length ∧ Hid ((l.stem.take k).all letB = true)) (fun i => l.stem.length - (intOf i).toNat)
  case atStart => exact ⟨0, rfl, by omega, by show _ = _; simp⟩
  case round =>
    obtain ⟨k, rfl, hk, HA⟩ := hrel
    by_cases hlt : k < l.stem.length
    · obtain rfl := g0.ad (by omega)
      have e1 := cellB hB0 (g0.el k hlt)
      unfold ivF at e1
      rw [getD_lt _ _ _ hlt] at e1
      have HS := Lib.hid (all_take_succ l.stem letB k hlt)
      have HF0 := Lib.hid (HS0.out k hlt)
      generalize l.stem[k] = x at *
      go_wp2_with fail
      refine (Letter_c _ x).mono ?_
      rintro e w2 ⟨rfl, rfl⟩
      cases hx : letB x
      · have HF := Lib.hid (HF0.out hx)
        go_wp2
        go_ret
        exact ⟨ret_bool (by rw [HR.out, HF.out]; rfl), hB0⟩
      · have HT : Hid ((l.stem.take (k + 1)).all letB = true) := by show _ = _; rw [HS.out, HA.out, hx]; rfl
        go_wp2
        go_round
        case rel => exact ⟨k + 1, by go_num, by omega, HT⟩
        case measure => simp [intOf]; omega
    · obtain rfl : k = l.stem.length := by omega
      have HT : Hid (l.stem.all letB = true) := by
        show _ = _
        have := HA.out
        rwa [List.take_length] at this
      clear HA hk hlt
      go_wp2
      go_loop [5] (fun i => ∃ k : Nat, i = .int .i64 k ∧ k ≤ l.loop.length ∧ Hid ((l.loop.take k).all letB = true)) (fun i => l.loop.length - (intOf i).toNat)
      case atStart => exact ⟨0, rfl, by omega, by show _ = _; simp⟩
      case round =>
        obtain ⟨k, rfl, hk, HA⟩ := hrel
        by_cases hlt : k < l.loop.length
        · obtain rfl := g1.ad (by omega)
          have e1 := cellB hB0 (g1.el k hlt)
          unfold ivF at e1
          rw [getD_lt _ _ _ hlt] at e1
          have HS := Lib.hid (all_take_succ l.loop letB k hlt)
          have HF0 := Lib.hid (HS1.out k hlt)
          generalize l.loop[k] = x at *
          go_wp2_with fail
          refine (Letter_c _ x).mono ?_
          rintro e w2 ⟨rfl, rfl⟩
          cases hx : letB x
          · have HF := Lib.hid (HF0.out hx)
            go_wp2
            go_ret
            exact ⟨ret_bool (by rw [HR.out, HF.out, Bool.and_false]), hB0⟩
          · have HT : Hid ((l.loop.take (k + 1)).all letB = true) := by show _ = _; rw [HS.out, HA.out, hx]; rfl
            go_wp2
            go_round
            case rel => exact ⟨k + 1, by go_num, by omega, HT⟩
            case measure => simp [intOf]; omega
        · obtain rfl : k = l.loop.length := by omega
          have HT2 : Hid (l.loop.all letB = true) := by
            show _ = _
            have := HA.out
            rwa [List.take_length] at this
          go_wp2
          go_ret
          exact ⟨ret_bool (by rw [HR.out, HT.out, HT2.out]; rfl), hB0⟩

theorem atL_small {l : Ls} {i : Nat} (h : i < l.stem.length) : atL l i = l.stem[i] := by rw [atL_stem h]; exact getD_lt _ _ _ h

theorem atL_big {l : Ls} {i : Nat} (h : l.stem.length ≤ i) (hm : (i - l.stem.length) % l.loop.length < l.loop.length) : atL l i = l.loop[(i - l.stem.length) % l.loop.length] := by
  unfold atL
  rw [if_neg (by omega)]
  exact getD_lt _ _ _ hm

set_option maxHeartbeats 2000000 in
theorem pick_c (w : World) (v : Value) (l : Ls) (i : Nat) (hl : IsLs w v l) (hp : 0 < l.loop.length) (hi : I64 i) :
    Calls Try.prog 44 #[v, .int .i64 (i : Int)] w (Calm (.int .i64 (atL l i)) w) := by
  obtain ⟨v0, v1, rfl, h0, h1⟩ := hl
  obtain ⟨⟨a0, c0, b0, o0, rfl, g0⟩, -⟩ := h0
  obtain ⟨⟨a1, c1, b1, o1, rfl, g1⟩, -⟩ := h1
  have hn0 := g0.nb
  have hn1 := g1.nb
  unfold I64 at hi
  have hB0 : Below w.heap.size w (w.alloc (Obj.cells #[Value.slice a0 l.stem.length c0, Value.slice a1 l.loop.length c1] 36)) := bel_box _
  by_cases hlt : i < l.stem.length
  · obtain rfl := g0.ad (by omega)
    have e1 := cellB hB0 (g0.el i hlt)
    unfold ivF at e1
    rw [getD_lt _ _ _ hlt] at e1
    have HR := Lib.hid (atL_small hlt)
    generalize l.stem[i] = x at *
    go_enter Try.func44, Try.ntmps44
    go_wp2
    go_ret
    exact ⟨ret_int HR.out.symm, hB0⟩
  · have hm := Nat.mod_lt (i - l.stem.length) hp
    obtain rfl := g1.ad hp
    have e1 := cellB hB0 (g1.el _ hm)
    unfold ivF at e1
    rw [getD_lt _ _ _ hm] at e1
    have HR := Lib.hid (atL_big (by omega) hm)
    have hw1 : IntKind.i64.wrap ((i : Int) - l.stem.length) = ((i - l.stem.length : Nat) : Int) := by rw [IntWalk.i64_in _ ⟨by omega, by omega⟩]; omega
    have ht : ((i - l.stem.length : Nat) : Int).tmod (l.loop.length : Int) = (((i - l.stem.length) % l.loop.length : Nat) : Int) := by rw [Int.tmod_eq_emod_of_nonneg (by omega)]; omega
    have hz : ¬ (l.loop.length : Int) = 0 := by omega
    have hw2 : IntKind.i64.wrap (((i - l.stem.length) % l.loop.length : Nat) : Int) = (((i - l.stem.length) % l.loop.length : Nat) : Int) := IntWalk.i64_in _ ⟨by omega, by omega⟩
    generalize (i - l.stem.length) % l.loop.length = q at *
    generalize l.loop[q] = x at *
    generalize i - l.stem.length = d at *
    go_enter Try.func44, Try.ntmps44
    go_wp2
    have cA : (w.alloc (Obj.cells #[Value.slice a0 l.stem.length c0, Value.slice (some ⟨b1, o1, none⟩) l.loop.length c1] 36)).cell? ⟨w.heap.size, 0, none⟩ = some (Value.slice a0 l.stem.length c0) := boxCell 0 (Below.refl _ _) rfl
    have cB : (w.alloc (Obj.cells #[Value.slice a0 l.stem.length c0, Value.slice (some ⟨b1, o1, none⟩) l.loop.length c1] 36)).cell? ⟨w.heap.size, 1, none⟩ = some (Value.slice (some ⟨b1, o1, none⟩) l.loop.length c1) := boxCell 1 (Below.refl _ _) rfl
    generalize (w.alloc (Obj.cells #[Value.slice a0 l.stem.length c0, Value.slice (some ⟨b1, o1, none⟩) l.loop.length c1] 36)) = w1 at *
    go_quiet (fail)
    go_wp2
    go_ret
    exact ⟨ret_int HR.out.symm, belD hB0 _⟩

/-- A lasso made for the call, its slices in view. -/
def NewT (l : Ls) (w : World) (e : Ending) (w' : World) : Prop :=
  ∃ a b c d, e = .returned (.agg #[.slice a l.stem.length b, .slice c l.loop.length d]) ∧ Hid (IsInts w' (.slice a l.stem.length b) l.stem) ∧ Hid (IsInts w' (.slice c l.loop.length d) l.loop) ∧ Below w.heap.size w w'

theorem NewL.t {l : Ls} {w w' : World} {e : Ending} (h : NewL l w e w') : NewT l w e w' := by
  obtain ⟨v, rfl, ⟨v0, v1, rfl, h0, h1⟩, hb⟩ := h
  have k0 := h0
  have k1 := h1
  obtain ⟨⟨a0, c0, b0, o0, rfl, g0⟩, -⟩ := h0
  obtain ⟨⟨a1, c1, b1, o1, rfl, g1⟩, -⟩ := h1
  exact ⟨a0, c0, a1, c1, rfl, k0, k1, hb⟩

/-- The program's At and the reference's: one text for both. -/
theorem atI_neg {l : Ls} {i : Int} (h : i < 0) : atI l i = -1 := if_neg (by omega)

theorem atI_not {l : Ls} {i : Int} (h : formB l = false) : atI l i = -1 := if_neg (by rw [h]; simp)

theorem atI_nat {l : Ls} {i : Int} (h0 : 0 ≤ i) (h : formB l = true) : atI l i = atL l i.toNat := if_pos ⟨h0, h⟩

set_option maxHeartbeats 2000000 in
theorem At_c (w : World) (v : Value) (l : Ls) (i : Int) (hl : IsLs w v l) (hi : I64 i) :
    Calls Try.prog 30 #[v, .int .i64 i] w (Calm (.int .i64 (atI l i)) w) := by
  have HF := Lib.hid (fun (W : World) (hW : Below w.heap.size w W) => formed_c W v l (hl.below hW))
  by_cases h0 : i < 0
  · have HR := Lib.hid (atI_neg (l := l) h0)
    obtain ⟨v0, v1, rfl, h0, h1⟩ := hl
    obtain ⟨⟨a0, c0, b0, o0, rfl, g0⟩, -⟩ := h0
    obtain ⟨⟨a1, c1, b1, o1, rfl, g1⟩, -⟩ := h1
    clear g0 g1
    go_enter Try.func30, Try.ntmps30
    go_wp2
    go_ret
    exact ⟨ret_int HR.out.symm, bel_box _⟩
  by_cases hf : formB l = true
  · obtain ⟨k, rfl⟩ : ∃ k : Nat, i = k := ⟨i.toNat, by omega⟩
    have HP := Lib.hid (fun (W : World) (hW : Below w.heap.size w W) => pick_c W v l k (hl.below hW) (form_pos hf) hi)
    have HR : Hid (atI l (k : Int) = atL l k) := by show _ = _; rw [atI_nat (by omega) hf]; rfl
    obtain ⟨v0, v1, rfl, h0, h1⟩ := hl
    obtain ⟨⟨a0, c0, b0, o0, rfl, g0⟩, -⟩ := h0
    obtain ⟨⟨a1, c1, b1, o1, rfl, g1⟩, -⟩ := h1
    rw [hf] at HF
    clear g0 g1 hf
    go_enter Try.func30, Try.ntmps30
    go_wp2_with fail
    refine (HF.out _ (bel_box _)).mono ?_
    rintro e w2 ⟨rfl, hb2⟩
    have hB2 := (bel_box (w := w) (Obj.cells #[Value.slice a0 l.stem.length c0, Value.slice a1 l.loop.length c1] 36)).trans (hb2.mono (by simp))
    have cA : w2.cell? ⟨w.heap.size, 0, none⟩ = some (Value.slice a0 l.stem.length c0) := boxCell 0 hb2 rfl
    have cB : w2.cell? ⟨w.heap.size, 1, none⟩ = some (Value.slice a1 l.loop.length c1) := boxCell 1 hb2 rfl
    clear hb2
    go_wp2_with fail
    refine (HP.out _ hB2).mono ?_
    rintro e w3 ⟨rfl, hb3⟩
    go_wp2
    go_ret
    exact ⟨ret_int HR.out.symm, hB2.trans (hb3.mono hB2.size)⟩
  · rw [Bool.not_eq_true] at hf
    have HR := Lib.hid (atI_not (i := i) hf)
    obtain ⟨v0, v1, rfl, h0, h1⟩ := hl
    obtain ⟨⟨a0, c0, b0, o0, rfl, g0⟩, -⟩ := h0
    obtain ⟨⟨a1, c1, b1, o1, rfl, g1⟩, -⟩ := h1
    rw [hf] at HF
    clear g0 g1 hf
    go_enter Try.func30, Try.ntmps30
    go_wp2_with fail
    refine (HF.out _ (bel_box _)).mono ?_
    rintro e w2 ⟨rfl, hb2⟩
    go_wp2
    go_ret
    exact ⟨ret_int HR.out.symm, (bel_box _).trans (hb2.mono (by simp))⟩

def ltB (k : Int) (l : List Int) : Bool := l.all fun x => decide (x < k)

theorem validI_eq (k : Int) (l : Ls) : validI k l = (ltB k l.stem && ltB k l.loop && formB l) := by
  unfold validI ltB
  cases formB l <;> simp

theorem all_nonneg {k : Int} {l : List Int} (h : l.all letB = true) : belB k l = ltB k l := by
  unfold belB ltB
  rw [Bool.eq_iff_iff, List.all_eq_true, List.all_eq_true]
  rw [List.all_eq_true] at h
  exact ⟨fun h2 x hx => by have := h2 x hx; simp at this; simpa using this.2, fun h2 x hx => by have h3 := h2 x hx; have h4 := (letB_iff x).1 (h x hx); simp at h3 ⊢; omega⟩

theorem valid_below (k : Int) (l : Ls) : validI k l = (formB l && belB k l.stem && belB k l.loop) := by
  rw [validI_eq]
  by_cases hf : formB l = true
  · obtain ⟨_, _, _, h1, h2⟩ := (formB_iff l).1 hf
    rw [all_nonneg (List.all_eq_true.2 h1), all_nonneg (List.all_eq_true.2 h2), hf]; simp
  · rw [Bool.not_eq_true] at hf
    rw [hf]; simp

set_option maxHeartbeats 2000000 in
theorem WValid_c (w : World) (v : Value) (l : Ls) (k : Int) (hl : IsLs w v l) :
    Calls Try.prog 45 #[.int .i64 k, v] w (Calm (.bool (validI k l)) w) := by
  have HF := Lib.hid (fun (W : World) (hW : Below w.heap.size w W) => formed_c W v l (hl.below hW))
  have HR := Lib.hid (valid_below k l)
  obtain ⟨v0, v1, rfl, h0, h1⟩ := hl
  have H0 := Lib.hid (fun (W : World) (hW : Below w.heap.size w W) => below_c W v0 l.stem k (h0.below hW))
  have H1 := Lib.hid (fun (W : World) (hW : Below w.heap.size w W) => below_c W v1 l.loop k (h1.below hW))
  obtain ⟨⟨a0, c0, b0, o0, rfl, g0⟩, -⟩ := h0
  obtain ⟨⟨a1, c1, b1, o1, rfl, g1⟩, -⟩ := h1
  clear g0 g1
  generalize validI k l = r at *
  generalize formB l = f at *
  generalize belB k l.stem = p at *
  generalize belB k l.loop = q at *
  go_enter Try.func45, Try.ntmps45
  go_wp2_with fail
  refine (HF.out _ (bel_box _)).mono ?_
  rintro e w2 ⟨rfl, hb2⟩
  have hB2 := (bel_box (w := w) (Obj.cells #[Value.slice a0 l.stem.length c0, Value.slice a1 l.loop.length c1] 36)).trans (hb2.mono (by simp))
  have cA : w2.cell? ⟨w.heap.size, 0, none⟩ = some (Value.slice a0 l.stem.length c0) := boxCell 0 hb2 rfl
  have cB : w2.cell? ⟨w.heap.size, 1, none⟩ = some (Value.slice a1 l.loop.length c1) := boxCell 1 hb2 rfl
  clear hb2
  cases f with
  | false =>
    go_wp2
    go_ret
    exact ⟨ret_bool (by rw [HR.out]; rfl), hB2⟩
  | true =>
    go_wp2_with fail
    refine (H0.out _ hB2).mono ?_
    rintro e w3 ⟨rfl, rfl⟩
    cases p with
    | false =>
      go_wp2
      go_ret
      exact ⟨ret_bool (by rw [HR.out]; rfl), hB2⟩
    | true =>
      go_wp2_with fail
      refine (H1.out _ hB2).mono ?_
      rintro e w3 ⟨rfl, rfl⟩
      go_wp2
      go_ret
      exact ⟨ret_bool (by rw [HR.out]; rfl), hB2⟩

set_option maxHeartbeats 2000000 in
theorem WRValid_c (w : World) (v : Value) (l : Ls) (z : Int) (hl : IsLs w v l) :
    Calls Try.prog 28 #[.int .i64 z, v] w (Calm (.bool (validI z l)) w) := by
  have HF := Lib.hid (fun (W : World) (hW : Below w.heap.size w W) => RFormed_c W v l (hl.below hW))
  have HR := Lib.hid (validI_eq z l)
  obtain ⟨v0, v1, rfl, h0, h1⟩ := hl
  obtain ⟨⟨a0, c0, b0, o0, rfl, g0⟩, -⟩ := h0
  obtain ⟨⟨a1, c1, b1, o1, rfl, g1⟩, -⟩ := h1
  have hn0 := g0.nb
  have hn1 := g1.nb
  have HS0 := Lib.hid (fun k (h : k < l.stem.length) (hb : decide (l.stem[k] < z) = false) => all_false_of l.stem (fun x => decide (x < z)) k h hb)
  have HS1 := Lib.hid (fun k (h : k < l.loop.length) (hb : decide (l.loop[k] < z) = false) => all_false_of l.loop (fun x => decide (x < z)) k h hb)
  generalize formB l = f at *
  generalize validI z l = r at *
  go_enter Try.func28, Try.ntmps28
  go_wp2
  have hB0 : Below w.heap.size w (w.alloc (Obj.cells #[Value.slice a0 l.stem.length c0, Value.slice a1 l.loop.length c1] 36)) := bel_box _
  have cA : (w.alloc (Obj.cells #[Value.slice a0 l.stem.length c0, Value.slice a1 l.loop.length c1] 36)).cell? ⟨w.heap.size, 0, none⟩ = some (Value.slice a0 l.stem.length c0) := boxCell 0 (Below.refl _ _) rfl
  have cB : (w.alloc (Obj.cells #[Value.slice a0 l.stem.length c0, Value.slice a1 l.loop.length c1] 36)).cell? ⟨w.heap.size, 1, none⟩ = some (Value.slice a1 l.loop.length c1) := boxCell 1 (Below.refl _ _) rfl
  generalize (w.alloc (Obj.cells #[Value.slice a0 l.stem.length c0, Value.slice a1 l.loop.length c1] 36)) = w1 at *
  go_loop [5] (fun i => ∃ k : Nat, i = .int .i64 k ∧ k ≤ l.stem.length ∧ Hid (ltB z (l.stem.take k) = true)) (fun i => l.stem.length - (intOf i).toNat)
  case atStart => exact ⟨0, rfl, by omega, by show _ = _; simp [ltB]⟩
  case round =>
    obtain ⟨k, rfl, hk, HA⟩ := hrel
    by_cases hlt : k < l.stem.length
    · obtain rfl := g0.ad (by omega)
      have e1 := cellB hB0 (g0.el k hlt)
      unfold ivF at e1
      rw [getD_lt _ _ _ hlt] at e1
      have HS := Lib.hid (all_take_succ l.stem (fun x => decide (x < z)) k hlt)
      have HF0 := Lib.hid (HS0.out k hlt)
      generalize l.stem[k] = x at *
      by_cases hx : z ≤ x
      · have HX : Hid (ltB z l.stem = false) := HF0.out (by simp; omega)
        go_wp2
        go_ret
        exact ⟨ret_bool (by rw [HR.out, HX.out]; rfl), hB0⟩
      · have HT : Hid (ltB z (l.stem.take (k + 1)) = true) := by show _ = _; unfold ltB; rw [HS.out]; have := HA.out; unfold ltB at this; rw [this]; simp; omega
        go_wp2
        go_round
        case rel => exact ⟨k + 1, by go_num, by omega, HT⟩
        case measure => simp [intOf]; omega
    · obtain rfl : k = l.stem.length := by omega
      have HT : Hid (ltB z l.stem = true) := by
        show _ = _
        have := HA.out
        rwa [List.take_length] at this
      clear HA hk hlt
      go_wp2
      go_loop [6] (fun i => ∃ k : Nat, i = .int .i64 k ∧ k ≤ l.loop.length ∧ Hid (ltB z (l.loop.take k) = true)) (fun i => l.loop.length - (intOf i).toNat)
      case atStart => exact ⟨0, rfl, by omega, by show _ = _; simp [ltB]⟩
      case round =>
        obtain ⟨k, rfl, hk, HA⟩ := hrel
        by_cases hlt : k < l.loop.length
        · obtain rfl := g1.ad (by omega)
          have e1 := cellB hB0 (g1.el k hlt)
          unfold ivF at e1
          rw [getD_lt _ _ _ hlt] at e1
          have HS := Lib.hid (all_take_succ l.loop (fun x => decide (x < z)) k hlt)
          have HF0 := Lib.hid (HS1.out k hlt)
          generalize l.loop[k] = x at *
          by_cases hx : z ≤ x
          · have HX : Hid (ltB z l.loop = false) := HF0.out (by simp; omega)
            go_wp2
            go_ret
            exact ⟨ret_bool (by rw [HR.out, HX.out, Bool.and_false]; rfl), hB0⟩
          · have HT : Hid (ltB z (l.loop.take (k + 1)) = true) := by show _ = _; unfold ltB; rw [HS.out]; have := HA.out; unfold ltB at this; rw [this]; simp; omega
            go_wp2
            go_round
            case rel => exact ⟨k + 1, by go_num, by omega, HT⟩
            case measure => simp [intOf]; omega
        · obtain rfl : k = l.loop.length := by omega
          have HT2 : Hid (ltB z l.loop = true) := by
            show _ = _
            have := HA.out
            rwa [List.take_length] at this
          go_wp2_with fail
          refine (HF.out _ hB0).mono ?_
          rintro e w2 ⟨rfl, hb2⟩
          go_wp2
          go_ret
          exact ⟨ret_bool (by rw [HR.out, HT.out, HT2.out]; rfl), hB0.trans (hb2.mono hB0.size)⟩

theorem IsAuto.shp {w : World} {v : Value} {a : Au} (h : IsAuto w v a) : ∃ p2 n2 k2 p3 n3 k3, v = .agg #[.int .i64 a.letters, .int .i64 a.start, .slice p2 n2 k2, .slice p3 n3 k3] := by
  obtain ⟨v2, v3, rfl, -, ⟨V2, ⟨a2, c2, b2, o2, rfl, -⟩, -⟩, ⟨V3, ⟨a3, c3, b3, o3, rfl, -⟩, -⟩⟩ := h
  exact ⟨_, _, _, _, _, _, rfl⟩

def nxL (a : Au) (q x : Int) : Int := (a.next.getD q.toNat []).getD x.toNat 0

def prL (a : Au) (q x : Int) : Int := (a.prio.getD q.toNat []).getD x.toNat 0

/-- The state and the least priority behind some letters. -/
def readF (a : Au) (s : Int × Int) (ls : List Int) : Int × Int := ls.foldl (fun s x => (nxL a s.1 x, min s.2 (prL a s.1 x))) s

theorem readF_snoc (a : Au) (s : Int × Int) (ls : List Int) (x : Int) : readF a s (ls ++ [x]) = (nxL a (readF a s ls).1 x, min (readF a s ls).2 (prL a (readF a s ls).1 x)) := by simp [readF]

/-- The state behind the stem and i rounds of the loop, the least priority of the round behind. -/
def stN (a : Au) (w : Ls) : Nat → Int
  | 0 => (readF a (a.start, 20000) w.stem).1
  | i + 1 => (readF a (stN a w i, 20000) w.loop).1

def lsN (a : Au) (w : Ls) (i : Nat) : Int := (readF a (stN a w i, 20000) w.loop).2

/-- A least value over a stretch. -/
def IsMin (f : Nat → Int) (j d : Nat) (v : Int) : Prop := (∃ i, i < d ∧ f (j + i) = v) ∧ ∀ i, i < d → v ≤ f (j + i)

theorem stN_per {a : Au} {w : Ls} {j d : Nat} (h : stN a w (j + d) = stN a w j) : ∀ i, stN a w (j + i + d) = stN a w (j + i) := by
  intro i
  induction i with
  | zero => exact h
  | succ i ih =>
    have e1 : j + (i + 1) + d = (j + i + d) + 1 := by omega
    have e2 : j + (i + 1) = (j + i) + 1 := by omega
    rw [e1, e2]
    show (readF a (stN a w (j + i + d), 20000) w.loop).1 = (readF a (stN a w (j + i), 20000) w.loop).1
    rw [ih]

theorem stN_mul {a : Au} {w : Ls} {j d : Nat} (h : stN a w (j + d) = stN a w j) (i k : Nat) : stN a w (j + i + k * d) = stN a w (j + i) := by
  induction k with
  | zero => simp
  | succ k ih =>
    have e : j + i + (k + 1) * d = j + (i + k * d) + d := by rw [Nat.succ_mul]; omega
    rw [e, stN_per h, ← ih]
    congr 1
    omega

theorem stN_mod {a : Au} {w : Ls} {j d : Nat} (h : stN a w (j + d) = stN a w j) (i : Nat) : stN a w (j + i) = stN a w (j + i % d) := by
  have := stN_mul h (i % d) (i / d)
  rw [← this]
  congr 1
  have := Nat.mod_add_div i d
  rw [Nat.mul_comm] at this
  omega

theorem cyc_sub {a : Au} {w : Ls} {j d m d' : Nat} (h : stN a w (j + d) = stN a w j) (h' : stN a w (m + d') = stN a w m) (hd : 0 < d) (hd' : 0 < d') (i : Nat) : ∃ i', i' < d' ∧ stN a w (m + i') = stN a w (j + i) := by
  have h1 := stN_mul h i m
  obtain ⟨x, hx⟩ : ∃ x, j + i + m * d = m + x := ⟨j + i + m * d - m, by have := Nat.le_mul_of_pos_right m hd; omega⟩
  rw [hx, stN_mod h'] at h1
  exact ⟨x % d', Nat.mod_lt _ hd', h1⟩

theorem cyc_min {a : Au} {w : Ls} {j d m d' : Nat} (h : stN a w (j + d) = stN a w j) (h' : stN a w (m + d') = stN a w m) (hd : 0 < d) (hd' : 0 < d') {v v' : Int} (hv : IsMin (lsN a w) j d v) (hv' : IsMin (lsN a w) m d' v') : v = v' := by
  have aux : ∀ {j d m d' : Nat} {v v' : Int}, stN a w (j + d) = stN a w j → stN a w (m + d') = stN a w m → 0 < d → 0 < d' → IsMin (lsN a w) j d v → IsMin (lsN a w) m d' v' → v' ≤ v := by
    intro j d m d' v v' h h' hd hd' hv hv'
    obtain ⟨⟨i, hi, e⟩, -⟩ := hv
    obtain ⟨i', hi', e'⟩ := cyc_sub h h' hd hd' i
    have := hv'.2 i' hi'
    have e2 : lsN a w (m + i') = lsN a w (j + i) := by unfold lsN; rw [e']
    omega
  have h1 := aux h h' hd hd' hv hv'
  have h2 := aux h' h hd' hd hv' hv
  omega

section
variable {a : Au}
/-- A sequence of members of a list comes back. -/
theorem comes_back {α : Type} [DecidableEq α] {f : Nat → α} {r : List α} (h : ∀ i, f i ∈ r) : ∃ i j, i < j ∧ j ≤ r.length ∧ f i = f j := by
  by_cases hn : ∃ i j, i < j ∧ j ≤ r.length ∧ f i = f j
  · exact hn
  · exfalso
    have hnd : ((List.range (r.length + 1)).map f).Nodup := by
      rw [List.nodup_iff_pairwise_ne, List.pairwise_map, List.pairwise_iff_getElem]
      intro i j hi hj hij e
      simp only [List.getElem_range] at e
      simp at hi hj
      exact hn ⟨i, j, hij, by omega, e⟩
    have hlen : ∀ {M : List α} {r : List α}, M.Nodup → (∀ x ∈ M, x ∈ r) → M.length ≤ r.length := by
      intro M
      induction M with
      | nil => intro r _ _; simp
      | cons x M ih =>
        intro r hM hsub
        rw [List.nodup_cons] at hM
        have hx := hsub x List.mem_cons_self
        have := ih (r := r.erase x) hM.2 (fun y hy => (List.mem_erase_of_ne (by rintro rfl; exact hM.1 hy)).2 (hsub y (List.mem_cons_of_mem _ hy)))
        rw [List.length_erase_of_mem hx] at this
        have hpos := List.length_pos_of_mem hx
        simp only [List.length_cons]
        omega
    have := hlen hnd (fun x hx => by obtain ⟨i, -, rfl⟩ := List.mem_map.1 hx; exact h i)
    simp at this
    omega
end

theorem IsLs.shp {w : World} {v : Value} {l : Ls} (h : IsLs w v l) : ∃ a0 c0 a1 c1, v = .agg #[.slice a0 l.stem.length c0, .slice a1 l.loop.length c1] := by
  obtain ⟨v0, v1, rfl, ⟨⟨a0, c0, -, -, rfl, -⟩, -⟩, ⟨⟨a1, c1, -, -, rfl, -⟩, -⟩⟩ := h
  exact ⟨_, _, _, _, rfl⟩

theorem IsLs.parts {w : World} {v0 v1 : Value} {l : Ls} (h : IsLs w (.agg #[v0, v1]) l) : IsInts w v0 l.stem ∧ IsInts w v1 l.loop := by
  obtain ⟨u0, u1, e, h0, h1⟩ := h
  simp only [Value.agg.injEq, Array.mk.injEq, List.cons.injEq, and_true] at e
  obtain ⟨rfl, rfl⟩ := e
  exact ⟨h0, h1⟩

/-- The least of some numbers. -/
def minK (l : List Int) (k : Nat) : Int := (l.take k).foldl min (l.getD 0 0)

theorem minK_one {l : List Int} (h : 0 < l.length) : minK l 1 = l.getD 0 0 := by
  cases l with
  | nil => simp at h
  | cons x l => simp [minK, List.getD]

theorem minK_succ {l : List Int} {k : Nat} (h : k < l.length) : minK l (k + 1) = min (minK l k) (l.getD k 0) := by
  unfold minK
  rw [List.take_succ_eq_append_getElem h, List.foldl_append, getD_lt l 0 k h]; rfl

theorem minK_spec {l : List Int} (h : 0 < l.length) : ∀ k, 1 ≤ k → k ≤ l.length → (∃ i, i < k ∧ l.getD i 0 = minK l k) ∧ ∀ i, i < k → minK l k ≤ l.getD i 0 := by
  intro k
  induction k with
  | zero => intro h; omega
  | succ k ih =>
    intro h1 h2
    by_cases hk : k = 0
    · subst hk
      rw [minK_one h]
      exact ⟨⟨0, by omega, rfl⟩, fun i hi => by rw [show i = 0 by omega]; exact Int.le_refl _⟩
    · obtain ⟨⟨i, hi, e⟩, h3⟩ := ih (by omega) (by omega)
      rw [minK_succ (by omega)]
      refine ⟨?_, fun j hj => ?_⟩
      · by_cases hc : minK l k ≤ l.getD k 0
        · exact ⟨i, by omega, by rw [e]; omega⟩
        · exact ⟨k, by omega, by omega⟩
      · by_cases hjk : j = k
        · rw [hjk]; omega
        · have := h3 j (by omega); omega

theorem Min_c (w : World) (v : Value) (l : List Int) (hl : IsInts w v l) (h0 : 0 < l.length) : Calls Try.prog 47 #[v] w fun e w' => e = .returned (.int .i64 (minK l l.length)) ∧ w' = w := by
  obtain ⟨a, c, rfl⟩ := hl.shp
  obtain ⟨b, o, had, hn, hc⟩ := hl.dat
  obtain rfl := had h0
  have HC := Lib.hid hc
  have c0 := hc 0 h0
  rw [Nat.add_zero] at c0
  have hM := minK_one h0
  rw [← hM] at c0
  clear hl had hc hM
  have s0 : decide ((l.length : Int) < 1) = false := decide_eq_false (by omega)
  have hi1 : (0 : Int) < l.length := by omega
  go_enter Try.func47, Try.ntmps47
  go_wp2
  go_loopg [3, 4] (l.length - 1) (fun gh m i wr => ∃ k : Nat, gh = l.length - k ∧ i = .int .i64 k ∧ m = .int .i64 (minK l k) ∧ 1 ≤ k ∧ k ≤ l.length ∧ wr = w)
  case atStart => exact ⟨1, by omega, rfl, rfl, by omega, by omega, rfl⟩
  case round =>
    obtain ⟨k, hgk, rfl, rfl, hk1, hk, rfl⟩ := hrel
    by_cases hlt : k < l.length
    · have e1 := HC.out k hlt
      have HE := Lib.hid (minK_succ hlt)
      have HGK := Lib.hid hgk
      clear c0 s0 hi1 hgk
      generalize minK l k = m at *
      generalize l.getD k 0 = x at *
      go_wp2
      all_goals
        go_roundg (l.length - (k + 1))
        case measure => have := HGK.out; omega
        case rel => exact ⟨k + 1, rfl, by go_num, by rw [HE.out]; congr 1; first | omega | (simp; omega), by omega, by omega, rfl⟩
    · obtain rfl : k = l.length := by omega
      go_wp2
      go_ret
      exact ⟨rfl, rfl⟩

theorem idxI_lt {l : List Int} {y : Int} (h : y ∈ l) : l.idxOf y < l.length := List.idxOf_lt_length_iff.2 h

set_option maxRecDepth 100000 in
theorem NumI.get {w : World} {b : Nat} {l : List Int} (h : NumI w b l) {y : Int} (hy : I64 y) :
    (y ∈ l → (Instr.lookup 42 (.map (some b)) (.int .i64 y) true).run Try.prog w = .ok (.tuple #[.int .i64 (l.idxOf y : Int), .bool true]) w) ∧
    (y ∉ l → ∃ c, (Instr.lookup 42 (.map (some b)) (.int .i64 y) true).run Try.prog w = .ok (.tuple #[.int .i64 c, .bool false]) w) := by
  obtain ⟨D, h1, h2, h3, h4⟩ := h
  obtain ⟨v, ps, hrun, hv⟩ := h1.look_ok intKeyed Try.underlying42 (zero_int w) (plainElem_int Try.underlying3 (q := .i64) (a := 0) rfl) (intKey hy)
  obtain ⟨c, rfl, hc, hwc⟩ := plainElem_int_inv Try.underlying3 hv
  rw [h3 y hy] at hrun
  simp only [Prod.mk.injEq] at hc
  refine ⟨fun hm => ?_, fun hm => ⟨c, by rw [hrun, decide_eq_false hm]⟩⟩
  have h5 := h4 y hy hm
  rw [hc.1] at h5
  simp only [DataW.lit.injEq, Lit.int.injEq, true_and] at h5
  rw [hrun, decide_eq_true hm, h5]

set_option maxRecDepth 100000 in
theorem NumI.upd {w : World} {b : Nat} {l : List Int} (h : NumI w b l) {y : Int} (hy : I64 y) (hn : y ∉ l) (hl : l.length ≤ 3000) :
    ∃ w', (Instr.mapUpdate 42 (.map (some b)) (.int .i64 y) (.int .i64 (l.length : Int))).run Try.prog w = .ok () w' ∧ NumI w' b (l ++ [y]) ∧ w.grownBy w' (some b) := by
  obtain ⟨D, h1, h2, h3, h4⟩ := h
  obtain ⟨w', hrun, r1, r2⟩ := h1.update intKeyed Try.underlying42 (by simp only [maxLen]; omega) (intKey hy) (plainElem_int Try.underlying3 (q := .i64) (a := (l.length : Int)) (lit_wf (by unfold I64; omega)))
  exact ⟨w', hrun, NumI.put h2 hy hn h3 h4 r1, r2⟩

theorem nx_bd {a : Au} (hv : validA a = true) {q x : Int} (h0 : 0 ≤ q) (h1 : q < a.next.length) (hx0 : 0 ≤ x) (hx1 : x < a.letters) : 0 ≤ nxL a q x ∧ nxL a q x < a.next.length := by
  obtain ⟨h2, -, h3⟩ := validA_row hv (s := q.toNat) (by omega)
  exact h3 x.toNat (by omega)

theorem readF_bd {a : Au} (hv : validA a = true) {q m : Int} (h0 : 0 ≤ q) (h1 : q < a.next.length) : ∀ {ls : List Int}, (∀ x ∈ ls, 0 ≤ x ∧ x < a.letters) → 0 ≤ (readF a (q, m) ls).1 ∧ (readF a (q, m) ls).1 < a.next.length := by
  intro ls
  induction ls generalizing q m with
  | nil => intro _; exact ⟨h0, h1⟩
  | cons x ls ih =>
    intro hl
    have hx := hl x List.mem_cons_self
    have := nx_bd hv h0 h1 hx.1 hx.2
    exact ih this.1 this.2 fun y hy => hl y (List.mem_cons_of_mem _ hy)

set_option maxRecDepth 100000 in
set_option maxHeartbeats 8000000 in
theorem read_c (w0 w : World) (vls : Value) (ls : List Int) (a : Au) (zp zs n2 k2 n3 k3 : Nat) (p2 p3 : Option Addr) (q : Int) (hv : validA a = true) (hB : Below w0.heap.size w0 w) (hl : IsInts w0 vls ls) (hx : w0.heap[zp]? = some (.cells #[.int .i64 a.letters, .int .i64 a.start, .slice p2 n2 k2, .slice p3 n3 k3] 24 (0, 0)))
    (hN : IsRows w0 (.slice p2 n2 k2) a.next) (hP : IsRows w0 (.slice p3 n3 k3) a.prio) (hz : w0.heap.size ≤ zs) (hs : w.heap[zs]? = some (.cells #[.int .i64 q] 3 (0, 0))) (h0 : 0 ≤ q) (h1 : q < a.next.length) (hls : ∀ x ∈ ls, 0 ≤ x ∧ x < a.letters) :
    Calls Try.prog 46 #[vls, .pointer (some ⟨zp, 0, none⟩), .pointer (some ⟨zs, 0, none⟩)] w (fun e w' => e = .returned (.int .i64 (readF a (q, 20000) ls).2) ∧ Below w0.heap.size w0 w' ∧ w.grownBy w' (some zs) ∧ w'.heap[zs]? = some (.cells #[.int .i64 (readF a (q, 20000) ls).1] 3 (0, 0))) := by
  obtain ⟨al, cl, rfl⟩ := hl.shp
  obtain ⟨lb, lo, had, hlm, hlc⟩ := hl.dat
  obtain ⟨V2, ⟨a2, c2, b2, o2, hv2, f2⟩, r2⟩ := hN
  obtain ⟨V3, ⟨a3, c3, b3, o3, hv3, f3⟩, r3⟩ := hP
  simp only [Value.slice.injEq] at hv2 hv3
  obtain ⟨rfl, rfl, rfl⟩ := hv2
  obtain ⟨rfl, rfl, rfl⟩ := hv3
  have hpl : a.prio.length = a.next.length := by
    have h := hv
    simp only [validA, Bool.and_eq_true, decide_eq_true_eq] at h
    exact h.1.1.2
  obtain rfl := f2.ad (by omega)
  obtain rfl := f3.ad (by omega)
  have HC := Lib.hid hlc
  have HAD := Lib.hid had
  have hs0 := hs
  clear had hlc hl
  go_enter Try.func46, Try.ntmps46
  go_wp2
  go_loopg [5, 10] ls.length (fun gh m i wr => ∃ k : Nat, gh = ls.length - k ∧ i = .int .i64 k ∧ m = .int .i64 (readF a (q, 20000) (ls.take k)).2 ∧ k ≤ ls.length ∧ Below w0.heap.size w0 wr ∧ w.grownBy wr (some zs) ∧ wr.heap[zs]? = some (.cells #[.int .i64 (readF a (q, 20000) (ls.take k)).1] 3 (0, 0)))
  case atStart => exact ⟨0, by omega, rfl, rfl, by omega, hB, grown_refl _ _, hs⟩
  case round =>
    obtain ⟨k, hgk, rfl, rfl, hk, hBr, hgr, hsr⟩ := hrel
    have HGK := Lib.hid hgk
    clear hgk hs hs0 hB
    by_cases hlt : k < ls.length
    · obtain rfl := HAD.out (by omega)
      have lc := cellB hBr (HC.out k hlt)
      have hxm : ls.getD k 0 ∈ ls := by rw [getD_lt _ _ _ hlt]; exact List.getElem_mem hlt
      obtain ⟨x0, x1⟩ := hls _ hxm
      obtain ⟨x, hxe⟩ := Int.eq_ofNat_of_zero_le x0
      obtain ⟨q0, q1⟩ := readF_bd hv h0 h1 (m := 20000) (ls := ls.take k) fun y hy => hls y (List.mem_of_mem_take hy)
      have hstep := readF_snoc a (q, 20000) (ls.take k) (ls.getD k 0)
      rw [show ls.take k ++ [ls.getD k 0] = ls.take (k + 1) by rw [List.take_succ_eq_append_getElem hlt, getD_lt _ _ _ hlt]] at hstep
      have HST := Lib.hid hstep
      generalize readF a (q, 20000) (ls.take k) = s at *
      obtain ⟨sn, hsn⟩ := Int.eq_ofNat_of_zero_le q0
      have hnx : nxL a s.1 (ls.getD k 0) = (a.next.getD sn []).getD x 0 := by unfold nxL; rw [hsn, hxe]; rfl
      have hpx : prL a s.1 (ls.getD k 0) = (a.prio.getD sn []).getD x 0 := by unfold prL; rw [hsn, hxe]; rfl
      have hsN : sn < a.next.length := by omega
      have hrow := validA_row hv hsN
      have i2 := r2 sn hsN
      have i3 := r3 sn (by omega)
      have e2 := cellB hBr (f2.el sn hsN)
      have e3 := cellB hBr (f3.el sn (by omega))
      obtain ⟨ar2, cr2, hvr2⟩ := i2.shp
      obtain ⟨ar3, cr3, hvr3⟩ := i3.shp
      rw [hvr2] at e2 i2
      rw [hvr3] at e3 i3
      obtain ⟨nb, no, na, -, nc⟩ := i2.dat
      obtain ⟨mb, mo, ma, -, mc⟩ := i3.dat
      have hxl2 : x < (a.next.getD sn []).length := by omega
      have hxl3 : x < (a.prio.getD sn []).length := by omega
      obtain rfl := na (by omega)
      obtain rfl := ma (by omega)
      have n1 := cellB hBr (nc x hxl2)
      have n2 := cellB hBr (mc x hxl3)
      rw [← hnx] at n1
      rw [← hpx] at n2
      rw [hxe] at lc
      have hxc := (hBr.block _ (Array.getElem?_eq_some_iff.1 hx).1).trans hx
      have d2 := cell_of_row _ _ 2 _ _ _ hxc
      have d3 := cell_of_row _ _ 3 _ _ _ hxc
      have s1 := cell_of_row _ _ 0 _ _ _ hsr
      have s2 := frozen_of_row _ _ 0 _ _ hsr
      have HS2 := Lib.hid (one_set (d := .int .i64 (nxL a s.1 (ls.getD k 0))) hsr)
      have HBS := Lib.hid (hBr.setCell (p := ⟨zs, 0, none⟩) hz (.int .i64 (nxL a s.1 (ls.getD k 0))))
      have HGS := Lib.hid (grown_trans hgr (grown_set wr zs 0 (.int .i64 (nxL a s.1 (ls.getD k 0)))))
      have hpn : (sn : Int) < a.prio.length := by omega
      rw [hsn] at s1
      clear hrow hvr2 hvr3 i2 i3 na ma nc mc hnx hpx hxe hsn hstep x0 x1 hxm hBr hgr hsr q0 q1
      generalize nxL a s.1 (ls.getD k 0) = nq at *
      generalize prL a s.1 (ls.getD k 0) = np at *
      generalize (a.next.getD sn []).length = L2 at *
      generalize (a.prio.getD sn []).length = L3 at *
      have hln : ls.length ≤ 140737488351232 := hlm
      go_wp2
      all_goals
        go_roundg (ls.length - (k + 1))
        case measure => have := HGK.out; omega
        case rel => exact ⟨k + 1, rfl, by go_num, by rw [HST.out]; congr 1; first | omega | (simp; omega), by omega, HBS.out, HGS.out, by rw [HST.out]; exact HS2.out⟩
    · obtain rfl : k = ls.length := by omega
      rw [List.take_length] at hsr ⊢
      go_wp2
      go_ret
      exact ⟨rfl, hBr, hgr, hsr⟩

/-- The word is accepted: told by some cycle of the rounds of its loop. -/
def WordP (a : Au) (w : Ls) (b : Bool) : Prop := ∃ (j d : Nat) (v : Int), 0 < d ∧ stN a w (j + d) = stN a w j ∧ IsMin (lsN a w) j d v ∧ b = (Int.tmod v 2 == 0)

def stL (a : Au) (w : Ls) (n : Nat) : List Int := (List.range n).map (stN a w)

def lsL (a : Au) (w : Ls) (n : Nat) : List Int := (List.range n).map (lsN a w)

theorem stL_succ (a : Au) (w : Ls) (n : Nat) : stL a w (n + 1) = stL a w n ++ [stN a w n] := by simp [stL, List.range_succ]

theorem lsL_succ (a : Au) (w : Ls) (n : Nat) : lsL a w (n + 1) = lsL a w n ++ [lsN a w n] := by simp [lsL, List.range_succ]

theorem stL_at (a : Au) (w : Ls) (n k : Nat) (h : k < (stL a w n).length) : (stL a w n)[k] = stN a w k := by simp [stL]

theorem lsL_at (a : Au) (w : Ls) (n k : Nat) (h : k < n) : (lsL a w n).getD k 0 = lsN a w k := by simp [lsL, h]

theorem readF_pr {a : Au} (hv : validA a = true) {q m : Int} (h0 : 0 ≤ q) (h1 : q < a.next.length) (hm : 0 ≤ m) : ∀ {ls : List Int}, (∀ x ∈ ls, 0 ≤ x ∧ x < a.letters) → 0 ≤ (readF a (q, m) ls).2 ∧ (readF a (q, m) ls).2 ≤ m := by
  intro ls
  induction ls generalizing q m with
  | nil => intro _; exact ⟨hm, Int.le_refl _⟩
  | cons x ls ih =>
    intro hl
    have hx := hl x List.mem_cons_self
    have hn := nx_bd hv h0 h1 hx.1 hx.2
    have hr := validA_row hv (s := q.toNat) (by omega)
    have hp := validA_pr hv (s := q.toNat) (by omega) x.toNat (by omega)
    have hp' : 0 ≤ prL a q x := hp.1
    have := ih (m := min m (prL a q x)) hn.1 hn.2 (by omega) fun y hy => hl y (List.mem_cons_of_mem _ hy)
    exact ⟨this.1, Int.le_trans this.2 (by omega)⟩

theorem valid_let {w : Ls} {k : Int} (h : validI k w = true) : (∀ x ∈ w.stem, 0 ≤ x ∧ x < k) ∧ (∀ x ∈ w.loop, 0 ≤ x ∧ x < k) ∧ 0 < w.loop.length := by
  simp only [validI, Bool.and_eq_true, List.all_eq_true, decide_eq_true_eq] at h
  obtain ⟨⟨h1, h2⟩, h3⟩ := h
  obtain ⟨-, h4, -, h5, h6⟩ := (formB_iff w).1 h1
  exact ⟨fun x hx => ⟨((letB_iff x).1 (h5 x hx)).1, h2 x hx⟩, fun x hx => ⟨((letB_iff x).1 (h6 x hx)).1, h3 x hx⟩, h4⟩

theorem stN_bd {a : Au} {w : Ls} (hv : validA a = true) (hw : validI a.letters w = true) (i : Nat) : 0 ≤ stN a w i ∧ stN a w i < a.next.length := by
  obtain ⟨h1, h2, -⟩ := valid_let hw
  have h := hv
  simp only [validA, Bool.and_eq_true, decide_eq_true_eq] at h
  induction i with
  | zero => exact readF_bd hv h.1.2.1 h.1.2.2 h1
  | succ i ih => exact readF_bd hv ih.1 ih.2 h2

theorem ints_nodup_le {n : Nat} {L : List Int} (hn : L.Nodup) (h0 : ∀ q ∈ L, 0 ≤ q ∧ q < n) : L.length ≤ n := by
  have h1 : (L.map Int.toNat).Nodup := by
    induction L with
    | nil => simp
    | cons q L ih =>
      rw [List.map_cons, List.nodup_cons]
      rw [List.nodup_cons] at hn
      refine ⟨fun hm => ?_, ih hn.2 (fun y hy => h0 y (List.mem_cons_of_mem _ hy))⟩
      obtain ⟨y, hy, e⟩ := List.mem_map.1 hm
      have a1 := h0 y (List.mem_cons_of_mem _ hy)
      have a2 := h0 q List.mem_cons_self
      have : y = q := by omega
      exact hn.1 (this ▸ hy)
  have h2 : (L.map Int.toNat).Perm ((List.range n).filter fun x => decide (x ∈ L.map Int.toNat)) := (List.perm_ext_iff_of_nodup h1 (List.Nodup.sublist List.filter_sublist List.nodup_range)).2 fun x => by
    rw [List.mem_filter, List.mem_range, decide_eq_true_eq]
    refine ⟨fun hx => ⟨?_, hx⟩, fun hx => hx.2⟩
    obtain ⟨y, hy, rfl⟩ := List.mem_map.1 hx
    have := h0 y hy
    omega
  have h3 := h2.length_eq
  have h4 := List.length_filter_le (fun x => decide (x ∈ L.map Int.toNat)) (List.range n)
  rw [List.length_map] at h3
  rw [List.length_range] at h4
  omega

set_option maxRecDepth 100000 in
set_option maxHeartbeats 8000000 in
theorem Word_c (w : World) (va vw : Value) (a : Au) (l : Ls) (ha : IsAuto w va a) (hl : IsLs w vw l) (hv : validA a = true) (hw : validI a.letters l = true) :
    Calls Try.prog 31 #[va, vw] w (fun e w' => ∃ b, e = .returned (.bool b) ∧ WordP a l b ∧ Below w.heap.size w w') := by
  obtain ⟨p2, n2, k2, p3, n3, k3, rfl⟩ := ha.shp
  obtain ⟨a0, c0, a1, c1, rfl⟩ := hl.shp
  go_enter Try.func31, Try.ntmps31
  go_upto_region 1 with (fail)
  obtain ⟨hx, hz, hB⟩ : ((w.alloc (.cells #[.int .i64 a.letters, .int .i64 a.start, .slice p2 n2 k2, .slice p3 n3 k3] 24)).alloc (.cells #[.slice a0 l.stem.length c0, .slice a1 l.loop.length c1] 36)).heap[w.heap.size]? = some (.cells #[.int .i64 a.letters, .int .i64 a.start, .slice p2 n2 k2, .slice p3 n3 k3] 24 (0, 0)) ∧ ((w.alloc (.cells #[.int .i64 a.letters, .int .i64 a.start, .slice p2 n2 k2, .slice p3 n3 k3] 24)).alloc (.cells #[.slice a0 l.stem.length c0, .slice a1 l.loop.length c1] 36)).heap[w.heap.size + 1]? = some (.cells #[.slice a0 l.stem.length c0, .slice a1 l.loop.length c1] 36 (0, 0)) ∧ Below w.heap.size w ((w.alloc (.cells #[.int .i64 a.letters, .int .i64 a.start, .slice p2 n2 k2, .slice p3 n3 k3] 24)).alloc (.cells #[.slice a0 l.stem.length c0, .slice a1 l.loop.length c1] 36)) := ⟨(by (repeat (rw [alloc_get]; first | rw [if_pos (by first | (simp; done) | (simp; omega))] | rw [if_neg (by first | (simp; done) | (simp; omega))])); (try rfl)), (by (repeat (rw [alloc_get]; first | rw [if_pos (by first | (simp; done) | (simp; omega))] | rw [if_neg (by first | (simp; done) | (simp; omega))])); (try rfl)), (by repeat (first | exact Below.refl _ _ | assumption | (refine belA ?_ _) | (refine belD ?_ _)))⟩
  replace ha := ha.below hB
  replace hl := hl.below hB
  generalize (w.alloc (.cells #[.int .i64 a.letters, .int .i64 a.start, .slice p2 n2 k2, .slice p3 n3 k3] 24)).alloc (.cells #[.slice a0 l.stem.length c0, .slice a1 l.loop.length c1] 36) = w1 at *
  have HE : Hid (∀ W, Below w1.heap.size w1 W → Below w.heap.size w W) := fun W h => hB.trans (h.mono hB.size)
  clear hB
  generalize w.heap.size + 1 = zw at *
  generalize hza : w.heap.size = za at *
  have HZA := Lib.hid hza
  clear hza
  have d0 := cell_of_row _ _ 0 _ _ _ hx
  have d1 := cell_of_row _ _ 1 _ _ _ hx
  have d2 := cell_of_row _ _ 2 _ _ _ hx
  have d3 := cell_of_row _ _ 3 _ _ _ hx
  go_wp2_with fail
  refine (PValid_c _ _ a ha).mono ?_
  rw [hv]
  rintro e w2 ⟨rfl, hb⟩
  replace hx := (hb.block _ (Array.getElem?_eq_some_iff.1 hx).1).trans hx
  replace hz := (hb.block _ (Array.getElem?_eq_some_iff.1 hz).1).trans hz
  replace ha := ha.below hb
  replace hl := hl.below hb
  clear d0 d1 d2 d3
  have d0 := cell_of_row _ _ 0 _ _ _ hx
  have e0 := cell_of_row _ _ 0 _ _ _ hz
  have e1 := cell_of_row _ _ 1 _ _ _ hz
  go_wp2_with fail
  refine (WValid_c _ _ l a.letters hl).mono ?_
  rw [hw]
  rintro e w3 ⟨rfl, hb3⟩
  replace hx := (hb3.block _ (Array.getElem?_eq_some_iff.1 hx).1).trans hx
  replace hz := (hb3.block _ (Array.getElem?_eq_some_iff.1 hz).1).trans hz
  replace ha := ha.below hb3
  replace hl := hl.below hb3
  replace hb := hb.trans (hb3.mono hb.size)
  clear d0 e0 e1 hb3
  have d1 := cell_of_row _ _ 1 _ _ _ hx
  obtain ⟨h1, h2, hlp⟩ := valid_let hw
  obtain ⟨hl0, hl1⟩ := hl.parts
  obtain ⟨v2, v3, hve, hI64, hN, hP⟩ := id ha
  simp only [Value.agg.injEq, Array.mk.injEq, List.cons.injEq, and_true, true_and] at hve
  obtain ⟨rfl, rfl⟩ := hve
  have hstart : 0 ≤ a.start ∧ a.start < a.next.length := by
    have h := hv
    simp only [validA, Bool.and_eq_true, decide_eq_true_eq] at h
    exact h.1.2
  have hN3 : a.next.length ≤ 3000 := by
    have h := hv
    simp only [validA, Bool.and_eq_true, decide_eq_true_eq] at h
    omega
  have HRD : Hid (∀ W vls ls q, Below w3.heap.size w3 W → IsInts w3 vls ls → W.heap[w3.heap.size]? = some (.cells #[.int .i64 q] 3 (0, 0)) → 0 ≤ q → q < a.next.length → (∀ x ∈ ls, 0 ≤ x ∧ x < a.letters) → Calls Try.prog 46 #[vls, .pointer (some ⟨za, 0, none⟩), .pointer (some ⟨w3.heap.size, 0, none⟩)] W (fun e w' => e = .returned (.int .i64 (readF a (q, 20000) ls).2) ∧ Below w3.heap.size w3 w' ∧ W.grownBy w' (some w3.heap.size) ∧ w'.heap[w3.heap.size]? = some (.cells #[.int .i64 (readF a (q, 20000) ls).1] 3 (0, 0)))) := fun W vls ls q hB hi hs h0 h1 hls => read_c w3 W vls ls a za w3.heap.size n2 k2 n3 k3 p2 p3 q hv hB hi hx hN hP (Nat.le_refl _) hs h0 h1 hls
  have HEZ : Hid (∀ W, Below w3.heap.size w3 W → W.cell? ⟨zw, 0, none⟩ = some (.slice a0 l.stem.length c0) ∧ W.cell? ⟨zw, 1, none⟩ = some (.slice a1 l.loop.length c1)) := fun W h => by
    have k := (h.block _ (Array.getElem?_eq_some_iff.1 hz).1).trans hz
    exact ⟨cell_of_row _ _ 0 _ _ _ k, cell_of_row _ _ 1 _ _ _ k⟩
  have HBD := Lib.hid (fun i => stN_bd hv hw i)
  have HN := Lib.hid hN3
  have HV := Lib.hid hv
  have HB := Lib.hid hb
  have HL0 := Lib.hid hl0
  have HL1 := Lib.hid hl1
  have HLT := Lib.hid (And.intro h1 (And.intro h2 hlp))
  go_upto_region 4 with (fail)
  have hb4 := bel_box (w := w3) (.cells #[.int .i64 a.start] 3)
  have hs := heap_alloc_new w3 (.cells #[.int .i64 a.start] 3)
  generalize w3.alloc (.cells #[.int .i64 a.start] 3) = w4 at *
  obtain ⟨e0, -⟩ := HEZ.out w4 hb4
  clear d1 hx hz ha hl hb hN hP hl0 hl1 hN3 h1 h2 hlp hI64 hv
  go_wp2_with fail
  refine (HRD.out w4 _ _ _ hb4 HL0.out hs hstart.1 hstart.2 HLT.out.1).mono ?_
  rintro e w5 ⟨rfl, hb5, -, hs5⟩
  clear e0 hb4 hs hstart
  have hs5' : w5.heap[w3.heap.size]? = some (.cells #[.int .i64 (stN a l 0)] 3 (0, 0)) := hs5
  clear hs5
  have HMM := @run_makeMap Try.prog
  have hb6 := bel_box (w := w5) (.map #[] 0)
  have hM6 := NumI.made w5
  have hz6 : w5.heap.size < (w5.alloc (.map #[] 0)).heap.size := by simp
  have hzs : w3.heap.size < w5.heap.size := (Array.getElem?_eq_some_iff.1 hs5').1
  have hs6 := (hb6.block _ hzs).trans hs5'
  have hB6 : Below w3.heap.size w3 (w5.alloc (.map #[] 0)) := hb5.trans (hb6.mono hb5.size)
  go_wp2_with fail
  clear HMM hb6 hs5' hb5
  generalize w5.alloc (.map #[] 0) = w6 at *
  generalize w5.heap.size = zm at *
  generalize hzq : w3.heap.size = zs at *
  go_loopg [7] (a.next.length + 1) (fun gh vL wr => ∃ n : Nat, gh = a.next.length + 1 - n ∧ n ≤ a.next.length ∧ Hid ((stL a l n).Nodup) ∧ wr.heap[zs]? = some (.cells #[.int .i64 (stN a l n)] 3 (0, 0)) ∧ NumI wr zm (stL a l n) ∧ OI wr (zm + 1) vL (lsL a l n) ∧ Below zs w3 wr ∧ zm + 1 ≤ wr.heap.size)
  case atStart => exact ⟨0, by omega, by omega, by simp [Hid, stL], hs6, hM6, OI_nil _ _, hB6, hz6⟩
  case round =>
    obtain ⟨n, hgn, hn, HND, hs, hM, hO, hBr, hmr⟩ := hrel
    have HGN := Lib.hid hgn
    clear hgn hs6 hM6 hB6 hz6
    obtain ⟨q0, q1⟩ := HBD.out n
    have hN3 := HN.out
    have hq64 : I64 (stN a l n) := by unfold I64; omega
    have hlen : (stL a l n).length = n := by simp [stL]
    have hlenL : (lsL a l n).length = n := by simp [lsL]
    obtain ⟨hyes, hno⟩ := hM.get hq64
    have s0 := cell_of_row _ _ 0 _ _ _ hs
    have HLB : Hid (∀ x ∈ lsL a l n, I64 x) := fun x hx => by
      obtain ⟨i, -, rfl⟩ := List.mem_map.1 hx
      have h1 := HBD.out i
      have := readF_pr HV.out h1.1 h1.2 (m := 20000) (by omega) HLT.out.2.1
      unfold lsN I64
      omega
    by_cases hm : stN a l n ∈ stL a l n
    case pos => as_aux_lemma =>
      have hrun := hyes hm
      have hj := idxI_lt hm
      have hjv : (stL a l n)[(stL a l n).idxOf (stN a l n)] = stN a l n := List.getElem_idxOf hj
      have HJ : Hid (stN a l ((stL a l n).idxOf (stN a l n)) = stN a l n) := by
        show _ = _
        rw [stL_at] at hjv
        exact hjv
      rw [hlen] at hj
      obtain ⟨g, cap, hvL, -, -⟩ := hO.row (by omega)
      subst hvL
      have hOi := hO.is (by rw [hlenL]; simp only [maxN]; omega) HLB.out
      rw [hlenL] at hOi ⊢
      have hcap : n ≤ cap := by
        obtain ⟨⟨_, _, _, _, hv', ha'⟩, -⟩ := hOi
        simp only [Value.slice.injEq] at hv'
        obtain ⟨-, -, rfl⟩ := hv'
        have := ha'.lc
        omega
      generalize (stL a l n).idxOf (stN a l n) = j at *
      have HDR := Lib.hid (hOi.dropA hj)
      have HB5 := Lib.hid hBr
      have hjn : (j : Int) ≤ (n : Int) := by omega
      have hj0 : (0 : Int) ≤ (j : Int) := Int.natCast_nonneg _
      have hnc : (n : Int) ≤ (cap : Int) := by omega
      have HLEN : Hid (((lsL a l n).drop j).length = n - j) := by show _ = _; rw [List.length_drop, hlenL]
      have HJN : Hid (j < n) := hj
      clear hyes hno hjv hO hOi hM hs hBr hlenL
      go_wp2_with fail
      have hdr : IsInts wr (.slice (some ⟨g, j, none⟩) (n - j) (cap - j)) ((lsL a l n).drop j) := by
        have := HDR.out
        rwa [Nat.zero_add] at this
      refine (Min_c _ _ _ hdr (by rw [HLEN.out]; have := HJN.out; omega)).mono ?_
      rintro e w8 ⟨rfl, rfl⟩
      have hsp := minK_spec (l := (lsL a l n).drop j) (by rw [HLEN.out]; have := HJN.out; omega) (n - j) (by have := HJN.out; omega) (by rw [HLEN.out]; omega)
      rw [HLEN.out]
      have hdg : ∀ i, i < n - j → ((lsL a l n).drop j).getD i 0 = lsN a l (j + i) := fun i hi => by
        rw [← lsL_at a l n (j + i) (by omega)]
        simp [List.getD]
      generalize minK ((lsL a l n).drop j) (n - j) = v at *
      have HW : Hid (WordP a l (Int.tmod v 2 == 0)) := by
        have hjn' := HJN.out
        refine ⟨j, n - j, v, by omega, by rw [show j + (n - j) = n by omega]; exact HJ.out.symm, ⟨?_, fun i hi => ?_⟩, rfl⟩
        · obtain ⟨⟨i, hi, e⟩, -⟩ := hsp
          exact ⟨i, hi, by rw [← hdg i hi]; exact e⟩
        · rw [← hdg i hi]
          exact hsp.2 i hi
      clear hsp hdg hdr HDR
      go_wp2
      go_ret
      exact ⟨_, rfl, HW.out, by rw [HZA.out]; exact HE.out _ (HB.out.trans (HB5.out.mono (by rw [← hzq]; exact HB.out.size)))⟩
    case neg => as_aux_lemma =>
      obtain ⟨c, hrun⟩ := hno hm
      obtain ⟨w7, hupd, hM7, hg7⟩ := hM.upd hq64 hm (by omega)
      rw [hlen] at hupd
      have HND1 : Hid ((stL a l (n + 1)).Nodup) := by
        show List.Nodup _
        rw [stL_succ, List.nodup_append]
        exact ⟨HND.out, by simp, fun x hx y hy => by rw [List.mem_singleton.1 hy]; rintro rfl; exact hm hx⟩
      have hn1 : n + 1 ≤ a.next.length := by
        have h1 := ints_nodup_le (n := a.next.length) HND1.out fun q hq => by
          obtain ⟨i, -, rfl⟩ := List.mem_map.1 hq
          exact HBD.out i
        simpa [stL] using h1
      rw [← stL_succ] at hM7
      have hzl : zs < wr.heap.size := by omega
      have hs7 := (hg7.block zs hzl (fun e => by injection e with e; omega)).trans hs
      have hB7 : Below zs w3 w7 := hBr.grown hg7 (by omega) (fun k hk => by injection hk with hk; omega)
      have hO7 := hO.grown hg7 (by
        cases hvb : u7.ownBlock with
        | none => exact .inl rfl
        | some g => exact .inr (fun e => by have := hO.ge g hvb; injection e with e; omega))
      obtain ⟨-, e1⟩ := HEZ.out w7 hB7
      obtain ⟨aoL, capL, hvL⟩ := hO.slice
      rw [hlenL] at hvL
      have s7 := cell_of_row _ _ 0 _ _ _ hs7
      subst hvL
      have HO7 := Lib.hid hO7
      have HM7 := Lib.hid hM7
      have HB7 := Lib.hid hB7
      have HS7 := Lib.hid hs7
      have hz7 : zm + 1 ≤ w7.heap.size := Nat.le_trans hmr hg7.size
      clear hyes hno hO hM hs hBr hO7 hM7 hg7 hB7 hs7
      go_wp2_with fail
      refine (HRD.out w7 _ _ _ HB7.out HL1.out HS7.out q0 q1 HLT.out.2.1).mono ?_
      rintro e w8 ⟨rfl, hB8, hg8, hs8⟩
      have HS8 : Hid (w8.heap[zs]? = some (.cells #[.int .i64 (stN a l (n + 1))] 3 (0, 0))) := hs8
      have HM8 := Lib.hid (HM7.out.kept hg8 (fun e => by injection e with e; omega))
      have hO8 := HO7.out.grown hg8 (by
        cases hvb : (Value.slice aoL n capL).ownBlock with
        | none => exact .inl rfl
        | some g => exact .inr (fun e => by have := HO7.out.ge g hvb; injection e with e; omega))
      have HO8 := Lib.hid hO8
      have HB8 := Lib.hid hB8
      have hz8 : zm + 1 ≤ w8.heap.size := Nat.le_trans hz7 hg8.size
      have hnl : (lsL a l n).length < 17592186043904 := by omega
      clear hs8 hO8 hB8 hg8 e1 s7 s0 hrun hupd
      go_wp2_with (at_builtin; refine app_int rfl _ _ (lsN a l n) rfl (zm + 1) _ _ HO8.out rfl _ (by simp) rfl hnl hz8 ?_; intro v' w9 hown' hg9 hmv)
      have hne9 : ∀ k, k < zm + 1 → some k ≠ (Value.slice aoL n capL).ownBlock := fun k hk e => by
        have := HO8.out.ge k e.symm
        omega
      go_roundg (a.next.length + 1 - (n + 1))
      case measure => have := HGN.out; omega
      case rel =>
        refine ⟨n + 1, rfl, hn1, HND1, (hg9.block zs (by omega) (hne9 zs (by omega))).trans HS8.out, HM8.out.kept hg9 (hne9 zm (by omega)), by rw [lsL_succ]; exact hown', HB8.out.grown hg9 (by omega) (fun k hk => by have := HO8.out.ge k hk; omega), Nat.le_trans hz8 hg9.size⟩

theorem readF_big {a : Au} {q m : Int} {ls : List Int} (h : ls ≠ []) (hp : prL a q (ls.getD 0 0) ≤ 20000) (hm : 20000 ≤ m) : (readF a (q, m) ls).2 = (readF a (q, 20000) ls).2 := by
  cases ls with
  | nil => exact absurd rfl h
  | cons x ls =>
    have hp' : prL a q x ≤ 20000 := hp
    show (readF a (_, min m (prL a q x)) ls).2 = (readF a (_, min 20000 (prL a q x)) ls).2
    rw [show min m (prL a q x) = min 20000 (prL a q x) by omega]

theorem least_back {P : Nat → Prop} (h : ∃ d, 0 < d ∧ P d) : ∃ D, 0 < D ∧ P D ∧ ∀ d, 0 < d → d < D → ¬ P d := by
  obtain ⟨d, h0, hd⟩ := h
  induction d using Nat.strongRecOn with
  | _ d ih =>
    by_cases hc : ∃ d', 0 < d' ∧ d' < d ∧ P d'
    · obtain ⟨d', h1, h2, h3⟩ := hc
      exact ih d' h2 h1 h3
    · exact ⟨d, h0, hd, fun d' h1 h2 h3 => hc ⟨d', h1, h2, h3⟩⟩

end Go.Proofs.Ytdkpdpcecjcmcaa
