/- Words: Valid, At. -/
import Derived.Test.YtjadeffdcbchnaaDoorArSc
import Derived.Test.YtjadeffdcbchnaaDoorAr4
import Derived.Laws.CopyOwn
import Derived.Deep.RegionHeld3
namespace Go.Proofs.YtjadeffdcbchnaaDoor
open Go.RowKit

structure Ls where
  stem : List Int
  loop : List Int
deriving DecidableEq

/-- The letter at a position. -/
def atL (w : Ls) (i : Nat) : Int := if i < w.stem.length then w.stem.getD i 0 else w.loop.getD ((i - w.stem.length) % w.loop.length) 0

/-- From m on, u has the period p. -/
def Per (u : Nat → Int) (m p : Nat) : Prop := ∀ i, m ≤ i → u (i + p) = u i

theorem Per.mono {u : Nat → Int} {m m' p : Nat} (h : Per u m p) (hm : m ≤ m') : Per u m' p := fun i hi => h i (by omega)

theorem atL_stem {w : Ls} {i : Nat} (h : i < w.stem.length) : atL w i = w.stem.getD i 0 := if_pos h

/-! Formed lassos. -/

def letB (x : Int) : Bool := decide (0 ≤ x) && decide (x < 64)

def formB (w : Ls) : Bool := decide (w.stem.length ≤ 60) && decide (1 ≤ w.loop.length) && decide (w.loop.length ≤ 40) && w.stem.all letB && w.loop.all letB

theorem formB_iff (w : Ls) : formB w = true ↔ w.stem.length ≤ 60 ∧ 1 ≤ w.loop.length ∧ w.loop.length ≤ 40 ∧ (∀ x ∈ w.stem, letB x = true) ∧ ∀ x ∈ w.loop, letB x = true := by
  simp only [formB, Bool.and_eq_true, decide_eq_true_eq, List.all_eq_true]
  exact ⟨fun ⟨⟨⟨⟨a, b⟩, c⟩, d⟩, e⟩ => ⟨a, b, c, d, e⟩, fun ⟨a, b, c, d, e⟩ => ⟨⟨⟨⟨a, b⟩, c⟩, d⟩, e⟩⟩

def atI (w : Ls) (i : Int) : Int := if 0 ≤ i ∧ formB w = true then atL w i.toNat else -1

def validI (k : Int) (w : Ls) : Bool := formB w && w.stem.all (fun x => decide (x < k)) && w.loop.all (fun x => decide (x < k))

theorem form_pos {w : Ls} (h : formB w = true) : 0 < w.loop.length := ((formB_iff w).1 h).2.1

theorem letB_iff (x : Int) : letB x = true ↔ 0 ≤ x ∧ x < 64 := by simp [letB]

def IsLs (w : World) (v : Value) (l : Ls) : Prop := ∃ v0 v1, v = .agg #[v0, v1] ∧ IsInts w v0 l.stem ∧ IsInts w v1 l.loop

theorem IsLs.below {w wr : World} {v : Value} {l : Ls} (h : IsLs w v l) (hb : Below w.heap.size w wr) : IsLs wr v l := by
  obtain ⟨v0, v1, rfl, h0, h1⟩ := h
  exact ⟨v0, v1, rfl, h0.below hb, h1.below hb⟩

/-- All numbers are from 0 to most - 1. -/
def belB (most : Int) (l : List Int) : Bool := l.all fun x => decide (0 ≤ x) && decide (x < most)

theorem belB_let (l : List Int) : belB 64 l = l.all letB := rfl

/-- A lasso of lists made for the call. -/
def NewL (l : Ls) (w : World) (e : Ending) (w' : World) : Prop := ∃ v, e = .returned v ∧ IsLs w' v l ∧ Below w.heap.size w w'

theorem ivF_take (l : List Int) {k j : Nat} (h : j < k) : ivF (l.take k) j = ivF l j := by simp [ivF, List.getD, h]

theorem below_c (w : World) (vl : Value) (l : List Int) (most : Int) (hl : IsInts w vl l) :
    Calls Tryd.prog 61 #[vl, .int .i64 most] w (fun e w' => e = .returned (.bool (belB most l)) ∧ w = w') := by
  obtain ⟨⟨ao, cap, b, off, rfl, hl⟩, -⟩ := hl
  have hn := hl.nb
  go_enter Tryd.func61, Tryd.ntmps61
  go_wp2
  go_loop [9] (fun i => ∃ k : Nat, i = .int .i64 k ∧ k ≤ l.length ∧ Hid (belB most (l.take k) = true)) (fun i => l.length - (intOf i).toNat)
  case atStart => exact ⟨0, rfl, by omega, by show _ = _; simp [belB]⟩
  case round =>
    obtain ⟨k, rfl, hk, HA⟩ := hrel
    by_cases hlt : k < l.length
    · obtain rfl := hl.ad (by omega)
      have c1 := hl.el k hlt
      unfold ivF at c1
      rw [getD_lt _ _ _ hlt] at c1
      have HS := Lib.hid (all_take_succ l (fun x => decide (0 ≤ x) && decide (x < most)) k hlt)
      have HF0 : Hid ((decide (0 ≤ l[k]) && decide (l[k] < most)) = false → belB most l = false) := fun h => all_false_of l _ k hlt h
      generalize l[k] = x at *
      by_cases h0 : x < 0
      · have HF := Lib.hid (HF0.out (by simp; omega))
        go_wp2
        go_ret
        exact ⟨ret_bool (by rw [HF.out]), rfl⟩
      · by_cases h1 : most ≤ x
        · have HF := Lib.hid (HF0.out (by simp; omega))
          go_wp2
          go_ret
          exact ⟨ret_bool (by rw [HF.out]), rfl⟩
        · have HT : Hid (belB most (l.take (k + 1)) = true) := by
            show _ = _
            have := HA.out
            unfold belB at this ⊢
            rw [HS.out, this]; simp; omega
          go_wp2
          go_round
          case rel => exact ⟨k + 1, by go_num, by omega, HT⟩
          case measure => simp [intOf]; omega
    · obtain rfl : k = l.length := by omega
      have HF : Hid (belB most l = true) := by
        show _ = _
        have := HA.out
        rwa [List.take_length] at this
      go_wp2
      go_ret
      exact ⟨ret_bool (by rw [HF.out]), rfl⟩

theorem Letter_c (w : World) (x : Int) : Calls Tryd.prog 70 #[.int .i64 x] w (fun e w' => e = .returned (.bool (letB x)) ∧ w = w') := by
  by_cases h0 : 0 ≤ x
  · go_enter Tryd.func70, Tryd.ntmps70
    go_wp2
    go_ret
    exact ⟨ret_bool (by simp [letB]; omega), rfl⟩
  · go_enter Tryd.func70, Tryd.ntmps70
    go_wp2
    go_ret
    exact ⟨ret_bool (by simp [letB]; omega), rfl⟩

theorem formB_split (l : Ls) : formB l = (decide (l.stem.length ≤ 60) && decide (1 ≤ l.loop.length) && decide (l.loop.length ≤ 40) && belB 64 l.stem && belB 64 l.loop) := rfl

set_option maxHeartbeats 2000000 in
theorem formed_c (w : World) (v : Value) (l : Ls) (hl : IsLs w v l) :
    Calls Tryd.prog 55 #[v] w (Calm (.bool (formB l)) w) := by
  obtain ⟨v0, v1, rfl, h0, h1⟩ := hl
  have H0 := Lib.hid (fun (W : World) (hW : Below w.heap.size w W) => below_c W v0 l.stem 64 (h0.below hW))
  have H1 := Lib.hid (fun (W : World) (hW : Below w.heap.size w W) => below_c W v1 l.loop 64 (h1.below hW))
  obtain ⟨⟨a0, c0, b0, o0, rfl, g0⟩, -⟩ := h0
  obtain ⟨⟨a1, c1, b1, o1, rfl, g1⟩, -⟩ := h1
  have hn0 := g0.nb
  have hn1 := g1.nb
  have HF := Lib.hid (formB_split l)
  generalize belB 64 l.stem = r0 at *
  generalize belB 64 l.loop = r1 at *
  generalize formB l = r at *
  clear g0 g1
  by_cases q0 : (60 : Int) < l.stem.length
  · have HR : Hid (r = false) := by show _ = _; rw [HF.out]; simp; omega
    go_enter Tryd.func55, Tryd.ntmps55
    go_wp2
    go_ret
    exact ⟨ret_bool HR.out.symm, bel_box _⟩
  by_cases q1 : (l.loop.length : Int) < 1
  · have HR : Hid (r = false) := by show _ = _; rw [HF.out]; simp; omega
    go_enter Tryd.func55, Tryd.ntmps55
    go_wp2
    go_ret
    exact ⟨ret_bool HR.out.symm, bel_box _⟩
  by_cases q2 : (40 : Int) < l.loop.length
  · have HR : Hid (r = false) := by show _ = _; rw [HF.out]; simp; omega
    go_enter Tryd.func55, Tryd.ntmps55
    go_wp2
    go_ret
    exact ⟨ret_bool HR.out.symm, bel_box _⟩
  have HR : Hid (r = (r0 && r1)) := by
    show _ = _
    rw [HF.out, decide_eq_true (show l.stem.length ≤ 60 by omega), decide_eq_true (show 1 ≤ l.loop.length by omega), decide_eq_true (show l.loop.length ≤ 40 by omega)]
    rfl
  go_enter Tryd.func55, Tryd.ntmps55
  go_wp2_with fail
  refine (H0.out _ (bel_box _)).mono ?_
  rintro e w' ⟨rfl, rfl⟩
  cases r0 with
  | false =>
    go_wp2
    go_ret
    exact ⟨ret_bool (by rw [HR.out]; rfl), bel_box _⟩
  | true =>
    go_wp2_with fail
    refine (H1.out _ (bel_box _)).mono ?_
    rintro e w' ⟨rfl, rfl⟩
    go_wp2
    go_ret
    exact ⟨ret_bool (by rw [HR.out]; rfl), bel_box _⟩

set_option maxHeartbeats 2000000 in
theorem RFormed_c (w : World) (v : Value) (l : Ls) (hl : IsLs w v l) :
    Calls Tryd.prog 52 #[v] w (Calm (.bool (formB l)) w) := by
  obtain ⟨v0, v1, rfl, h0, h1⟩ := hl
  obtain ⟨⟨a0, c0, b0, o0, rfl, g0⟩, -⟩ := h0
  obtain ⟨⟨a1, c1, b1, o1, rfl, g1⟩, -⟩ := h1
  have hn0 := g0.nb
  have hn1 := g1.nb
  have HF := Lib.hid (formB_split l)
  have HS0 := Lib.hid (fun k (h : k < l.stem.length) (hb : letB l.stem[k] = false) => all_false_of l.stem letB k h hb)
  have HS1 := Lib.hid (fun k (h : k < l.loop.length) (hb : letB l.loop[k] = false) => all_false_of l.loop letB k h hb)
  rw [belB_let, belB_let] at HF
  generalize formB l = r at *
  by_cases q0 : (60 : Int) < l.stem.length
  · have HR : Hid (r = false) := by show _ = _; rw [HF.out]; simp; omega
    go_enter Tryd.func52, Tryd.ntmps52
    go_wp2
    go_ret
    exact ⟨ret_bool HR.out.symm, bel_box _⟩
  by_cases q1 : (l.loop.length : Int) < 1
  · have HR : Hid (r = false) := by show _ = _; rw [HF.out]; simp; omega
    go_enter Tryd.func52, Tryd.ntmps52
    go_wp2
    go_ret
    exact ⟨ret_bool HR.out.symm, bel_box _⟩
  by_cases q2 : (40 : Int) < l.loop.length
  · have HR : Hid (r = false) := by show _ = _; rw [HF.out]; simp; omega
    go_enter Tryd.func52, Tryd.ntmps52
    go_wp2
    go_ret
    exact ⟨ret_bool HR.out.symm, bel_box _⟩
  have HR : Hid (r = (l.stem.all letB && l.loop.all letB)) := by
    show _ = _
    rw [HF.out, decide_eq_true (show l.stem.length ≤ 60 by omega), decide_eq_true (show 1 ≤ l.loop.length by omega), decide_eq_true (show l.loop.length ≤ 40 by omega)]
    rfl
  clear HF
  go_enter Tryd.func52, Tryd.ntmps52
  go_wp2
  have hB0 : Below w.heap.size w (w.alloc (Obj.cells #[Value.slice a0 l.stem.length c0, Value.slice a1 l.loop.length c1] 57)) := bel_box _
  have cA : (w.alloc (Obj.cells #[Value.slice a0 l.stem.length c0, Value.slice a1 l.loop.length c1] 57)).cell? ⟨w.heap.size, 0, none⟩ = some (Value.slice a0 l.stem.length c0) := boxCell 0 (Below.refl _ _) rfl
  have cB : (w.alloc (Obj.cells #[Value.slice a0 l.stem.length c0, Value.slice a1 l.loop.length c1] 57)).cell? ⟨w.heap.size, 1, none⟩ = some (Value.slice a1 l.loop.length c1) := boxCell 1 (Below.refl _ _) rfl
  generalize (w.alloc (Obj.cells #[Value.slice a0 l.stem.length c0, Value.slice a1 l.loop.length c1] 57)) = w1 at *
  go_loop [3] (fun i => ∃ k : Nat, i = .int .i64 k ∧ k ≤ l.stem.length ∧ Hid ((l.stem.take k).all letB = true)) (fun i => l.stem.length - (intOf i).toNat)
  case atStart => exact ⟨0, rfl, by omega, by show _ = _; simp⟩
  case round =>
    obtain ⟨k, rfl, hk, HA⟩ := hrel
    by_cases hlt : k < l.stem.length
    · obtain rfl := g0.ad (by omega)
      have e1 := cellB hB0 (g0.el k hlt)
      unfold ivF at e1
      rw [getD_lt _ _ _ hlt] at e1
      have HS := Lib.hid (all_take_succ l.stem letB k hlt)
      have HF0 := Lib.hid (HS0.out k hlt)
      generalize l.stem[k] = x at *
      go_wp2_with fail
      refine (Letter_c _ x).mono ?_
      rintro e w2 ⟨rfl, rfl⟩
      cases hx : letB x
      · have HF := Lib.hid (HF0.out hx)
        go_wp2
        go_ret
        exact ⟨ret_bool (by rw [HR.out, HF.out]; rfl), hB0⟩
      · have HT : Hid ((l.stem.take (k + 1)).all letB = true) := by show _ = _; rw [HS.out, HA.out, hx]; rfl
        go_wp2
        go_round
        case rel => exact ⟨k + 1, by go_num, by omega, HT⟩
        case measure => simp [intOf]; omega
    · obtain rfl : k = l.stem.length := by omega
      have HT : Hid (l.stem.all letB = true) := by
        show _ = _
        have := HA.out
        rwa [List.take_length] at this
      clear HA hk hlt
      go_wp2
      go_loop [5] (fun i => ∃ k : Nat, i = .int .i64 k ∧ k ≤ l.loop.length ∧ Hid ((l.loop.take k).all letB = true)) (fun i => l.loop.length - (intOf i).toNat)
      case atStart => exact ⟨0, rfl, by omega, by show _ = _; simp⟩
      case round =>
        obtain ⟨k, rfl, hk, HA⟩ := hrel
        by_cases hlt : k < l.loop.length
        · obtain rfl := g1.ad (by omega)
          have e1 := cellB hB0 (g1.el k hlt)
          unfold ivF at e1
          rw [getD_lt _ _ _ hlt] at e1
          have HS := Lib.hid (all_take_succ l.loop letB k hlt)
          have HF0 := Lib.hid (HS1.out k hlt)
          generalize l.loop[k] = x at *
          go_wp2_with fail
          refine (Letter_c _ x).mono ?_
          rintro e w2 ⟨rfl, rfl⟩
          cases hx : letB x
          · have HF := Lib.hid (HF0.out hx)
            go_wp2
            go_ret
            exact ⟨ret_bool (by rw [HR.out, HF.out, Bool.and_false]), hB0⟩
          · have HT : Hid ((l.loop.take (k + 1)).all letB = true) := by show _ = _; rw [HS.out, HA.out, hx]; rfl
            go_wp2
            go_round
            case rel => exact ⟨k + 1, by go_num, by omega, HT⟩
            case measure => simp [intOf]; omega
        · obtain rfl : k = l.loop.length := by omega
          have HT2 : Hid (l.loop.all letB = true) := by
            show _ = _
            have := HA.out
            rwa [List.take_length] at this
          go_wp2
          go_ret
          exact ⟨ret_bool (by rw [HR.out, HT.out, HT2.out]; rfl), hB0⟩

theorem atL_small {l : Ls} {i : Nat} (h : i < l.stem.length) : atL l i = l.stem[i] := by rw [atL_stem h]; exact getD_lt _ _ _ h

theorem atL_big {l : Ls} {i : Nat} (h : l.stem.length ≤ i) (hm : (i - l.stem.length) % l.loop.length < l.loop.length) : atL l i = l.loop[(i - l.stem.length) % l.loop.length] := by
  unfold atL
  rw [if_neg (by omega)]
  exact getD_lt _ _ _ hm

set_option maxHeartbeats 2000000 in
theorem pick_c (w : World) (v : Value) (l : Ls) (i : Nat) (hl : IsLs w v l) (hp : 0 < l.loop.length) (hi : I64 i) :
    Calls Tryd.prog 56 #[v, .int .i64 (i : Int)] w (Calm (.int .i64 (atL l i)) w) := by
  obtain ⟨v0, v1, rfl, h0, h1⟩ := hl
  obtain ⟨⟨a0, c0, b0, o0, rfl, g0⟩, -⟩ := h0
  obtain ⟨⟨a1, c1, b1, o1, rfl, g1⟩, -⟩ := h1
  have hn0 := g0.nb
  have hn1 := g1.nb
  unfold I64 at hi
  have hB0 : Below w.heap.size w (w.alloc (Obj.cells #[Value.slice a0 l.stem.length c0, Value.slice a1 l.loop.length c1] 57)) := bel_box _
  by_cases hlt : i < l.stem.length
  · obtain rfl := g0.ad (by omega)
    have e1 := cellB hB0 (g0.el i hlt)
    unfold ivF at e1
    rw [getD_lt _ _ _ hlt] at e1
    have HR := Lib.hid (atL_small hlt)
    generalize l.stem[i] = x at *
    go_enter Tryd.func56, Tryd.ntmps56
    go_wp2
    go_ret
    exact ⟨ret_int HR.out.symm, hB0⟩
  · have hm := Nat.mod_lt (i - l.stem.length) hp
    obtain rfl := g1.ad hp
    have e1 := cellB hB0 (g1.el _ hm)
    unfold ivF at e1
    rw [getD_lt _ _ _ hm] at e1
    have HR := Lib.hid (atL_big (by omega) hm)
    have hw1 : IntKind.i64.wrap ((i : Int) - l.stem.length) = ((i - l.stem.length : Nat) : Int) := by rw [IntWalk.i64_in _ ⟨by omega, by omega⟩]; omega
    have ht : ((i - l.stem.length : Nat) : Int).tmod (l.loop.length : Int) = (((i - l.stem.length) % l.loop.length : Nat) : Int) := by rw [Int.tmod_eq_emod_of_nonneg (by omega)]; omega
    have hz : ¬ (l.loop.length : Int) = 0 := by omega
    have hw2 : IntKind.i64.wrap (((i - l.stem.length) % l.loop.length : Nat) : Int) = (((i - l.stem.length) % l.loop.length : Nat) : Int) := IntWalk.i64_in _ ⟨by omega, by omega⟩
    generalize (i - l.stem.length) % l.loop.length = q at *
    generalize l.loop[q] = x at *
    generalize i - l.stem.length = d at *
    go_enter Tryd.func56, Tryd.ntmps56
    go_wp2
    have cA : (w.alloc (Obj.cells #[Value.slice a0 l.stem.length c0, Value.slice (some ⟨b1, o1, none⟩) l.loop.length c1] 57)).cell? ⟨w.heap.size, 0, none⟩ = some (Value.slice a0 l.stem.length c0) := boxCell 0 (Below.refl _ _) rfl
    have cB : (w.alloc (Obj.cells #[Value.slice a0 l.stem.length c0, Value.slice (some ⟨b1, o1, none⟩) l.loop.length c1] 57)).cell? ⟨w.heap.size, 1, none⟩ = some (Value.slice (some ⟨b1, o1, none⟩) l.loop.length c1) := boxCell 1 (Below.refl _ _) rfl
    generalize (w.alloc (Obj.cells #[Value.slice a0 l.stem.length c0, Value.slice (some ⟨b1, o1, none⟩) l.loop.length c1] 57)) = w1 at *
    go_quiet (fail)
    go_wp2
    go_ret
    exact ⟨ret_int HR.out.symm, belD hB0 _⟩

theorem IsInts.take {w : World} {ao : Option Addr} {cap b off : Nat} {l : List Int} (h : ArrAt w ao cap b off l.length (ivF l)) (hr : ∀ x ∈ l, I64 x) (k : Nat) (hk : k ≤ l.length) :
    IsInts w (.slice ao k cap) (l.take k) := by
  have := h.lc
  have hl : (l.take k).length = k := by rw [List.length_take]; omega
  refine ⟨⟨ao, cap, b, off, by rw [hl], ⟨by omega, h.cm, by have := h.nm; omega, h.nc, fun h0 => h.ad (by omega), fun j hj => ?_⟩⟩, fun x hx => hr x (List.mem_of_mem_take hx)⟩
  rw [hl] at hj
  rw [ivF_take _ hj]
  exact h.el j (by omega)

/-- A lasso made for the call, its slices in view. -/
def NewT (l : Ls) (w : World) (e : Ending) (w' : World) : Prop :=
  ∃ a b c d, e = .returned (.agg #[.slice a l.stem.length b, .slice c l.loop.length d]) ∧ Hid (IsInts w' (.slice a l.stem.length b) l.stem) ∧ Hid (IsInts w' (.slice c l.loop.length d) l.loop) ∧ Below w.heap.size w w'

theorem NewL.t {l : Ls} {w w' : World} {e : Ending} (h : NewL l w e w') : NewT l w e w' := by
  obtain ⟨v, rfl, ⟨v0, v1, rfl, h0, h1⟩, hb⟩ := h
  have k0 := h0
  have k1 := h1
  obtain ⟨⟨a0, c0, b0, o0, rfl, g0⟩, -⟩ := h0
  obtain ⟨⟨a1, c1, b1, o1, rfl, g1⟩, -⟩ := h1
  exact ⟨a0, c0, a1, c1, rfl, k0, k1, hb⟩

/-- The program's At and the reference's: one text for both. -/
theorem atI_neg {l : Ls} {i : Int} (h : i < 0) : atI l i = -1 := if_neg (by omega)

theorem atI_not {l : Ls} {i : Int} (h : formB l = false) : atI l i = -1 := if_neg (by rw [h]; simp)

theorem atI_nat {l : Ls} {i : Int} (h0 : 0 ≤ i) (h : formB l = true) : atI l i = atL l i.toNat := if_pos ⟨h0, h⟩

set_option maxHeartbeats 2000000 in
theorem At_c (w : World) (v : Value) (l : Ls) (i : Int) (hl : IsLs w v l) (hi : I64 i) :
    Calls Tryd.prog 33 #[v, .int .i64 i] w (Calm (.int .i64 (atI l i)) w) := by
  have HF := Lib.hid (fun (W : World) (hW : Below w.heap.size w W) => formed_c W v l (hl.below hW))
  by_cases h0 : i < 0
  · have HR := Lib.hid (atI_neg (l := l) h0)
    obtain ⟨v0, v1, rfl, h0, h1⟩ := hl
    obtain ⟨⟨a0, c0, b0, o0, rfl, g0⟩, -⟩ := h0
    obtain ⟨⟨a1, c1, b1, o1, rfl, g1⟩, -⟩ := h1
    clear g0 g1
    go_enter Tryd.func33, Tryd.ntmps33
    go_wp2
    go_ret
    exact ⟨ret_int HR.out.symm, bel_box _⟩
  by_cases hf : formB l = true
  · obtain ⟨k, rfl⟩ : ∃ k : Nat, i = k := ⟨i.toNat, by omega⟩
    have HP := Lib.hid (fun (W : World) (hW : Below w.heap.size w W) => pick_c W v l k (hl.below hW) (form_pos hf) hi)
    have HR : Hid (atI l (k : Int) = atL l k) := by show _ = _; rw [atI_nat (by omega) hf]; rfl
    obtain ⟨v0, v1, rfl, h0, h1⟩ := hl
    obtain ⟨⟨a0, c0, b0, o0, rfl, g0⟩, -⟩ := h0
    obtain ⟨⟨a1, c1, b1, o1, rfl, g1⟩, -⟩ := h1
    rw [hf] at HF
    clear g0 g1 hf
    go_enter Tryd.func33, Tryd.ntmps33
    go_wp2_with fail
    refine (HF.out _ (bel_box _)).mono ?_
    rintro e w2 ⟨rfl, hb2⟩
    have hB2 := (bel_box (w := w) (Obj.cells #[Value.slice a0 l.stem.length c0, Value.slice a1 l.loop.length c1] 57)).trans (hb2.mono (by simp))
    have cA : w2.cell? ⟨w.heap.size, 0, none⟩ = some (Value.slice a0 l.stem.length c0) := boxCell 0 hb2 rfl
    have cB : w2.cell? ⟨w.heap.size, 1, none⟩ = some (Value.slice a1 l.loop.length c1) := boxCell 1 hb2 rfl
    clear hb2
    go_wp2_with fail
    refine (HP.out _ hB2).mono ?_
    rintro e w3 ⟨rfl, hb3⟩
    go_wp2
    go_ret
    exact ⟨ret_int HR.out.symm, hB2.trans (hb3.mono hB2.size)⟩
  · rw [Bool.not_eq_true] at hf
    have HR := Lib.hid (atI_not (i := i) hf)
    obtain ⟨v0, v1, rfl, h0, h1⟩ := hl
    obtain ⟨⟨a0, c0, b0, o0, rfl, g0⟩, -⟩ := h0
    obtain ⟨⟨a1, c1, b1, o1, rfl, g1⟩, -⟩ := h1
    rw [hf] at HF
    clear g0 g1 hf
    go_enter Tryd.func33, Tryd.ntmps33
    go_wp2_with fail
    refine (HF.out _ (bel_box _)).mono ?_
    rintro e w2 ⟨rfl, hb2⟩
    go_wp2
    go_ret
    exact ⟨ret_int HR.out.symm, (bel_box _).trans (hb2.mono (by simp))⟩

def ltB (k : Int) (l : List Int) : Bool := l.all fun x => decide (x < k)

theorem validI_eq (k : Int) (l : Ls) : validI k l = (ltB k l.stem && ltB k l.loop && formB l) := by
  unfold validI ltB
  cases formB l <;> simp

theorem all_nonneg {k : Int} {l : List Int} (h : l.all letB = true) : belB k l = ltB k l := by
  unfold belB ltB
  rw [Bool.eq_iff_iff, List.all_eq_true, List.all_eq_true]
  rw [List.all_eq_true] at h
  exact ⟨fun h2 x hx => by have := h2 x hx; simp at this; simpa using this.2, fun h2 x hx => by have h3 := h2 x hx; have h4 := (letB_iff x).1 (h x hx); simp at h3 ⊢; omega⟩

theorem valid_below (k : Int) (l : Ls) : validI k l = (formB l && belB k l.stem && belB k l.loop) := by
  rw [validI_eq]
  by_cases hf : formB l = true
  · obtain ⟨_, _, _, h1, h2⟩ := (formB_iff l).1 hf
    rw [all_nonneg (List.all_eq_true.2 h1), all_nonneg (List.all_eq_true.2 h2), hf]; simp
  · rw [Bool.not_eq_true] at hf
    rw [hf]; simp

set_option maxHeartbeats 2000000 in
theorem WValid_c (w : World) (v : Value) (l : Ls) (k : Int) (hl : IsLs w v l) :
    Calls Tryd.prog 38 #[.int .i64 k, v] w (Calm (.bool (validI k l)) w) := by
  have HF := Lib.hid (fun (W : World) (hW : Below w.heap.size w W) => formed_c W v l (hl.below hW))
  have HR := Lib.hid (valid_below k l)
  obtain ⟨v0, v1, rfl, h0, h1⟩ := hl
  have H0 := Lib.hid (fun (W : World) (hW : Below w.heap.size w W) => below_c W v0 l.stem k (h0.below hW))
  have H1 := Lib.hid (fun (W : World) (hW : Below w.heap.size w W) => below_c W v1 l.loop k (h1.below hW))
  obtain ⟨⟨a0, c0, b0, o0, rfl, g0⟩, -⟩ := h0
  obtain ⟨⟨a1, c1, b1, o1, rfl, g1⟩, -⟩ := h1
  clear g0 g1
  generalize validI k l = r at *
  generalize formB l = f at *
  generalize belB k l.stem = p at *
  generalize belB k l.loop = q at *
  go_enter Tryd.func38, Tryd.ntmps38
  go_wp2_with fail
  refine (HF.out _ (bel_box _)).mono ?_
  rintro e w2 ⟨rfl, hb2⟩
  have hB2 := (bel_box (w := w) (Obj.cells #[Value.slice a0 l.stem.length c0, Value.slice a1 l.loop.length c1] 57)).trans (hb2.mono (by simp))
  have cA : w2.cell? ⟨w.heap.size, 0, none⟩ = some (Value.slice a0 l.stem.length c0) := boxCell 0 hb2 rfl
  have cB : w2.cell? ⟨w.heap.size, 1, none⟩ = some (Value.slice a1 l.loop.length c1) := boxCell 1 hb2 rfl
  clear hb2
  cases f with
  | false =>
    go_wp2
    go_ret
    exact ⟨ret_bool (by rw [HR.out]; rfl), hB2⟩
  | true =>
    go_wp2_with fail
    refine (H0.out _ hB2).mono ?_
    rintro e w3 ⟨rfl, rfl⟩
    cases p with
    | false =>
      go_wp2
      go_ret
      exact ⟨ret_bool (by rw [HR.out]; rfl), hB2⟩
    | true =>
      go_wp2_with fail
      refine (H1.out _ hB2).mono ?_
      rintro e w3 ⟨rfl, rfl⟩
      go_wp2
      go_ret
      exact ⟨ret_bool (by rw [HR.out]; rfl), hB2⟩

set_option maxHeartbeats 2000000 in
theorem WRValid_c (w : World) (v : Value) (l : Ls) (z : Int) (hl : IsLs w v l) :
    Calls Tryd.prog 31 #[.int .i64 z, v] w (Calm (.bool (validI z l)) w) := by
  have HF := Lib.hid (fun (W : World) (hW : Below w.heap.size w W) => RFormed_c W v l (hl.below hW))
  have HR := Lib.hid (validI_eq z l)
  obtain ⟨v0, v1, rfl, h0, h1⟩ := hl
  obtain ⟨⟨a0, c0, b0, o0, rfl, g0⟩, -⟩ := h0
  obtain ⟨⟨a1, c1, b1, o1, rfl, g1⟩, -⟩ := h1
  have hn0 := g0.nb
  have hn1 := g1.nb
  have HS0 := Lib.hid (fun k (h : k < l.stem.length) (hb : decide (l.stem[k] < z) = false) => all_false_of l.stem (fun x => decide (x < z)) k h hb)
  have HS1 := Lib.hid (fun k (h : k < l.loop.length) (hb : decide (l.loop[k] < z) = false) => all_false_of l.loop (fun x => decide (x < z)) k h hb)
  generalize formB l = f at *
  generalize validI z l = r at *
  go_enter Tryd.func31, Tryd.ntmps31
  go_wp2
  have hB0 : Below w.heap.size w (w.alloc (Obj.cells #[Value.slice a0 l.stem.length c0, Value.slice a1 l.loop.length c1] 57)) := bel_box _
  have cA : (w.alloc (Obj.cells #[Value.slice a0 l.stem.length c0, Value.slice a1 l.loop.length c1] 57)).cell? ⟨w.heap.size, 0, none⟩ = some (Value.slice a0 l.stem.length c0) := boxCell 0 (Below.refl _ _) rfl
  have cB : (w.alloc (Obj.cells #[Value.slice a0 l.stem.length c0, Value.slice a1 l.loop.length c1] 57)).cell? ⟨w.heap.size, 1, none⟩ = some (Value.slice a1 l.loop.length c1) := boxCell 1 (Below.refl _ _) rfl
  generalize (w.alloc (Obj.cells #[Value.slice a0 l.stem.length c0, Value.slice a1 l.loop.length c1] 57)) = w1 at *
  go_loop [5] (fun i => ∃ k : Nat, i = .int .i64 k ∧ k ≤ l.stem.length ∧ Hid (ltB z (l.stem.take k) = true)) (fun i => l.stem.length - (intOf i).toNat)
  case atStart => exact ⟨0, rfl, by omega, by show _ = _; simp [ltB]⟩
  case round =>
    obtain ⟨k, rfl, hk, HA⟩ := hrel
    by_cases hlt : k < l.stem.length
    · obtain rfl := g0.ad (by omega)
      have e1 := cellB hB0 (g0.el k hlt)
      unfold ivF at e1
      rw [getD_lt _ _ _ hlt] at e1
      have HS := Lib.hid (all_take_succ l.stem (fun x => decide (x < z)) k hlt)
      have HF0 := Lib.hid (HS0.out k hlt)
      generalize l.stem[k] = x at *
      by_cases hx : z ≤ x
      · have HX : Hid (ltB z l.stem = false) := HF0.out (by simp; omega)
        go_wp2
        go_ret
        exact ⟨ret_bool (by rw [HR.out, HX.out]; rfl), hB0⟩
      · have HT : Hid (ltB z (l.stem.take (k + 1)) = true) := by show _ = _; unfold ltB; rw [HS.out]; have := HA.out; unfold ltB at this; rw [this]; simp; omega
        go_wp2
        go_round
        case rel => exact ⟨k + 1, by go_num, by omega, HT⟩
        case measure => simp [intOf]; omega
    · obtain rfl : k = l.stem.length := by omega
      have HT : Hid (ltB z l.stem = true) := by
        show _ = _
        have := HA.out
        rwa [List.take_length] at this
      clear HA hk hlt
      go_wp2
      go_loop [6] (fun i => ∃ k : Nat, i = .int .i64 k ∧ k ≤ l.loop.length ∧ Hid (ltB z (l.loop.take k) = true)) (fun i => l.loop.length - (intOf i).toNat)
      case atStart => exact ⟨0, rfl, by omega, by show _ = _; simp [ltB]⟩
      case round =>
        obtain ⟨k, rfl, hk, HA⟩ := hrel
        by_cases hlt : k < l.loop.length
        · obtain rfl := g1.ad (by omega)
          have e1 := cellB hB0 (g1.el k hlt)
          unfold ivF at e1
          rw [getD_lt _ _ _ hlt] at e1
          have HS := Lib.hid (all_take_succ l.loop (fun x => decide (x < z)) k hlt)
          have HF0 := Lib.hid (HS1.out k hlt)
          generalize l.loop[k] = x at *
          by_cases hx : z ≤ x
          · have HX : Hid (ltB z l.loop = false) := HF0.out (by simp; omega)
            go_wp2
            go_ret
            exact ⟨ret_bool (by rw [HR.out, HX.out, Bool.and_false]; rfl), hB0⟩
          · have HT : Hid (ltB z (l.loop.take (k + 1)) = true) := by show _ = _; unfold ltB; rw [HS.out]; have := HA.out; unfold ltB at this; rw [this]; simp; omega
            go_wp2
            go_round
            case rel => exact ⟨k + 1, by go_num, by omega, HT⟩
            case measure => simp [intOf]; omega
        · obtain rfl : k = l.loop.length := by omega
          have HT2 : Hid (ltB z l.loop = true) := by
            show _ = _
            have := HA.out
            rwa [List.take_length] at this
          go_wp2_with fail
          refine (HF.out _ hB0).mono ?_
          rintro e w2 ⟨rfl, hb2⟩
          go_wp2
          go_ret
          exact ⟨ret_bool (by rw [HR.out, HT.out, HT2.out]; rfl), hB0.trans (hb2.mono hB0.size)⟩

end Go.Proofs.YtjadeffdcbchnaaDoor
