/- What fine computes: whether signals and an automaton are well-formed, small, and fit. -/
import Derived.Test.YtjadeffdcbchnaaDoorArX
namespace Go.Proofs.YtjadeffdcbchnaaDoor
open Go.RowKit

def fineB (l : List Sig) (a : Au) : Bool := validS l && smallA a && validA a && (a.letters == lettersI l)
def RF0 (_w : World) (vl : Value) (_l : List Sig) (_a : Au) (_p2 _p3 : Option Addr) (_n2 _k2 _n3 _k3 : Nat) (ix : Nat) (u : Value) (_ : World) : Prop :=
  match ix with
  | 0 => u = vl
  | 1 => u = .bool false
  | 2 => u = .bool false
  | 3 => u = undef
  | 4 => u = undef
  | 5 => u = .bool false
  | 6 => u = .bool false
  | 7 => u = undef
  | 8 => u = undef
  | 9 => u = .bool false
  | 10 => u = .bool false
  | 11 => u = undef
  | 12 => u = undef
  | 13 => u = undef
  | 14 => u = undef
  | 15 => u = undef
  | 16 => u = .bool false
  | 17 => u = .bool false
  | _ => True

set_option maxRecDepth 100000 in
set_option maxHeartbeats 4000000 in
theorem fine_0 (w : World) (vl va : Value) (l : List Sig) (a : Au) (hl : IsSigs w vl l) (ha : IsAuto w va a) (h0 : validS l = false) :
    Calls Tryd.prog 24 #[vl, va] w (Calm (.bool false) w) := by
  have HS : Hid (∀ W, Below w.heap.size w W → Calls Tryd.prog 43 #[vl] W (Calm (.bool (validS l)) W)) := fun W h => RSValid_c W _ l (hl.below h)
  have HM : Hid (∀ W, Below w.heap.size w W → Calls Tryd.prog 11 #[va] W (Calm (.bool (smallA a)) W)) := fun W h => PSmall_c W _ a (ha.below h)
  have HA : Hid (∀ W, Below w.heap.size w W → Calls Tryd.prog 44 #[va] W (Calm (.bool (validA a)) W)) := fun W h => RPValid_c W _ a (ha.below h)
  have HL : Hid (∀ W, Below w.heap.size w W → Calls Tryd.prog 45 #[vl] W (Calm (.int .i64 (lettersI l)) W)) := fun W h => RLetters_c W _ l (hl.below h)
  rw [h0] at HS
  clear h0
  obtain ⟨p2, n2, k2, p3, n3, k3, rfl⟩ := ha.shp
  clear hl ha
  have hmx : Tryd.prog.follows .mixedOrders = true := by kernel_rfl
  go_enter Tryd.func24, Tryd.ntmps24
  go_upto_region 1 with (fail)
  obtain ⟨hx, hB0⟩ : (w.alloc (.cells #[.int .i64 a.letters, .int .i64 a.start, .slice p2 n2 k2, .slice p3 n3 k3] 25)).heap[w.heap.size]? = some (.cells #[.int .i64 a.letters, .int .i64 a.start, .slice p2 n2 k2, .slice p3 n3 k3] 25 (0, 0)) ∧ Below w.heap.size w (w.alloc (.cells #[.int .i64 a.letters, .int .i64 a.start, .slice p2 n2 k2, .slice p3 n3 k3] 25)) := ⟨heap_alloc_new _ _, bel_box _⟩
  generalize w.alloc (.cells #[.int .i64 a.letters, .int .i64 a.start, .slice p2 n2 k2, .slice p3 n3 k3] 25) = w1 at *
  have HB0 : Hid (∀ W, Below w1.drew.heap.size w1.drew W → Below w1.heap.size w1 W) := fun W h => (Below.drew (B := w1.heap.size) (Below.refl _ _)).trans h
  have HB1 : Hid (∀ W, Below w1.drew.heap.size w1.drew W → Below w.heap.size w W) := fun W h => hB0.trans ((HB0.out W h).mono hB0.size)
  have HPA : Hid (∀ W, Below w1.drew.heap.size w1.drew W → W.cell? ⟨w.heap.size, 0, none⟩ = some (.int .i64 a.letters) ∧ W.cell? ⟨w.heap.size, 1, none⟩ = some (.int .i64 a.start) ∧ W.cell? ⟨w.heap.size, 2, none⟩ = some (.slice p2 n2 k2) ∧ W.cell? ⟨w.heap.size, 3, none⟩ = some (.slice p3 n3 k3)) := fun W h => by
    have k := ((HB0.out W h).block _ (Array.getElem?_eq_some_iff.1 hx).1).trans hx
    exact ⟨cell_of_row _ _ 0 _ _ _ k, cell_of_row _ _ 1 _ _ _ k, cell_of_row _ _ 2 _ _ _ k, cell_of_row _ _ 3 _ _ _ k⟩
  clear hx hB0
  refine region_stable hmx (RF0 w vl l a p2 p3 n2 k2 n3 k3) (fun vs => { tmps := (_ :: _ :: _ :: _ :: vs 17 :: vs 0 :: vs 1 :: vs 2 :: vs 3 :: vs 4 :: vs 5 :: vs 6 :: vs 7 :: vs 8 :: vs 9 :: vs 10 :: vs 11 :: vs 12 :: vs 13 :: vs 14 :: vs 15 :: vs 16 :: []).toArray, defers := _ }) (fun k => if k = 17 then .bool false else undef) rfl (by kernel_rfl) (fun _ _ _ _ h _ => h) ?step ?fin
  case step =>
    intro ix o ho
    match ix, ho with
    | 0, ho =>
      obtain rfl := Option.some.inj ho
      intro vs W K hB hD hK
      have HK := Lib.hid hK
      clear hK hD ho
      dsimp only
      go_simp
      have h := HK.out _ _ (Below.refl _ _) rfl
      simp only [upd, Nat.reduceEqDiff, reduceIte] at h
      exact h
    | 1, ho =>
      obtain rfl := Option.some.inj ho
      intro vs W K hB hD hK
      have HK := Lib.hid hK
      have e0 : vs 0 = vl := dep_of hD 0 (by rfl)
      clear hK hD ho
      dsimp only
      go_simp
      refine (HS.out W (HB1.out W hB)).mono ?_
      rintro e W' ⟨rfl, hb⟩
      have h := HK.out _ _ hb rfl
      simp only [upd, Nat.reduceEqDiff, reduceIte, e0] at h
      exact h
    | 2, ho =>
      obtain rfl := Option.some.inj ho
      intro vs W K hB hD hK
      have HK := Lib.hid hK
      have e1 : vs 1 = .bool false := dep_of hD 1 (by rfl)
      clear hK hD ho
      dsimp only
      go_simp
      have h := HK.out _ _ (Below.refl _ _) rfl
      simp only [upd, Nat.reduceEqDiff, reduceIte, e1] at h
      exact h
    | 3, ho =>
      obtain rfl := Option.some.inj ho
      intro vs W K hB hD hK
      have HK := Lib.hid hK
      have e2 : vs 2 = .bool false := dep_of hD 2 (by rfl)
      clear hK hD ho
      dsimp only
      go_simp
      have h := HK.out _ _ (Below.refl _ _) rfl
      simp only [upd, Nat.reduceEqDiff, reduceIte, e2] at h
      exact h
    | 4, ho =>
      obtain rfl := Option.some.inj ho
      intro vs W K hB hD hK
      have HK := Lib.hid hK
      have e2 : vs 2 = .bool false := dep_of hD 2 (by rfl)
      clear hK hD ho
      dsimp only
      go_simp
      have h := HK.out _ _ (Below.refl _ _) rfl
      simp only [upd, Nat.reduceEqDiff, reduceIte, e2] at h
      exact h
    | 5, ho =>
      obtain rfl := Option.some.inj ho
      intro vs W K hB hD hK
      have HK := Lib.hid hK
      have e2 : vs 2 = .bool false := dep_of hD 2 (by rfl)
      clear hK hD ho
      dsimp only
      go_simp
      have h := HK.out _ _ (Below.refl _ _) rfl
      simp only [upd, Nat.reduceEqDiff, reduceIte, e2] at h
      exact h
    | 6, ho =>
      obtain rfl := Option.some.inj ho
      intro vs W K hB hD hK
      have HK := Lib.hid hK
      have e5 : vs 5 = .bool false := dep_of hD 5 (by rfl)
      clear hK hD ho
      dsimp only
      go_simp
      have h := HK.out _ _ (Below.refl _ _) rfl
      simp only [upd, Nat.reduceEqDiff, reduceIte, e5] at h
      exact h
    | 7, ho =>
      obtain rfl := Option.some.inj ho
      intro vs W K hB hD hK
      have HK := Lib.hid hK
      have e6 : vs 6 = .bool false := dep_of hD 6 (by rfl)
      clear hK hD ho
      dsimp only
      go_simp
      have h := HK.out _ _ (Below.refl _ _) rfl
      simp only [upd, Nat.reduceEqDiff, reduceIte, e6] at h
      exact h
    | 8, ho =>
      obtain rfl := Option.some.inj ho
      intro vs W K hB hD hK
      have HK := Lib.hid hK
      have e6 : vs 6 = .bool false := dep_of hD 6 (by rfl)
      clear hK hD ho
      dsimp only
      go_simp
      have h := HK.out _ _ (Below.refl _ _) rfl
      simp only [upd, Nat.reduceEqDiff, reduceIte, e6] at h
      exact h
    | 9, ho =>
      obtain rfl := Option.some.inj ho
      intro vs W K hB hD hK
      have HK := Lib.hid hK
      have e6 : vs 6 = .bool false := dep_of hD 6 (by rfl)
      clear hK hD ho
      dsimp only
      go_simp
      have h := HK.out _ _ (Below.refl _ _) rfl
      simp only [upd, Nat.reduceEqDiff, reduceIte, e6] at h
      exact h
    | 10, ho =>
      obtain rfl := Option.some.inj ho
      intro vs W K hB hD hK
      have HK := Lib.hid hK
      have e9 : vs 9 = .bool false := dep_of hD 9 (by rfl)
      clear hK hD ho
      dsimp only
      go_simp
      have h := HK.out _ _ (Below.refl _ _) rfl
      simp only [upd, Nat.reduceEqDiff, reduceIte, e9] at h
      exact h
    | 11, ho =>
      obtain rfl := Option.some.inj ho
      intro vs W K hB hD hK
      have HK := Lib.hid hK
      have e10 : vs 10 = .bool false := dep_of hD 10 (by rfl)
      clear hK hD ho
      dsimp only
      go_simp
      have h := HK.out _ _ (Below.refl _ _) rfl
      simp only [upd, Nat.reduceEqDiff, reduceIte, e10] at h
      exact h
    | 12, ho =>
      obtain rfl := Option.some.inj ho
      intro vs W K hB hD hK
      have HK := Lib.hid hK
      have e10 : vs 10 = .bool false := dep_of hD 10 (by rfl)
      clear hK hD ho
      dsimp only
      go_simp
      have h := HK.out _ _ (Below.refl _ _) rfl
      simp only [upd, Nat.reduceEqDiff, reduceIte, e10] at h
      exact h
    | 13, ho =>
      obtain rfl := Option.some.inj ho
      intro vs W K hB hD hK
      have HK := Lib.hid hK
      have e10 : vs 10 = .bool false := dep_of hD 10 (by rfl)
      clear hK hD ho
      dsimp only
      go_simp
      have h := HK.out _ _ (Below.refl _ _) rfl
      simp only [upd, Nat.reduceEqDiff, reduceIte, e10] at h
      exact h
    | 14, ho =>
      obtain rfl := Option.some.inj ho
      intro vs W K hB hD hK
      have HK := Lib.hid hK
      have e10 : vs 10 = .bool false := dep_of hD 10 (by rfl)
      clear hK hD ho
      dsimp only
      go_simp
      have h := HK.out _ _ (Below.refl _ _) rfl
      simp only [upd, Nat.reduceEqDiff, reduceIte, e10] at h
      exact h
    | 15, ho =>
      obtain rfl := Option.some.inj ho
      intro vs W K hB hD hK
      have HK := Lib.hid hK
      have e10 : vs 10 = .bool false := dep_of hD 10 (by rfl)
      clear hK hD ho
      dsimp only
      go_simp
      have h := HK.out _ _ (Below.refl _ _) rfl
      simp only [upd, Nat.reduceEqDiff, reduceIte, e10] at h
      exact h
    | 16, ho =>
      obtain rfl := Option.some.inj ho
      intro vs W K hB hD hK
      have HK := Lib.hid hK
      have e10 : vs 10 = .bool false := dep_of hD 10 (by rfl)
      clear hK hD ho
      dsimp only
      go_simp
      have h := HK.out _ _ (Below.refl _ _) rfl
      simp only [upd, Nat.reduceEqDiff, reduceIte, e10] at h
      exact h
    | 17, ho =>
      obtain rfl := Option.some.inj ho
      intro vs W K hB hD hK
      have HK := Lib.hid hK
      have e16 : vs 16 = .bool false := dep_of hD 16 (by rfl)
      clear hK hD ho
      dsimp only
      go_simp
      have h := HK.out _ _ (Below.refl _ _) rfl
      simp only [upd, Nat.reduceEqDiff, reduceIte, e16] at h
      exact h
    | q + 18, ho => exact absurd ho (by simp)
  case fin =>
    intro vs W hB hall
    have e17 : vs 17 = .bool false := hall 17 (by decide)
    have hB5 := HB1.out W hB
    clear hall hB
    rw [e17]
    clear e17
    go_wp2
    go_ret
    exact ⟨rfl, hB5⟩
def RF1 (_w : World) (vl : Value) (_l : List Sig) (a : Au) (p2 p3 : Option Addr) (n2 k2 n3 k3 : Nat) (ix : Nat) (u : Value) (_ : World) : Prop :=
  match ix with
  | 0 => u = vl
  | 1 => u = .bool true
  | 2 => u = .bool true
  | 3 => u = .agg #[.int .i64 a.letters, .int .i64 a.start, .slice p2 n2 k2, .slice p3 n3 k3]
  | 4 => u = .bool false
  | 5 => u = .bool false
  | 6 => u = .bool false
  | 7 => u = undef
  | 8 => u = undef
  | 9 => u = .bool false
  | 10 => u = .bool false
  | 11 => u = undef
  | 12 => u = undef
  | 13 => u = undef
  | 14 => u = undef
  | 15 => u = undef
  | 16 => u = .bool false
  | 17 => u = .bool false
  | _ => True

set_option maxRecDepth 100000 in
set_option maxHeartbeats 4000000 in
theorem fine_1 (w : World) (vl va : Value) (l : List Sig) (a : Au) (hl : IsSigs w vl l) (ha : IsAuto w va a) (h0 : validS l = true) (h1 : smallA a = false) :
    Calls Tryd.prog 24 #[vl, va] w (Calm (.bool false) w) := by
  have HS : Hid (∀ W, Below w.heap.size w W → Calls Tryd.prog 43 #[vl] W (Calm (.bool (validS l)) W)) := fun W h => RSValid_c W _ l (hl.below h)
  have HM : Hid (∀ W, Below w.heap.size w W → Calls Tryd.prog 11 #[va] W (Calm (.bool (smallA a)) W)) := fun W h => PSmall_c W _ a (ha.below h)
  have HA : Hid (∀ W, Below w.heap.size w W → Calls Tryd.prog 44 #[va] W (Calm (.bool (validA a)) W)) := fun W h => RPValid_c W _ a (ha.below h)
  have HL : Hid (∀ W, Below w.heap.size w W → Calls Tryd.prog 45 #[vl] W (Calm (.int .i64 (lettersI l)) W)) := fun W h => RLetters_c W _ l (hl.below h)
  rw [h0] at HS
  rw [h1] at HM
  clear h0 h1
  obtain ⟨p2, n2, k2, p3, n3, k3, rfl⟩ := ha.shp
  clear hl ha
  have hmx : Tryd.prog.follows .mixedOrders = true := by kernel_rfl
  go_enter Tryd.func24, Tryd.ntmps24
  go_upto_region 1 with (fail)
  obtain ⟨hx, hB0⟩ : (w.alloc (.cells #[.int .i64 a.letters, .int .i64 a.start, .slice p2 n2 k2, .slice p3 n3 k3] 25)).heap[w.heap.size]? = some (.cells #[.int .i64 a.letters, .int .i64 a.start, .slice p2 n2 k2, .slice p3 n3 k3] 25 (0, 0)) ∧ Below w.heap.size w (w.alloc (.cells #[.int .i64 a.letters, .int .i64 a.start, .slice p2 n2 k2, .slice p3 n3 k3] 25)) := ⟨heap_alloc_new _ _, bel_box _⟩
  generalize w.alloc (.cells #[.int .i64 a.letters, .int .i64 a.start, .slice p2 n2 k2, .slice p3 n3 k3] 25) = w1 at *
  have HB0 : Hid (∀ W, Below w1.drew.heap.size w1.drew W → Below w1.heap.size w1 W) := fun W h => (Below.drew (B := w1.heap.size) (Below.refl _ _)).trans h
  have HB1 : Hid (∀ W, Below w1.drew.heap.size w1.drew W → Below w.heap.size w W) := fun W h => hB0.trans ((HB0.out W h).mono hB0.size)
  have HPA : Hid (∀ W, Below w1.drew.heap.size w1.drew W → W.cell? ⟨w.heap.size, 0, none⟩ = some (.int .i64 a.letters) ∧ W.cell? ⟨w.heap.size, 1, none⟩ = some (.int .i64 a.start) ∧ W.cell? ⟨w.heap.size, 2, none⟩ = some (.slice p2 n2 k2) ∧ W.cell? ⟨w.heap.size, 3, none⟩ = some (.slice p3 n3 k3)) := fun W h => by
    have k := ((HB0.out W h).block _ (Array.getElem?_eq_some_iff.1 hx).1).trans hx
    exact ⟨cell_of_row _ _ 0 _ _ _ k, cell_of_row _ _ 1 _ _ _ k, cell_of_row _ _ 2 _ _ _ k, cell_of_row _ _ 3 _ _ _ k⟩
  clear hx hB0
  refine region_stable hmx (RF1 w vl l a p2 p3 n2 k2 n3 k3) (fun vs => { tmps := (_ :: _ :: _ :: _ :: vs 17 :: vs 0 :: vs 1 :: vs 2 :: vs 3 :: vs 4 :: vs 5 :: vs 6 :: vs 7 :: vs 8 :: vs 9 :: vs 10 :: vs 11 :: vs 12 :: vs 13 :: vs 14 :: vs 15 :: vs 16 :: []).toArray, defers := _ }) (fun k => if k = 17 then .bool false else undef) rfl (by kernel_rfl) (fun _ _ _ _ h _ => h) ?step ?fin
  case step =>
    intro ix o ho
    match ix, ho with
    | 0, ho =>
      obtain rfl := Option.some.inj ho
      intro vs W K hB hD hK
      have HK := Lib.hid hK
      clear hK hD ho
      dsimp only
      go_simp
      have h := HK.out _ _ (Below.refl _ _) rfl
      simp only [upd, Nat.reduceEqDiff, reduceIte] at h
      exact h
    | 1, ho =>
      obtain rfl := Option.some.inj ho
      intro vs W K hB hD hK
      have HK := Lib.hid hK
      have e0 : vs 0 = vl := dep_of hD 0 (by rfl)
      clear hK hD ho
      dsimp only
      go_simp
      refine (HS.out W (HB1.out W hB)).mono ?_
      rintro e W' ⟨rfl, hb⟩
      have h := HK.out _ _ hb rfl
      simp only [upd, Nat.reduceEqDiff, reduceIte, e0] at h
      exact h
    | 2, ho =>
      obtain rfl := Option.some.inj ho
      intro vs W K hB hD hK
      have HK := Lib.hid hK
      have e1 : vs 1 = .bool true := dep_of hD 1 (by rfl)
      clear hK hD ho
      dsimp only
      go_simp
      have h := HK.out _ _ (Below.refl _ _) rfl
      simp only [upd, Nat.reduceEqDiff, reduceIte, e1] at h
      exact h
    | 3, ho =>
      obtain rfl := Option.some.inj ho
      intro vs W K hB hD hK
      have HK := Lib.hid hK
      have e2 : vs 2 = .bool true := dep_of hD 2 (by rfl)
      obtain ⟨d0, d1, d2, d3⟩ := HPA.out W hB
      clear hK hD ho
      dsimp only
      go_simp
      have h := HK.out _ _ (Below.refl _ _) rfl
      simp only [upd, Nat.reduceEqDiff, reduceIte, e2] at h
      exact h
    | 4, ho =>
      obtain rfl := Option.some.inj ho
      intro vs W K hB hD hK
      have HK := Lib.hid hK
      have e2 : vs 2 = .bool true := dep_of hD 2 (by rfl)
      have e3 : vs 3 = .agg #[.int .i64 a.letters, .int .i64 a.start, .slice p2 n2 k2, .slice p3 n3 k3] := dep_of hD 3 (by rfl)
      clear hK hD ho
      dsimp only
      go_simp
      refine (HM.out W (HB1.out W hB)).mono ?_
      rintro e W' ⟨rfl, hb⟩
      have h := HK.out _ _ hb rfl
      simp only [upd, Nat.reduceEqDiff, reduceIte, e2, e3] at h
      exact h
    | 5, ho =>
      obtain rfl := Option.some.inj ho
      intro vs W K hB hD hK
      have HK := Lib.hid hK
      have e2 : vs 2 = .bool true := dep_of hD 2 (by rfl)
      have e4 : vs 4 = .bool false := dep_of hD 4 (by rfl)
      clear hK hD ho
      dsimp only
      go_simp
      have h := HK.out _ _ (Below.refl _ _) rfl
      simp only [upd, Nat.reduceEqDiff, reduceIte, e2, e4] at h
      exact h
    | 6, ho =>
      obtain rfl := Option.some.inj ho
      intro vs W K hB hD hK
      have HK := Lib.hid hK
      have e5 : vs 5 = .bool false := dep_of hD 5 (by rfl)
      clear hK hD ho
      dsimp only
      go_simp
      have h := HK.out _ _ (Below.refl _ _) rfl
      simp only [upd, Nat.reduceEqDiff, reduceIte, e5] at h
      exact h
    | 7, ho =>
      obtain rfl := Option.some.inj ho
      intro vs W K hB hD hK
      have HK := Lib.hid hK
      have e6 : vs 6 = .bool false := dep_of hD 6 (by rfl)
      clear hK hD ho
      dsimp only
      go_simp
      have h := HK.out _ _ (Below.refl _ _) rfl
      simp only [upd, Nat.reduceEqDiff, reduceIte, e6] at h
      exact h
    | 8, ho =>
      obtain rfl := Option.some.inj ho
      intro vs W K hB hD hK
      have HK := Lib.hid hK
      have e6 : vs 6 = .bool false := dep_of hD 6 (by rfl)
      clear hK hD ho
      dsimp only
      go_simp
      have h := HK.out _ _ (Below.refl _ _) rfl
      simp only [upd, Nat.reduceEqDiff, reduceIte, e6] at h
      exact h
    | 9, ho =>
      obtain rfl := Option.some.inj ho
      intro vs W K hB hD hK
      have HK := Lib.hid hK
      have e6 : vs 6 = .bool false := dep_of hD 6 (by rfl)
      clear hK hD ho
      dsimp only
      go_simp
      have h := HK.out _ _ (Below.refl _ _) rfl
      simp only [upd, Nat.reduceEqDiff, reduceIte, e6] at h
      exact h
    | 10, ho =>
      obtain rfl := Option.some.inj ho
      intro vs W K hB hD hK
      have HK := Lib.hid hK
      have e9 : vs 9 = .bool false := dep_of hD 9 (by rfl)
      clear hK hD ho
      dsimp only
      go_simp
      have h := HK.out _ _ (Below.refl _ _) rfl
      simp only [upd, Nat.reduceEqDiff, reduceIte, e9] at h
      exact h
    | 11, ho =>
      obtain rfl := Option.some.inj ho
      intro vs W K hB hD hK
      have HK := Lib.hid hK
      have e10 : vs 10 = .bool false := dep_of hD 10 (by rfl)
      clear hK hD ho
      dsimp only
      go_simp
      have h := HK.out _ _ (Below.refl _ _) rfl
      simp only [upd, Nat.reduceEqDiff, reduceIte, e10] at h
      exact h
    | 12, ho =>
      obtain rfl := Option.some.inj ho
      intro vs W K hB hD hK
      have HK := Lib.hid hK
      have e10 : vs 10 = .bool false := dep_of hD 10 (by rfl)
      clear hK hD ho
      dsimp only
      go_simp
      have h := HK.out _ _ (Below.refl _ _) rfl
      simp only [upd, Nat.reduceEqDiff, reduceIte, e10] at h
      exact h
    | 13, ho =>
      obtain rfl := Option.some.inj ho
      intro vs W K hB hD hK
      have HK := Lib.hid hK
      have e10 : vs 10 = .bool false := dep_of hD 10 (by rfl)
      clear hK hD ho
      dsimp only
      go_simp
      have h := HK.out _ _ (Below.refl _ _) rfl
      simp only [upd, Nat.reduceEqDiff, reduceIte, e10] at h
      exact h
    | 14, ho =>
      obtain rfl := Option.some.inj ho
      intro vs W K hB hD hK
      have HK := Lib.hid hK
      have e10 : vs 10 = .bool false := dep_of hD 10 (by rfl)
      clear hK hD ho
      dsimp only
      go_simp
      have h := HK.out _ _ (Below.refl _ _) rfl
      simp only [upd, Nat.reduceEqDiff, reduceIte, e10] at h
      exact h
    | 15, ho =>
      obtain rfl := Option.some.inj ho
      intro vs W K hB hD hK
      have HK := Lib.hid hK
      have e10 : vs 10 = .bool false := dep_of hD 10 (by rfl)
      clear hK hD ho
      dsimp only
      go_simp
      have h := HK.out _ _ (Below.refl _ _) rfl
      simp only [upd, Nat.reduceEqDiff, reduceIte, e10] at h
      exact h
    | 16, ho =>
      obtain rfl := Option.some.inj ho
      intro vs W K hB hD hK
      have HK := Lib.hid hK
      have e10 : vs 10 = .bool false := dep_of hD 10 (by rfl)
      clear hK hD ho
      dsimp only
      go_simp
      have h := HK.out _ _ (Below.refl _ _) rfl
      simp only [upd, Nat.reduceEqDiff, reduceIte, e10] at h
      exact h
    | 17, ho =>
      obtain rfl := Option.some.inj ho
      intro vs W K hB hD hK
      have HK := Lib.hid hK
      have e16 : vs 16 = .bool false := dep_of hD 16 (by rfl)
      clear hK hD ho
      dsimp only
      go_simp
      have h := HK.out _ _ (Below.refl _ _) rfl
      simp only [upd, Nat.reduceEqDiff, reduceIte, e16] at h
      exact h
    | q + 18, ho => exact absurd ho (by simp)
  case fin =>
    intro vs W hB hall
    have e17 : vs 17 = .bool false := hall 17 (by decide)
    have hB5 := HB1.out W hB
    clear hall hB
    rw [e17]
    clear e17
    go_wp2
    go_ret
    exact ⟨rfl, hB5⟩
def RF2 (_w : World) (vl : Value) (_l : List Sig) (a : Au) (p2 p3 : Option Addr) (n2 k2 n3 k3 : Nat) (ix : Nat) (u : Value) (_ : World) : Prop :=
  match ix with
  | 0 => u = vl
  | 1 => u = .bool true
  | 2 => u = .bool true
  | 3 => u = .agg #[.int .i64 a.letters, .int .i64 a.start, .slice p2 n2 k2, .slice p3 n3 k3]
  | 4 => u = .bool true
  | 5 => u = .bool true
  | 6 => u = .bool true
  | 7 => u = .agg #[.int .i64 a.letters, .int .i64 a.start, .slice p2 n2 k2, .slice p3 n3 k3]
  | 8 => u = .bool false
  | 9 => u = .bool false
  | 10 => u = .bool false
  | 11 => u = undef
  | 12 => u = undef
  | 13 => u = undef
  | 14 => u = undef
  | 15 => u = undef
  | 16 => u = .bool false
  | 17 => u = .bool false
  | _ => True

set_option maxRecDepth 100000 in
set_option maxHeartbeats 4000000 in
theorem fine_2 (w : World) (vl va : Value) (l : List Sig) (a : Au) (hl : IsSigs w vl l) (ha : IsAuto w va a) (h0 : validS l = true) (h1 : smallA a = true) (h2 : validA a = false) :
    Calls Tryd.prog 24 #[vl, va] w (Calm (.bool false) w) := by
  have HS : Hid (∀ W, Below w.heap.size w W → Calls Tryd.prog 43 #[vl] W (Calm (.bool (validS l)) W)) := fun W h => RSValid_c W _ l (hl.below h)
  have HM : Hid (∀ W, Below w.heap.size w W → Calls Tryd.prog 11 #[va] W (Calm (.bool (smallA a)) W)) := fun W h => PSmall_c W _ a (ha.below h)
  have HA : Hid (∀ W, Below w.heap.size w W → Calls Tryd.prog 44 #[va] W (Calm (.bool (validA a)) W)) := fun W h => RPValid_c W _ a (ha.below h)
  have HL : Hid (∀ W, Below w.heap.size w W → Calls Tryd.prog 45 #[vl] W (Calm (.int .i64 (lettersI l)) W)) := fun W h => RLetters_c W _ l (hl.below h)
  rw [h0] at HS
  rw [h1] at HM
  rw [h2] at HA
  clear h0 h1 h2
  obtain ⟨p2, n2, k2, p3, n3, k3, rfl⟩ := ha.shp
  clear hl ha
  have hmx : Tryd.prog.follows .mixedOrders = true := by kernel_rfl
  go_enter Tryd.func24, Tryd.ntmps24
  go_upto_region 1 with (fail)
  obtain ⟨hx, hB0⟩ : (w.alloc (.cells #[.int .i64 a.letters, .int .i64 a.start, .slice p2 n2 k2, .slice p3 n3 k3] 25)).heap[w.heap.size]? = some (.cells #[.int .i64 a.letters, .int .i64 a.start, .slice p2 n2 k2, .slice p3 n3 k3] 25 (0, 0)) ∧ Below w.heap.size w (w.alloc (.cells #[.int .i64 a.letters, .int .i64 a.start, .slice p2 n2 k2, .slice p3 n3 k3] 25)) := ⟨heap_alloc_new _ _, bel_box _⟩
  generalize w.alloc (.cells #[.int .i64 a.letters, .int .i64 a.start, .slice p2 n2 k2, .slice p3 n3 k3] 25) = w1 at *
  have HB0 : Hid (∀ W, Below w1.drew.heap.size w1.drew W → Below w1.heap.size w1 W) := fun W h => (Below.drew (B := w1.heap.size) (Below.refl _ _)).trans h
  have HB1 : Hid (∀ W, Below w1.drew.heap.size w1.drew W → Below w.heap.size w W) := fun W h => hB0.trans ((HB0.out W h).mono hB0.size)
  have HPA : Hid (∀ W, Below w1.drew.heap.size w1.drew W → W.cell? ⟨w.heap.size, 0, none⟩ = some (.int .i64 a.letters) ∧ W.cell? ⟨w.heap.size, 1, none⟩ = some (.int .i64 a.start) ∧ W.cell? ⟨w.heap.size, 2, none⟩ = some (.slice p2 n2 k2) ∧ W.cell? ⟨w.heap.size, 3, none⟩ = some (.slice p3 n3 k3)) := fun W h => by
    have k := ((HB0.out W h).block _ (Array.getElem?_eq_some_iff.1 hx).1).trans hx
    exact ⟨cell_of_row _ _ 0 _ _ _ k, cell_of_row _ _ 1 _ _ _ k, cell_of_row _ _ 2 _ _ _ k, cell_of_row _ _ 3 _ _ _ k⟩
  clear hx hB0
  refine region_stable hmx (RF2 w vl l a p2 p3 n2 k2 n3 k3) (fun vs => { tmps := (_ :: _ :: _ :: _ :: vs 17 :: vs 0 :: vs 1 :: vs 2 :: vs 3 :: vs 4 :: vs 5 :: vs 6 :: vs 7 :: vs 8 :: vs 9 :: vs 10 :: vs 11 :: vs 12 :: vs 13 :: vs 14 :: vs 15 :: vs 16 :: []).toArray, defers := _ }) (fun k => if k = 17 then .bool false else undef) rfl (by kernel_rfl) (fun _ _ _ _ h _ => h) ?step ?fin
  case step =>
    intro ix o ho
    match ix, ho with
    | 0, ho =>
      obtain rfl := Option.some.inj ho
      intro vs W K hB hD hK
      have HK := Lib.hid hK
      clear hK hD ho
      dsimp only
      go_simp
      have h := HK.out _ _ (Below.refl _ _) rfl
      simp only [upd, Nat.reduceEqDiff, reduceIte] at h
      exact h
    | 1, ho =>
      obtain rfl := Option.some.inj ho
      intro vs W K hB hD hK
      have HK := Lib.hid hK
      have e0 : vs 0 = vl := dep_of hD 0 (by rfl)
      clear hK hD ho
      dsimp only
      go_simp
      refine (HS.out W (HB1.out W hB)).mono ?_
      rintro e W' ⟨rfl, hb⟩
      have h := HK.out _ _ hb rfl
      simp only [upd, Nat.reduceEqDiff, reduceIte, e0] at h
      exact h
    | 2, ho =>
      obtain rfl := Option.some.inj ho
      intro vs W K hB hD hK
      have HK := Lib.hid hK
      have e1 : vs 1 = .bool true := dep_of hD 1 (by rfl)
      clear hK hD ho
      dsimp only
      go_simp
      have h := HK.out _ _ (Below.refl _ _) rfl
      simp only [upd, Nat.reduceEqDiff, reduceIte, e1] at h
      exact h
    | 3, ho =>
      obtain rfl := Option.some.inj ho
      intro vs W K hB hD hK
      have HK := Lib.hid hK
      have e2 : vs 2 = .bool true := dep_of hD 2 (by rfl)
      obtain ⟨d0, d1, d2, d3⟩ := HPA.out W hB
      clear hK hD ho
      dsimp only
      go_simp
      have h := HK.out _ _ (Below.refl _ _) rfl
      simp only [upd, Nat.reduceEqDiff, reduceIte, e2] at h
      exact h
    | 4, ho =>
      obtain rfl := Option.some.inj ho
      intro vs W K hB hD hK
      have HK := Lib.hid hK
      have e2 : vs 2 = .bool true := dep_of hD 2 (by rfl)
      have e3 : vs 3 = .agg #[.int .i64 a.letters, .int .i64 a.start, .slice p2 n2 k2, .slice p3 n3 k3] := dep_of hD 3 (by rfl)
      clear hK hD ho
      dsimp only
      go_simp
      refine (HM.out W (HB1.out W hB)).mono ?_
      rintro e W' ⟨rfl, hb⟩
      have h := HK.out _ _ hb rfl
      simp only [upd, Nat.reduceEqDiff, reduceIte, e2, e3] at h
      exact h
    | 5, ho =>
      obtain rfl := Option.some.inj ho
      intro vs W K hB hD hK
      have HK := Lib.hid hK
      have e2 : vs 2 = .bool true := dep_of hD 2 (by rfl)
      have e4 : vs 4 = .bool true := dep_of hD 4 (by rfl)
      clear hK hD ho
      dsimp only
      go_simp
      have h := HK.out _ _ (Below.refl _ _) rfl
      simp only [upd, Nat.reduceEqDiff, reduceIte, e2, e4] at h
      exact h
    | 6, ho =>
      obtain rfl := Option.some.inj ho
      intro vs W K hB hD hK
      have HK := Lib.hid hK
      have e5 : vs 5 = .bool true := dep_of hD 5 (by rfl)
      clear hK hD ho
      dsimp only
      go_simp
      have h := HK.out _ _ (Below.refl _ _) rfl
      simp only [upd, Nat.reduceEqDiff, reduceIte, e5] at h
      exact h
    | 7, ho =>
      obtain rfl := Option.some.inj ho
      intro vs W K hB hD hK
      have HK := Lib.hid hK
      have e6 : vs 6 = .bool true := dep_of hD 6 (by rfl)
      obtain ⟨d0, d1, d2, d3⟩ := HPA.out W hB
      clear hK hD ho
      dsimp only
      go_simp
      have h := HK.out _ _ (Below.refl _ _) rfl
      simp only [upd, Nat.reduceEqDiff, reduceIte, e6] at h
      exact h
    | 8, ho =>
      obtain rfl := Option.some.inj ho
      intro vs W K hB hD hK
      have HK := Lib.hid hK
      have e6 : vs 6 = .bool true := dep_of hD 6 (by rfl)
      have e7 : vs 7 = .agg #[.int .i64 a.letters, .int .i64 a.start, .slice p2 n2 k2, .slice p3 n3 k3] := dep_of hD 7 (by rfl)
      clear hK hD ho
      dsimp only
      go_simp
      refine (HA.out W (HB1.out W hB)).mono ?_
      rintro e W' ⟨rfl, hb⟩
      have h := HK.out _ _ hb rfl
      simp only [upd, Nat.reduceEqDiff, reduceIte, e6, e7] at h
      exact h
    | 9, ho =>
      obtain rfl := Option.some.inj ho
      intro vs W K hB hD hK
      have HK := Lib.hid hK
      have e6 : vs 6 = .bool true := dep_of hD 6 (by rfl)
      have e8 : vs 8 = .bool false := dep_of hD 8 (by rfl)
      clear hK hD ho
      dsimp only
      go_simp
      have h := HK.out _ _ (Below.refl _ _) rfl
      simp only [upd, Nat.reduceEqDiff, reduceIte, e6, e8] at h
      exact h
    | 10, ho =>
      obtain rfl := Option.some.inj ho
      intro vs W K hB hD hK
      have HK := Lib.hid hK
      have e9 : vs 9 = .bool false := dep_of hD 9 (by rfl)
      clear hK hD ho
      dsimp only
      go_simp
      have h := HK.out _ _ (Below.refl _ _) rfl
      simp only [upd, Nat.reduceEqDiff, reduceIte, e9] at h
      exact h
    | 11, ho =>
      obtain rfl := Option.some.inj ho
      intro vs W K hB hD hK
      have HK := Lib.hid hK
      have e10 : vs 10 = .bool false := dep_of hD 10 (by rfl)
      clear hK hD ho
      dsimp only
      go_simp
      have h := HK.out _ _ (Below.refl _ _) rfl
      simp only [upd, Nat.reduceEqDiff, reduceIte, e10] at h
      exact h
    | 12, ho =>
      obtain rfl := Option.some.inj ho
      intro vs W K hB hD hK
      have HK := Lib.hid hK
      have e10 : vs 10 = .bool false := dep_of hD 10 (by rfl)
      clear hK hD ho
      dsimp only
      go_simp
      have h := HK.out _ _ (Below.refl _ _) rfl
      simp only [upd, Nat.reduceEqDiff, reduceIte, e10] at h
      exact h
    | 13, ho =>
      obtain rfl := Option.some.inj ho
      intro vs W K hB hD hK
      have HK := Lib.hid hK
      have e10 : vs 10 = .bool false := dep_of hD 10 (by rfl)
      clear hK hD ho
      dsimp only
      go_simp
      have h := HK.out _ _ (Below.refl _ _) rfl
      simp only [upd, Nat.reduceEqDiff, reduceIte, e10] at h
      exact h
    | 14, ho =>
      obtain rfl := Option.some.inj ho
      intro vs W K hB hD hK
      have HK := Lib.hid hK
      have e10 : vs 10 = .bool false := dep_of hD 10 (by rfl)
      clear hK hD ho
      dsimp only
      go_simp
      have h := HK.out _ _ (Below.refl _ _) rfl
      simp only [upd, Nat.reduceEqDiff, reduceIte, e10] at h
      exact h
    | 15, ho =>
      obtain rfl := Option.some.inj ho
      intro vs W K hB hD hK
      have HK := Lib.hid hK
      have e10 : vs 10 = .bool false := dep_of hD 10 (by rfl)
      clear hK hD ho
      dsimp only
      go_simp
      have h := HK.out _ _ (Below.refl _ _) rfl
      simp only [upd, Nat.reduceEqDiff, reduceIte, e10] at h
      exact h
    | 16, ho =>
      obtain rfl := Option.some.inj ho
      intro vs W K hB hD hK
      have HK := Lib.hid hK
      have e10 : vs 10 = .bool false := dep_of hD 10 (by rfl)
      clear hK hD ho
      dsimp only
      go_simp
      have h := HK.out _ _ (Below.refl _ _) rfl
      simp only [upd, Nat.reduceEqDiff, reduceIte, e10] at h
      exact h
    | 17, ho =>
      obtain rfl := Option.some.inj ho
      intro vs W K hB hD hK
      have HK := Lib.hid hK
      have e16 : vs 16 = .bool false := dep_of hD 16 (by rfl)
      clear hK hD ho
      dsimp only
      go_simp
      have h := HK.out _ _ (Below.refl _ _) rfl
      simp only [upd, Nat.reduceEqDiff, reduceIte, e16] at h
      exact h
    | q + 18, ho => exact absurd ho (by simp)
  case fin =>
    intro vs W hB hall
    have e17 : vs 17 = .bool false := hall 17 (by decide)
    have hB5 := HB1.out W hB
    clear hall hB
    rw [e17]
    clear e17
    go_wp2
    go_ret
    exact ⟨rfl, hB5⟩
def RF3 (w : World) (vl : Value) (l : List Sig) (a : Au) (p2 p3 : Option Addr) (n2 k2 n3 k3 : Nat) (ix : Nat) (u : Value) (_ : World) : Prop :=
  match ix with
  | 0 => u = vl
  | 1 => u = .bool true
  | 2 => u = .bool true
  | 3 => u = .agg #[.int .i64 a.letters, .int .i64 a.start, .slice p2 n2 k2, .slice p3 n3 k3]
  | 4 => u = .bool true
  | 5 => u = .bool true
  | 6 => u = .bool true
  | 7 => u = .agg #[.int .i64 a.letters, .int .i64 a.start, .slice p2 n2 k2, .slice p3 n3 k3]
  | 8 => u = .bool true
  | 9 => u = .bool true
  | 10 => u = .bool true
  | 11 => u = .pointer (some ⟨w.heap.size, 0, none⟩)
  | 12 => u = .int .i64 a.letters
  | 13 => u = vl
  | 14 => u = .int .i64 (lettersI l)
  | 15 => u = .bool false
  | 16 => u = .bool false
  | 17 => u = .bool false
  | _ => True

set_option maxRecDepth 100000 in
set_option maxHeartbeats 4000000 in
theorem fine_3 (w : World) (vl va : Value) (l : List Sig) (a : Au) (hl : IsSigs w vl l) (ha : IsAuto w va a) (h0 : validS l = true) (h1 : smallA a = true) (h2 : validA a = true) (h3 : (a.letters == lettersI l) = false) :
    Calls Tryd.prog 24 #[vl, va] w (Calm (.bool false) w) := by
  have HS : Hid (∀ W, Below w.heap.size w W → Calls Tryd.prog 43 #[vl] W (Calm (.bool (validS l)) W)) := fun W h => RSValid_c W _ l (hl.below h)
  have HM : Hid (∀ W, Below w.heap.size w W → Calls Tryd.prog 11 #[va] W (Calm (.bool (smallA a)) W)) := fun W h => PSmall_c W _ a (ha.below h)
  have HA : Hid (∀ W, Below w.heap.size w W → Calls Tryd.prog 44 #[va] W (Calm (.bool (validA a)) W)) := fun W h => RPValid_c W _ a (ha.below h)
  have HL : Hid (∀ W, Below w.heap.size w W → Calls Tryd.prog 45 #[vl] W (Calm (.int .i64 (lettersI l)) W)) := fun W h => RLetters_c W _ l (hl.below h)
  rw [h0] at HS
  rw [h1] at HM
  rw [h2] at HA
  clear h0 h1 h2
  obtain ⟨p2, n2, k2, p3, n3, k3, rfl⟩ := ha.shp
  clear hl ha
  have hmx : Tryd.prog.follows .mixedOrders = true := by kernel_rfl
  go_enter Tryd.func24, Tryd.ntmps24
  go_upto_region 1 with (fail)
  obtain ⟨hx, hB0⟩ : (w.alloc (.cells #[.int .i64 a.letters, .int .i64 a.start, .slice p2 n2 k2, .slice p3 n3 k3] 25)).heap[w.heap.size]? = some (.cells #[.int .i64 a.letters, .int .i64 a.start, .slice p2 n2 k2, .slice p3 n3 k3] 25 (0, 0)) ∧ Below w.heap.size w (w.alloc (.cells #[.int .i64 a.letters, .int .i64 a.start, .slice p2 n2 k2, .slice p3 n3 k3] 25)) := ⟨heap_alloc_new _ _, bel_box _⟩
  generalize w.alloc (.cells #[.int .i64 a.letters, .int .i64 a.start, .slice p2 n2 k2, .slice p3 n3 k3] 25) = w1 at *
  have HB0 : Hid (∀ W, Below w1.drew.heap.size w1.drew W → Below w1.heap.size w1 W) := fun W h => (Below.drew (B := w1.heap.size) (Below.refl _ _)).trans h
  have HB1 : Hid (∀ W, Below w1.drew.heap.size w1.drew W → Below w.heap.size w W) := fun W h => hB0.trans ((HB0.out W h).mono hB0.size)
  have HPA : Hid (∀ W, Below w1.drew.heap.size w1.drew W → W.cell? ⟨w.heap.size, 0, none⟩ = some (.int .i64 a.letters) ∧ W.cell? ⟨w.heap.size, 1, none⟩ = some (.int .i64 a.start) ∧ W.cell? ⟨w.heap.size, 2, none⟩ = some (.slice p2 n2 k2) ∧ W.cell? ⟨w.heap.size, 3, none⟩ = some (.slice p3 n3 k3)) := fun W h => by
    have k := ((HB0.out W h).block _ (Array.getElem?_eq_some_iff.1 hx).1).trans hx
    exact ⟨cell_of_row _ _ 0 _ _ _ k, cell_of_row _ _ 1 _ _ _ k, cell_of_row _ _ 2 _ _ _ k, cell_of_row _ _ 3 _ _ _ k⟩
  clear hx hB0
  refine region_stable hmx (RF3 w vl l a p2 p3 n2 k2 n3 k3) (fun vs => { tmps := (_ :: _ :: _ :: _ :: vs 17 :: vs 0 :: vs 1 :: vs 2 :: vs 3 :: vs 4 :: vs 5 :: vs 6 :: vs 7 :: vs 8 :: vs 9 :: vs 10 :: vs 11 :: vs 12 :: vs 13 :: vs 14 :: vs 15 :: vs 16 :: []).toArray, defers := _ }) (fun k => if k = 17 then .bool false else undef) rfl (by kernel_rfl) (fun _ _ _ _ h _ => h) ?step ?fin
  case step =>
    intro ix o ho
    match ix, ho with
    | 0, ho =>
      obtain rfl := Option.some.inj ho
      intro vs W K hB hD hK
      have HK := Lib.hid hK
      clear hK hD ho
      dsimp only
      go_simp
      have h := HK.out _ _ (Below.refl _ _) rfl
      simp only [upd, Nat.reduceEqDiff, reduceIte] at h
      exact h
    | 1, ho =>
      obtain rfl := Option.some.inj ho
      intro vs W K hB hD hK
      have HK := Lib.hid hK
      have e0 : vs 0 = vl := dep_of hD 0 (by rfl)
      clear hK hD ho
      dsimp only
      go_simp
      refine (HS.out W (HB1.out W hB)).mono ?_
      rintro e W' ⟨rfl, hb⟩
      have h := HK.out _ _ hb rfl
      simp only [upd, Nat.reduceEqDiff, reduceIte, e0] at h
      exact h
    | 2, ho =>
      obtain rfl := Option.some.inj ho
      intro vs W K hB hD hK
      have HK := Lib.hid hK
      have e1 : vs 1 = .bool true := dep_of hD 1 (by rfl)
      clear hK hD ho
      dsimp only
      go_simp
      have h := HK.out _ _ (Below.refl _ _) rfl
      simp only [upd, Nat.reduceEqDiff, reduceIte, e1] at h
      exact h
    | 3, ho =>
      obtain rfl := Option.some.inj ho
      intro vs W K hB hD hK
      have HK := Lib.hid hK
      have e2 : vs 2 = .bool true := dep_of hD 2 (by rfl)
      obtain ⟨d0, d1, d2, d3⟩ := HPA.out W hB
      clear hK hD ho
      dsimp only
      go_simp
      have h := HK.out _ _ (Below.refl _ _) rfl
      simp only [upd, Nat.reduceEqDiff, reduceIte, e2] at h
      exact h
    | 4, ho =>
      obtain rfl := Option.some.inj ho
      intro vs W K hB hD hK
      have HK := Lib.hid hK
      have e2 : vs 2 = .bool true := dep_of hD 2 (by rfl)
      have e3 : vs 3 = .agg #[.int .i64 a.letters, .int .i64 a.start, .slice p2 n2 k2, .slice p3 n3 k3] := dep_of hD 3 (by rfl)
      clear hK hD ho
      dsimp only
      go_simp
      refine (HM.out W (HB1.out W hB)).mono ?_
      rintro e W' ⟨rfl, hb⟩
      have h := HK.out _ _ hb rfl
      simp only [upd, Nat.reduceEqDiff, reduceIte, e2, e3] at h
      exact h
    | 5, ho =>
      obtain rfl := Option.some.inj ho
      intro vs W K hB hD hK
      have HK := Lib.hid hK
      have e2 : vs 2 = .bool true := dep_of hD 2 (by rfl)
      have e4 : vs 4 = .bool true := dep_of hD 4 (by rfl)
      clear hK hD ho
      dsimp only
      go_simp
      have h := HK.out _ _ (Below.refl _ _) rfl
      simp only [upd, Nat.reduceEqDiff, reduceIte, e2, e4] at h
      exact h
    | 6, ho =>
      obtain rfl := Option.some.inj ho
      intro vs W K hB hD hK
      have HK := Lib.hid hK
      have e5 : vs 5 = .bool true := dep_of hD 5 (by rfl)
      clear hK hD ho
      dsimp only
      go_simp
      have h := HK.out _ _ (Below.refl _ _) rfl
      simp only [upd, Nat.reduceEqDiff, reduceIte, e5] at h
      exact h
    | 7, ho =>
      obtain rfl := Option.some.inj ho
      intro vs W K hB hD hK
      have HK := Lib.hid hK
      have e6 : vs 6 = .bool true := dep_of hD 6 (by rfl)
      obtain ⟨d0, d1, d2, d3⟩ := HPA.out W hB
      clear hK hD ho
      dsimp only
      go_simp
      have h := HK.out _ _ (Below.refl _ _) rfl
      simp only [upd, Nat.reduceEqDiff, reduceIte, e6] at h
      exact h
    | 8, ho =>
      obtain rfl := Option.some.inj ho
      intro vs W K hB hD hK
      have HK := Lib.hid hK
      have e6 : vs 6 = .bool true := dep_of hD 6 (by rfl)
      have e7 : vs 7 = .agg #[.int .i64 a.letters, .int .i64 a.start, .slice p2 n2 k2, .slice p3 n3 k3] := dep_of hD 7 (by rfl)
      clear hK hD ho
      dsimp only
      go_simp
      refine (HA.out W (HB1.out W hB)).mono ?_
      rintro e W' ⟨rfl, hb⟩
      have h := HK.out _ _ hb rfl
      simp only [upd, Nat.reduceEqDiff, reduceIte, e6, e7] at h
      exact h
    | 9, ho =>
      obtain rfl := Option.some.inj ho
      intro vs W K hB hD hK
      have HK := Lib.hid hK
      have e6 : vs 6 = .bool true := dep_of hD 6 (by rfl)
      have e8 : vs 8 = .bool true := dep_of hD 8 (by rfl)
      clear hK hD ho
      dsimp only
      go_simp
      have h := HK.out _ _ (Below.refl _ _) rfl
      simp only [upd, Nat.reduceEqDiff, reduceIte, e6, e8] at h
      exact h
    | 10, ho =>
      obtain rfl := Option.some.inj ho
      intro vs W K hB hD hK
      have HK := Lib.hid hK
      have e9 : vs 9 = .bool true := dep_of hD 9 (by rfl)
      clear hK hD ho
      dsimp only
      go_simp
      have h := HK.out _ _ (Below.refl _ _) rfl
      simp only [upd, Nat.reduceEqDiff, reduceIte, e9] at h
      exact h
    | 11, ho =>
      obtain rfl := Option.some.inj ho
      intro vs W K hB hD hK
      have HK := Lib.hid hK
      have e10 : vs 10 = .bool true := dep_of hD 10 (by rfl)
      clear hK hD ho
      dsimp only
      go_simp
      have h := HK.out _ _ (Below.refl _ _) rfl
      simp only [upd, Nat.reduceEqDiff, reduceIte, e10] at h
      exact h
    | 12, ho =>
      obtain rfl := Option.some.inj ho
      intro vs W K hB hD hK
      have HK := Lib.hid hK
      have e10 : vs 10 = .bool true := dep_of hD 10 (by rfl)
      have e11 : vs 11 = .pointer (some ⟨w.heap.size, 0, none⟩) := dep_of hD 11 (by rfl)
      obtain ⟨d0, d1, d2, d3⟩ := HPA.out W hB
      clear hK hD ho
      dsimp only
      go_simp
      have h := HK.out _ _ (Below.refl _ _) rfl
      simp only [upd, Nat.reduceEqDiff, reduceIte, e10, e11] at h
      exact h
    | 13, ho =>
      obtain rfl := Option.some.inj ho
      intro vs W K hB hD hK
      have HK := Lib.hid hK
      have e10 : vs 10 = .bool true := dep_of hD 10 (by rfl)
      clear hK hD ho
      dsimp only
      go_simp
      have h := HK.out _ _ (Below.refl _ _) rfl
      simp only [upd, Nat.reduceEqDiff, reduceIte, e10] at h
      exact h
    | 14, ho =>
      obtain rfl := Option.some.inj ho
      intro vs W K hB hD hK
      have HK := Lib.hid hK
      have e10 : vs 10 = .bool true := dep_of hD 10 (by rfl)
      have e13 : vs 13 = vl := dep_of hD 13 (by rfl)
      clear hK hD ho
      dsimp only
      go_simp
      refine (HL.out W (HB1.out W hB)).mono ?_
      rintro e W' ⟨rfl, hb⟩
      have h := HK.out _ _ hb rfl
      simp only [upd, Nat.reduceEqDiff, reduceIte, e10, e13] at h
      exact h
    | 15, ho =>
      obtain rfl := Option.some.inj ho
      intro vs W K hB hD hK
      have HK := Lib.hid hK
      have e10 : vs 10 = .bool true := dep_of hD 10 (by rfl)
      have e12 : vs 12 = .int .i64 a.letters := dep_of hD 12 (by rfl)
      have e14 : vs 14 = .int .i64 (lettersI l) := dep_of hD 14 (by rfl)
      clear hK hD ho
      dsimp only
      go_simp
      have h := HK.out _ _ (Below.refl _ _) rfl
      simp only [upd, Nat.reduceEqDiff, reduceIte, e10, e12, e14] at h
      exact h
    | 16, ho =>
      obtain rfl := Option.some.inj ho
      intro vs W K hB hD hK
      have HK := Lib.hid hK
      have e10 : vs 10 = .bool true := dep_of hD 10 (by rfl)
      have e15 : vs 15 = .bool false := dep_of hD 15 (by rfl)
      clear hK hD ho
      dsimp only
      go_simp
      have h := HK.out _ _ (Below.refl _ _) rfl
      simp only [upd, Nat.reduceEqDiff, reduceIte, e10, e15] at h
      exact h
    | 17, ho =>
      obtain rfl := Option.some.inj ho
      intro vs W K hB hD hK
      have HK := Lib.hid hK
      have e16 : vs 16 = .bool false := dep_of hD 16 (by rfl)
      clear hK hD ho
      dsimp only
      go_simp
      have h := HK.out _ _ (Below.refl _ _) rfl
      simp only [upd, Nat.reduceEqDiff, reduceIte, e16] at h
      exact h
    | q + 18, ho => exact absurd ho (by simp)
  case fin =>
    intro vs W hB hall
    have e17 : vs 17 = .bool false := hall 17 (by decide)
    have hB5 := HB1.out W hB
    clear hall hB
    rw [e17]
    clear e17
    go_wp2
    go_ret
    exact ⟨rfl, hB5⟩
def RF4 (w : World) (vl : Value) (l : List Sig) (a : Au) (p2 p3 : Option Addr) (n2 k2 n3 k3 : Nat) (ix : Nat) (u : Value) (_ : World) : Prop :=
  match ix with
  | 0 => u = vl
  | 1 => u = .bool true
  | 2 => u = .bool true
  | 3 => u = .agg #[.int .i64 a.letters, .int .i64 a.start, .slice p2 n2 k2, .slice p3 n3 k3]
  | 4 => u = .bool true
  | 5 => u = .bool true
  | 6 => u = .bool true
  | 7 => u = .agg #[.int .i64 a.letters, .int .i64 a.start, .slice p2 n2 k2, .slice p3 n3 k3]
  | 8 => u = .bool true
  | 9 => u = .bool true
  | 10 => u = .bool true
  | 11 => u = .pointer (some ⟨w.heap.size, 0, none⟩)
  | 12 => u = .int .i64 a.letters
  | 13 => u = vl
  | 14 => u = .int .i64 (lettersI l)
  | 15 => u = .bool true
  | 16 => u = .bool true
  | 17 => u = .bool true
  | _ => True

set_option maxRecDepth 100000 in
set_option maxHeartbeats 4000000 in
theorem fine_4 (w : World) (vl va : Value) (l : List Sig) (a : Au) (hl : IsSigs w vl l) (ha : IsAuto w va a) (h0 : validS l = true) (h1 : smallA a = true) (h2 : validA a = true) (h3 : (a.letters == lettersI l) = true) :
    Calls Tryd.prog 24 #[vl, va] w (Calm (.bool true) w) := by
  have HS : Hid (∀ W, Below w.heap.size w W → Calls Tryd.prog 43 #[vl] W (Calm (.bool (validS l)) W)) := fun W h => RSValid_c W _ l (hl.below h)
  have HM : Hid (∀ W, Below w.heap.size w W → Calls Tryd.prog 11 #[va] W (Calm (.bool (smallA a)) W)) := fun W h => PSmall_c W _ a (ha.below h)
  have HA : Hid (∀ W, Below w.heap.size w W → Calls Tryd.prog 44 #[va] W (Calm (.bool (validA a)) W)) := fun W h => RPValid_c W _ a (ha.below h)
  have HL : Hid (∀ W, Below w.heap.size w W → Calls Tryd.prog 45 #[vl] W (Calm (.int .i64 (lettersI l)) W)) := fun W h => RLetters_c W _ l (hl.below h)
  rw [h0] at HS
  rw [h1] at HM
  rw [h2] at HA
  clear h0 h1 h2
  obtain ⟨p2, n2, k2, p3, n3, k3, rfl⟩ := ha.shp
  clear hl ha
  have hmx : Tryd.prog.follows .mixedOrders = true := by kernel_rfl
  go_enter Tryd.func24, Tryd.ntmps24
  go_upto_region 1 with (fail)
  obtain ⟨hx, hB0⟩ : (w.alloc (.cells #[.int .i64 a.letters, .int .i64 a.start, .slice p2 n2 k2, .slice p3 n3 k3] 25)).heap[w.heap.size]? = some (.cells #[.int .i64 a.letters, .int .i64 a.start, .slice p2 n2 k2, .slice p3 n3 k3] 25 (0, 0)) ∧ Below w.heap.size w (w.alloc (.cells #[.int .i64 a.letters, .int .i64 a.start, .slice p2 n2 k2, .slice p3 n3 k3] 25)) := ⟨heap_alloc_new _ _, bel_box _⟩
  generalize w.alloc (.cells #[.int .i64 a.letters, .int .i64 a.start, .slice p2 n2 k2, .slice p3 n3 k3] 25) = w1 at *
  have HB0 : Hid (∀ W, Below w1.drew.heap.size w1.drew W → Below w1.heap.size w1 W) := fun W h => (Below.drew (B := w1.heap.size) (Below.refl _ _)).trans h
  have HB1 : Hid (∀ W, Below w1.drew.heap.size w1.drew W → Below w.heap.size w W) := fun W h => hB0.trans ((HB0.out W h).mono hB0.size)
  have HPA : Hid (∀ W, Below w1.drew.heap.size w1.drew W → W.cell? ⟨w.heap.size, 0, none⟩ = some (.int .i64 a.letters) ∧ W.cell? ⟨w.heap.size, 1, none⟩ = some (.int .i64 a.start) ∧ W.cell? ⟨w.heap.size, 2, none⟩ = some (.slice p2 n2 k2) ∧ W.cell? ⟨w.heap.size, 3, none⟩ = some (.slice p3 n3 k3)) := fun W h => by
    have k := ((HB0.out W h).block _ (Array.getElem?_eq_some_iff.1 hx).1).trans hx
    exact ⟨cell_of_row _ _ 0 _ _ _ k, cell_of_row _ _ 1 _ _ _ k, cell_of_row _ _ 2 _ _ _ k, cell_of_row _ _ 3 _ _ _ k⟩
  clear hx hB0
  refine region_stable hmx (RF4 w vl l a p2 p3 n2 k2 n3 k3) (fun vs => { tmps := (_ :: _ :: _ :: _ :: vs 17 :: vs 0 :: vs 1 :: vs 2 :: vs 3 :: vs 4 :: vs 5 :: vs 6 :: vs 7 :: vs 8 :: vs 9 :: vs 10 :: vs 11 :: vs 12 :: vs 13 :: vs 14 :: vs 15 :: vs 16 :: []).toArray, defers := _ }) (fun k => if k = 17 then .bool false else undef) rfl (by kernel_rfl) (fun _ _ _ _ h _ => h) ?step ?fin
  case step =>
    intro ix o ho
    match ix, ho with
    | 0, ho =>
      obtain rfl := Option.some.inj ho
      intro vs W K hB hD hK
      have HK := Lib.hid hK
      clear hK hD ho
      dsimp only
      go_simp
      have h := HK.out _ _ (Below.refl _ _) rfl
      simp only [upd, Nat.reduceEqDiff, reduceIte] at h
      exact h
    | 1, ho =>
      obtain rfl := Option.some.inj ho
      intro vs W K hB hD hK
      have HK := Lib.hid hK
      have e0 : vs 0 = vl := dep_of hD 0 (by rfl)
      clear hK hD ho
      dsimp only
      go_simp
      refine (HS.out W (HB1.out W hB)).mono ?_
      rintro e W' ⟨rfl, hb⟩
      have h := HK.out _ _ hb rfl
      simp only [upd, Nat.reduceEqDiff, reduceIte, e0] at h
      exact h
    | 2, ho =>
      obtain rfl := Option.some.inj ho
      intro vs W K hB hD hK
      have HK := Lib.hid hK
      have e1 : vs 1 = .bool true := dep_of hD 1 (by rfl)
      clear hK hD ho
      dsimp only
      go_simp
      have h := HK.out _ _ (Below.refl _ _) rfl
      simp only [upd, Nat.reduceEqDiff, reduceIte, e1] at h
      exact h
    | 3, ho =>
      obtain rfl := Option.some.inj ho
      intro vs W K hB hD hK
      have HK := Lib.hid hK
      have e2 : vs 2 = .bool true := dep_of hD 2 (by rfl)
      obtain ⟨d0, d1, d2, d3⟩ := HPA.out W hB
      clear hK hD ho
      dsimp only
      go_simp
      have h := HK.out _ _ (Below.refl _ _) rfl
      simp only [upd, Nat.reduceEqDiff, reduceIte, e2] at h
      exact h
    | 4, ho =>
      obtain rfl := Option.some.inj ho
      intro vs W K hB hD hK
      have HK := Lib.hid hK
      have e2 : vs 2 = .bool true := dep_of hD 2 (by rfl)
      have e3 : vs 3 = .agg #[.int .i64 a.letters, .int .i64 a.start, .slice p2 n2 k2, .slice p3 n3 k3] := dep_of hD 3 (by rfl)
      clear hK hD ho
      dsimp only
      go_simp
      refine (HM.out W (HB1.out W hB)).mono ?_
      rintro e W' ⟨rfl, hb⟩
      have h := HK.out _ _ hb rfl
      simp only [upd, Nat.reduceEqDiff, reduceIte, e2, e3] at h
      exact h
    | 5, ho =>
      obtain rfl := Option.some.inj ho
      intro vs W K hB hD hK
      have HK := Lib.hid hK
      have e2 : vs 2 = .bool true := dep_of hD 2 (by rfl)
      have e4 : vs 4 = .bool true := dep_of hD 4 (by rfl)
      clear hK hD ho
      dsimp only
      go_simp
      have h := HK.out _ _ (Below.refl _ _) rfl
      simp only [upd, Nat.reduceEqDiff, reduceIte, e2, e4] at h
      exact h
    | 6, ho =>
      obtain rfl := Option.some.inj ho
      intro vs W K hB hD hK
      have HK := Lib.hid hK
      have e5 : vs 5 = .bool true := dep_of hD 5 (by rfl)
      clear hK hD ho
      dsimp only
      go_simp
      have h := HK.out _ _ (Below.refl _ _) rfl
      simp only [upd, Nat.reduceEqDiff, reduceIte, e5] at h
      exact h
    | 7, ho =>
      obtain rfl := Option.some.inj ho
      intro vs W K hB hD hK
      have HK := Lib.hid hK
      have e6 : vs 6 = .bool true := dep_of hD 6 (by rfl)
      obtain ⟨d0, d1, d2, d3⟩ := HPA.out W hB
      clear hK hD ho
      dsimp only
      go_simp
      have h := HK.out _ _ (Below.refl _ _) rfl
      simp only [upd, Nat.reduceEqDiff, reduceIte, e6] at h
      exact h
    | 8, ho =>
      obtain rfl := Option.some.inj ho
      intro vs W K hB hD hK
      have HK := Lib.hid hK
      have e6 : vs 6 = .bool true := dep_of hD 6 (by rfl)
      have e7 : vs 7 = .agg #[.int .i64 a.letters, .int .i64 a.start, .slice p2 n2 k2, .slice p3 n3 k3] := dep_of hD 7 (by rfl)
      clear hK hD ho
      dsimp only
      go_simp
      refine (HA.out W (HB1.out W hB)).mono ?_
      rintro e W' ⟨rfl, hb⟩
      have h := HK.out _ _ hb rfl
      simp only [upd, Nat.reduceEqDiff, reduceIte, e6, e7] at h
      exact h
    | 9, ho =>
      obtain rfl := Option.some.inj ho
      intro vs W K hB hD hK
      have HK := Lib.hid hK
      have e6 : vs 6 = .bool true := dep_of hD 6 (by rfl)
      have e8 : vs 8 = .bool true := dep_of hD 8 (by rfl)
      clear hK hD ho
      dsimp only
      go_simp
      have h := HK.out _ _ (Below.refl _ _) rfl
      simp only [upd, Nat.reduceEqDiff, reduceIte, e6, e8] at h
      exact h
    | 10, ho =>
      obtain rfl := Option.some.inj ho
      intro vs W K hB hD hK
      have HK := Lib.hid hK
      have e9 : vs 9 = .bool true := dep_of hD 9 (by rfl)
      clear hK hD ho
      dsimp only
      go_simp
      have h := HK.out _ _ (Below.refl _ _) rfl
      simp only [upd, Nat.reduceEqDiff, reduceIte, e9] at h
      exact h
    | 11, ho =>
      obtain rfl := Option.some.inj ho
      intro vs W K hB hD hK
      have HK := Lib.hid hK
      have e10 : vs 10 = .bool true := dep_of hD 10 (by rfl)
      clear hK hD ho
      dsimp only
      go_simp
      have h := HK.out _ _ (Below.refl _ _) rfl
      simp only [upd, Nat.reduceEqDiff, reduceIte, e10] at h
      exact h
    | 12, ho =>
      obtain rfl := Option.some.inj ho
      intro vs W K hB hD hK
      have HK := Lib.hid hK
      have e10 : vs 10 = .bool true := dep_of hD 10 (by rfl)
      have e11 : vs 11 = .pointer (some ⟨w.heap.size, 0, none⟩) := dep_of hD 11 (by rfl)
      obtain ⟨d0, d1, d2, d3⟩ := HPA.out W hB
      clear hK hD ho
      dsimp only
      go_simp
      have h := HK.out _ _ (Below.refl _ _) rfl
      simp only [upd, Nat.reduceEqDiff, reduceIte, e10, e11] at h
      exact h
    | 13, ho =>
      obtain rfl := Option.some.inj ho
      intro vs W K hB hD hK
      have HK := Lib.hid hK
      have e10 : vs 10 = .bool true := dep_of hD 10 (by rfl)
      clear hK hD ho
      dsimp only
      go_simp
      have h := HK.out _ _ (Below.refl _ _) rfl
      simp only [upd, Nat.reduceEqDiff, reduceIte, e10] at h
      exact h
    | 14, ho =>
      obtain rfl := Option.some.inj ho
      intro vs W K hB hD hK
      have HK := Lib.hid hK
      have e10 : vs 10 = .bool true := dep_of hD 10 (by rfl)
      have e13 : vs 13 = vl := dep_of hD 13 (by rfl)
      clear hK hD ho
      dsimp only
      go_simp
      refine (HL.out W (HB1.out W hB)).mono ?_
      rintro e W' ⟨rfl, hb⟩
      have h := HK.out _ _ hb rfl
      simp only [upd, Nat.reduceEqDiff, reduceIte, e10, e13] at h
      exact h
    | 15, ho =>
      obtain rfl := Option.some.inj ho
      intro vs W K hB hD hK
      have HK := Lib.hid hK
      have e10 : vs 10 = .bool true := dep_of hD 10 (by rfl)
      have e12 : vs 12 = .int .i64 a.letters := dep_of hD 12 (by rfl)
      have e14 : vs 14 = .int .i64 (lettersI l) := dep_of hD 14 (by rfl)
      clear hK hD ho
      dsimp only
      go_simp
      have h := HK.out _ _ (Below.refl _ _) rfl
      simp only [upd, Nat.reduceEqDiff, reduceIte, e10, e12, e14] at h
      exact h
    | 16, ho =>
      obtain rfl := Option.some.inj ho
      intro vs W K hB hD hK
      have HK := Lib.hid hK
      have e10 : vs 10 = .bool true := dep_of hD 10 (by rfl)
      have e15 : vs 15 = .bool true := dep_of hD 15 (by rfl)
      clear hK hD ho
      dsimp only
      go_simp
      have h := HK.out _ _ (Below.refl _ _) rfl
      simp only [upd, Nat.reduceEqDiff, reduceIte, e10, e15] at h
      exact h
    | 17, ho =>
      obtain rfl := Option.some.inj ho
      intro vs W K hB hD hK
      have HK := Lib.hid hK
      have e16 : vs 16 = .bool true := dep_of hD 16 (by rfl)
      clear hK hD ho
      dsimp only
      go_simp
      have h := HK.out _ _ (Below.refl _ _) rfl
      simp only [upd, Nat.reduceEqDiff, reduceIte, e16] at h
      exact h
    | q + 18, ho => exact absurd ho (by simp)
  case fin =>
    intro vs W hB hall
    have e17 : vs 17 = .bool true := hall 17 (by decide)
    have hB5 := HB1.out W hB
    clear hall hB
    rw [e17]
    clear e17
    go_wp2
    go_ret
    exact ⟨rfl, hB5⟩

theorem fine_c (w : World) (vl va : Value) (l : List Sig) (a : Au) (hl : IsSigs w vl l) (ha : IsAuto w va a) :
    Calls Tryd.prog 24 #[vl, va] w (Calm (.bool (fineB l a)) w) := by
  unfold fineB
  cases h0 : validS l
  · exact fine_0 w vl va l a hl ha h0
  cases h1 : smallA a
  · exact fine_1 w vl va l a hl ha h0 h1
  cases h2 : validA a
  · exact fine_2 w vl va l a hl ha h0 h1 h2
  cases h3 : a.letters == lettersI l
  · exact fine_3 w vl va l a hl ha h0 h1 h2 h3
  · exact fine_4 w vl va l a hl ha h0 h1 h2 h3

end Go.Proofs.YtjadeffdcbchnaaDoor
