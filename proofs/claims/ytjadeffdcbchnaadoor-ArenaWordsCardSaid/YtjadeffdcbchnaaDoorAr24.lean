/- The reference's Build with a wrong input. -/
import Derived.Test.YtjadeffdcbchnaaDoorAr23
import Derived.Test.YtjadeffdcbchnaaDoorAr19
import Derived.Test.YtjadeffdcbchnaaDoorAr6
namespace Go.Proofs.YtjadeffdcbchnaaDoor
open Go.RowKit

theorem RSValid_calm (w : World) (vl : Value) (l : List Sig) (hl : IsSigs w vl l) : Calls Tryd.prog 43 #[vl] w (Calm (.bool (validS l)) w) := RSValid_c w vl l hl

def RG0 (_w : World) (vl : Value) (_a : Au) (_l : List Sig) (_ao2 _ao3 : Option Addr) (_n2 _n3 _cap2 _cap3 : Nat) (_most : Int) (ix : Nat) (u : Value) (_ : World) : Prop :=
  match ix with
  | 0 => u = vl
  | 1 => u = .bool false
  | 2 => u = .bool true
  | 3 => u = .bool true
  | 4 => u = undef
  | 5 => u = undef
  | 6 => u = undef
  | 7 => u = .bool true
  | 8 => u = .bool true
  | 9 => u = undef
  | 10 => u = undef
  | 11 => u = undef
  | 12 => u = undef
  | 13 => u = undef
  | 14 => u = .bool true
  | 15 => u = .bool true
  | 16 => u = undef
  | 17 => u = undef
  | 18 => u = .bool true
  | 19 => u = .bool true
  | 20 => u = undef
  | 21 => u = undef
  | 22 => u = .bool true
  | _ => True

set_option maxRecDepth 100000 in
set_option maxHeartbeats 8000000 in
theorem RBuild_bad0 (w : World) (vl va : Value) (l : List Sig) (a : Au) (most : Int) (hl : IsSigs w vl l) (ha : IsAuto w va a) (hv : validS l = false) :
    Calls Tryd.prog 14 #[vl, va, .int .i64 most] w fun e w' => e = .returned (.tuple #[.agg #[.slice none 0 0, .slice none 0 0, .slice none 0 0], .slice none 0 0, .int .i64 1]) ∧ Below w.heap.size w w' := by
  have HS : Hid (∀ W, Below w.heap.size w W → Calls Tryd.prog 43 #[vl] W (Calm (.bool (validS l)) W)) := fun W h => RSValid_calm W _ l (hl.below h)
  have HA : Hid (∀ W, Below w.heap.size w W → Calls Tryd.prog 44 #[va] W (Calm (.bool (validA a)) W)) := fun W h => RPValid_c W _ a (ha.below h)
  have HLt : Hid (∀ W, Below w.heap.size w W → Calls Tryd.prog 45 #[vl] W (Calm (.int .i64 (lettersI l)) W)) := fun W h => RLetters_c W _ l (hl.below h)
  rw [hv] at HS
  obtain ⟨ao, cap, b, off, rfl, -⟩ := hl
  obtain ⟨vv2, vv3, rfl, -, ⟨V2, ⟨ao2, cap2, b2, off2, rfl, -⟩, -⟩, ⟨V3, ⟨ao3, cap3, b3, off3, rfl, -⟩, -⟩⟩ := ha
  generalize a.next.length = n2 at *
  generalize a.prio.length = n3 at *
  obtain ⟨vl, hvl⟩ : ∃ vl, vl = Value.slice ao l.length cap := ⟨_, rfl⟩
  rw [← hvl] at HS HLt ⊢
  clear hvl
  have hmx : Tryd.prog.follows .mixedOrders = true := by kernel_rfl
  go_enter Tryd.func14, Tryd.ntmps14
  go_wp2
  have hbx : Below w.heap.size w ((w.alloc (.cells #[.int .i64 a.letters, .int .i64 a.start, .slice ao2 n2 cap2, .slice ao3 n3 cap3] 25)).alloc (.cells #[.slice none 0 0, .slice none 0 0, .slice none 0 0] 28)) := (by repeat (first | exact Below.refl _ _ | assumption | (refine belA ?_ _) | (refine belD ?_ _)))
  have hpa : ((w.alloc (.cells #[.int .i64 a.letters, .int .i64 a.start, .slice ao2 n2 cap2, .slice ao3 n3 cap3] 25)).alloc (.cells #[.slice none 0 0, .slice none 0 0, .slice none 0 0] 28)).heap[w.heap.size]? = some (.cells #[.int .i64 a.letters, .int .i64 a.start, .slice ao2 n2 cap2, .slice ao3 n3 cap3] 25 (0, 0)) := (by (repeat (rw [alloc_get]; first | rw [if_pos (by first | (simp; done) | (simp; omega))] | rw [if_neg (by first | (simp; done) | (simp; omega))])); (try rfl))
  have hpg : ((w.alloc (.cells #[.int .i64 a.letters, .int .i64 a.start, .slice ao2 n2 cap2, .slice ao3 n3 cap3] 25)).alloc (.cells #[.slice none 0 0, .slice none 0 0, .slice none 0 0] 28)).heap[w.heap.size + 1]? = some (.cells #[.slice none 0 0, .slice none 0 0, .slice none 0 0] 28 (0, 0)) := (by (repeat (rw [alloc_get]; first | rw [if_pos (by first | (simp; done) | (simp; omega))] | rw [if_neg (by first | (simp; done) | (simp; omega))])); (try rfl))
  generalize ((w.alloc (.cells #[.int .i64 a.letters, .int .i64 a.start, .slice ao2 n2 cap2, .slice ao3 n3 cap3] 25)).alloc (.cells #[.slice none 0 0, .slice none 0 0, .slice none 0 0] 28)) = w5 at *
  have hsz := (Array.getElem?_eq_some_iff.1 hpg).1
  have HB1 : Hid (∀ W, Below w5.drew.heap.size w5.drew W → Below w.heap.size w W) := fun W h => hbx.trans (((Below.drew (Below.refl _ _)).trans h).mono hbx.size)
  have HPX : Hid (∀ W, Below w5.drew.heap.size w5.drew W → Below w5.heap.size w5 W) := fun W h => (Below.drew (B := w5.heap.size) (Below.refl _ _)).trans h
  have HPA : Hid (∀ W, Below w5.drew.heap.size w5.drew W → W.cell? ⟨w.heap.size, 0, none⟩ = some (.int .i64 a.letters) ∧ W.cell? ⟨w.heap.size, 1, none⟩ = some (.int .i64 a.start) ∧ W.cell? ⟨w.heap.size, 2, none⟩ = some (.slice ao2 n2 cap2) ∧ W.cell? ⟨w.heap.size, 3, none⟩ = some (.slice ao3 n3 cap3)) := fun W h => by
    have k := ((HPX.out W h).block _ (by omega)).trans hpa
    exact ⟨cell_of_row _ _ 0 _ _ _ k, cell_of_row _ _ 1 _ _ _ k, cell_of_row _ _ 2 _ _ _ k, cell_of_row _ _ 3 _ _ _ k⟩
  have HPG : Hid (∀ W, Below w5.heap.size w5 W → W.heap[w.heap.size]? = some (.cells #[.int .i64 a.letters, .int .i64 a.start, .slice ao2 n2 cap2, .slice ao3 n3 cap3] 25 (0, 0)) ∧ W.heap[w.heap.size + 1]? = some (.cells #[.slice none 0 0, .slice none 0 0, .slice none 0 0] 28 (0, 0))) := fun W h => ⟨(h.block _ (by omega)).trans hpa, (h.block _ (by omega)).trans hpg⟩
  clear hpa hpg
  refine region_stable hmx (RG0 w vl a l ao2 ao3 n2 n3 cap2 cap3 most) (fun vs => { tmps := (_ :: _ :: _ :: _ :: _ :: _ :: _ :: _ :: _ :: _ :: _ :: _ :: _ :: _ :: _ :: _ :: _ :: _ :: _ :: vs 0 :: vs 1 :: vs 2 :: vs 3 :: vs 4 :: vs 5 :: vs 6 :: vs 7 :: vs 8 :: vs 9 :: vs 10 :: vs 11 :: vs 12 :: vs 13 :: vs 14 :: vs 15 :: vs 16 :: vs 17 :: vs 18 :: vs 19 :: vs 20 :: vs 21 :: vs 22 :: _ :: _ :: _ :: _ :: _ :: _ :: _ :: _ :: _ :: _ :: _ :: _ :: _ :: _ :: _ :: _ :: _ :: _ :: _ :: _ :: _ :: _ :: _ :: _ :: _ :: _ :: _ :: _ :: _ :: _ :: _ :: _ :: _ :: _ :: _ :: _ :: _ :: _ :: _ :: _ :: _ :: _ :: _ :: _ :: _ :: _ :: _ :: _ :: _ :: _ :: _ :: _ :: _ :: _ :: _ :: _ :: _ :: _ :: _ :: _ :: _ :: _ :: _ :: _ :: _ :: _ :: _ :: _ :: _ :: _ :: _ :: _ :: _ :: _ :: _ :: _ :: _ :: _ :: _ :: _ :: _ :: []).toArray, defers := [] }) (fun _ => undef) rfl (by kernel_rfl) (fun _ _ _ _ h _ => h) ?step ?fin
  case step =>
    clear hbx
    intro ix o ho
    match ix, ho with
    | 0, ho =>
        obtain rfl := Option.some.inj ho
        intro vs W K hB hD hK
        have HK := Lib.hid hK
        clear hK hD ho
        dsimp only
        go_simp
        have h := HK.out _ _ (Below.refl _ _) rfl
        simp only [upd, Nat.reduceEqDiff, reduceIte] at h
        exact h
    | 1, ho =>
        obtain rfl := Option.some.inj ho
        intro vs W K hB hD hK
        have HK := Lib.hid hK
        have e0 : vs 0 = vl := dep_of hD 0 (by rfl)
        clear hK hD ho
        dsimp only
        go_simp
        refine (HS.out W (HB1.out W hB)).mono ?_
        rintro e W' ⟨rfl, hb⟩
        have h := HK.out _ _ hb rfl
        simp only [upd, Nat.reduceEqDiff, reduceIte, e0] at h
        exact h
    | 2, ho =>
        obtain rfl := Option.some.inj ho
        intro vs W K hB hD hK
        have HK := Lib.hid hK
        have e1 : vs 1 = .bool false := dep_of hD 1 (by rfl)
        clear hK hD ho
        dsimp only
        go_simp
        have h := HK.out _ _ (Below.refl _ _) rfl
        simp only [upd, Nat.reduceEqDiff, reduceIte, e1] at h
        exact h
    | 3, ho =>
        obtain rfl := Option.some.inj ho
        intro vs W K hB hD hK
        have HK := Lib.hid hK
        have e2 : vs 2 = .bool true := dep_of hD 2 (by rfl)
        clear hK hD ho
        dsimp only
        go_simp
        have h := HK.out _ _ (Below.refl _ _) rfl
        simp only [upd, Nat.reduceEqDiff, reduceIte, e2] at h
        exact h
    | 4, ho =>
        obtain rfl := Option.some.inj ho
        intro vs W K hB hD hK
        have HK := Lib.hid hK
        have e3 : vs 3 = .bool true := dep_of hD 3 (by rfl)
        clear hK hD ho
        dsimp only
        go_simp
        have h := HK.out _ _ (Below.refl _ _) rfl
        simp only [upd, Nat.reduceEqDiff, reduceIte, e3] at h
        exact h
    | 5, ho =>
        obtain rfl := Option.some.inj ho
        intro vs W K hB hD hK
        have HK := Lib.hid hK
        have e3 : vs 3 = .bool true := dep_of hD 3 (by rfl)
        clear hK hD ho
        dsimp only
        go_simp
        have h := HK.out _ _ (Below.refl _ _) rfl
        simp only [upd, Nat.reduceEqDiff, reduceIte, e3] at h
        exact h
    | 6, ho =>
        obtain rfl := Option.some.inj ho
        intro vs W K hB hD hK
        have HK := Lib.hid hK
        have e3 : vs 3 = .bool true := dep_of hD 3 (by rfl)
        clear hK hD ho
        dsimp only
        go_simp
        have h := HK.out _ _ (Below.refl _ _) rfl
        simp only [upd, Nat.reduceEqDiff, reduceIte, e3] at h
        exact h
    | 7, ho =>
        obtain rfl := Option.some.inj ho
        intro vs W K hB hD hK
        have HK := Lib.hid hK
        have e3 : vs 3 = .bool true := dep_of hD 3 (by rfl)
        clear hK hD ho
        dsimp only
        go_simp
        have h := HK.out _ _ (Below.refl _ _) rfl
        simp only [upd, Nat.reduceEqDiff, reduceIte, e3] at h
        exact h
    | 8, ho =>
        obtain rfl := Option.some.inj ho
        intro vs W K hB hD hK
        have HK := Lib.hid hK
        have e7 : vs 7 = .bool true := dep_of hD 7 (by rfl)
        clear hK hD ho
        dsimp only
        go_simp
        have h := HK.out _ _ (Below.refl _ _) rfl
        simp only [upd, Nat.reduceEqDiff, reduceIte, e7] at h
        exact h
    | 9, ho =>
        obtain rfl := Option.some.inj ho
        intro vs W K hB hD hK
        have HK := Lib.hid hK
        have e8 : vs 8 = .bool true := dep_of hD 8 (by rfl)
        clear hK hD ho
        dsimp only
        go_simp
        have h := HK.out _ _ (Below.refl _ _) rfl
        simp only [upd, Nat.reduceEqDiff, reduceIte, e8] at h
        exact h
    | 10, ho =>
        obtain rfl := Option.some.inj ho
        intro vs W K hB hD hK
        have HK := Lib.hid hK
        have e8 : vs 8 = .bool true := dep_of hD 8 (by rfl)
        clear hK hD ho
        dsimp only
        go_simp
        have h := HK.out _ _ (Below.refl _ _) rfl
        simp only [upd, Nat.reduceEqDiff, reduceIte, e8] at h
        exact h
    | 11, ho =>
        obtain rfl := Option.some.inj ho
        intro vs W K hB hD hK
        have HK := Lib.hid hK
        have e8 : vs 8 = .bool true := dep_of hD 8 (by rfl)
        clear hK hD ho
        dsimp only
        go_simp
        have h := HK.out _ _ (Below.refl _ _) rfl
        simp only [upd, Nat.reduceEqDiff, reduceIte, e8] at h
        exact h
    | 12, ho =>
        obtain rfl := Option.some.inj ho
        intro vs W K hB hD hK
        have HK := Lib.hid hK
        have e8 : vs 8 = .bool true := dep_of hD 8 (by rfl)
        clear hK hD ho
        dsimp only
        go_simp
        have h := HK.out _ _ (Below.refl _ _) rfl
        simp only [upd, Nat.reduceEqDiff, reduceIte, e8] at h
        exact h
    | 13, ho =>
        obtain rfl := Option.some.inj ho
        intro vs W K hB hD hK
        have HK := Lib.hid hK
        have e8 : vs 8 = .bool true := dep_of hD 8 (by rfl)
        clear hK hD ho
        dsimp only
        go_simp
        have h := HK.out _ _ (Below.refl _ _) rfl
        simp only [upd, Nat.reduceEqDiff, reduceIte, e8] at h
        exact h
    | 14, ho =>
        obtain rfl := Option.some.inj ho
        intro vs W K hB hD hK
        have HK := Lib.hid hK
        have e8 : vs 8 = .bool true := dep_of hD 8 (by rfl)
        clear hK hD ho
        dsimp only
        go_simp
        have h := HK.out _ _ (Below.refl _ _) rfl
        simp only [upd, Nat.reduceEqDiff, reduceIte, e8] at h
        exact h
    | 15, ho =>
        obtain rfl := Option.some.inj ho
        intro vs W K hB hD hK
        have HK := Lib.hid hK
        have e14 : vs 14 = .bool true := dep_of hD 14 (by rfl)
        clear hK hD ho
        dsimp only
        go_simp
        have h := HK.out _ _ (Below.refl _ _) rfl
        simp only [upd, Nat.reduceEqDiff, reduceIte, e14] at h
        exact h
    | 16, ho =>
        obtain rfl := Option.some.inj ho
        intro vs W K hB hD hK
        have HK := Lib.hid hK
        have e15 : vs 15 = .bool true := dep_of hD 15 (by rfl)
        clear hK hD ho
        dsimp only
        go_simp
        have h := HK.out _ _ (Below.refl _ _) rfl
        simp only [upd, Nat.reduceEqDiff, reduceIte, e15] at h
        exact h
    | 17, ho =>
        obtain rfl := Option.some.inj ho
        intro vs W K hB hD hK
        have HK := Lib.hid hK
        have e15 : vs 15 = .bool true := dep_of hD 15 (by rfl)
        clear hK hD ho
        dsimp only
        go_simp
        have h := HK.out _ _ (Below.refl _ _) rfl
        simp only [upd, Nat.reduceEqDiff, reduceIte, e15] at h
        exact h
    | 18, ho =>
        obtain rfl := Option.some.inj ho
        intro vs W K hB hD hK
        have HK := Lib.hid hK
        have e15 : vs 15 = .bool true := dep_of hD 15 (by rfl)
        clear hK hD ho
        dsimp only
        go_simp
        have h := HK.out _ _ (Below.refl _ _) rfl
        simp only [upd, Nat.reduceEqDiff, reduceIte, e15] at h
        exact h
    | 19, ho =>
        obtain rfl := Option.some.inj ho
        intro vs W K hB hD hK
        have HK := Lib.hid hK
        have e18 : vs 18 = .bool true := dep_of hD 18 (by rfl)
        clear hK hD ho
        dsimp only
        go_simp
        have h := HK.out _ _ (Below.refl _ _) rfl
        simp only [upd, Nat.reduceEqDiff, reduceIte, e18] at h
        exact h
    | 20, ho =>
        obtain rfl := Option.some.inj ho
        intro vs W K hB hD hK
        have HK := Lib.hid hK
        have e19 : vs 19 = .bool true := dep_of hD 19 (by rfl)
        clear hK hD ho
        dsimp only
        go_simp
        have h := HK.out _ _ (Below.refl _ _) rfl
        simp only [upd, Nat.reduceEqDiff, reduceIte, e19] at h
        exact h
    | 21, ho =>
        obtain rfl := Option.some.inj ho
        intro vs W K hB hD hK
        have HK := Lib.hid hK
        have e19 : vs 19 = .bool true := dep_of hD 19 (by rfl)
        clear hK hD ho
        dsimp only
        go_simp
        have h := HK.out _ _ (Below.refl _ _) rfl
        simp only [upd, Nat.reduceEqDiff, reduceIte, e19] at h
        exact h
    | 22, ho =>
        obtain rfl := Option.some.inj ho
        intro vs W K hB hD hK
        have HK := Lib.hid hK
        have e19 : vs 19 = .bool true := dep_of hD 19 (by rfl)
        clear hK hD ho
        dsimp only
        go_simp
        have h := HK.out _ _ (Below.refl _ _) rfl
        simp only [upd, Nat.reduceEqDiff, reduceIte, e19] at h
        exact h
    | q + 23, ho => exact absurd ho (by simp)
  case fin =>
    intro vs W hB hall
    have e22 : vs 22 = .bool true := hall 22 (by decide)
    have hX := HPX.out W hB
    have hbW := HB1.out W hB
    have g1 := (HPG.out W hX).2
    clear hall hB HPX HPA HB1 HS HA HLt
    rw [e22]
    clear e22
    have c0 := cell_of_row _ _ 0 _ _ _ g1
    have c1 := cell_of_row _ _ 1 _ _ _ g1
    have c2 := cell_of_row _ _ 2 _ _ _ g1
    have f0 := frozen_of_row _ _ 0 _ _ g1
    have f1 := frozen_of_row _ _ 1 _ _ g1
    have f2 := frozen_of_row _ _ 2 _ _ g1
    go_wp2
    have hc3 := three_set (a := .slice none 0 0) (b := .slice none 0 0) (c := .slice none 0 0) g1
    have k0 := cell_of_row _ _ 0 _ _ _ hc3
    have k1 := cell_of_row _ _ 1 _ _ _ hc3
    have k2 := cell_of_row _ _ 2 _ _ _ hc3
    refine bodyPost_ret (v := .tuple #[.agg #[.slice none 0 0, .slice none 0 0, .slice none 0 0], .slice none 0 0, .int .i64 1]) (by simp [results, Tryd.results14, go_sem, k0, k1, k2]) rfl ?_
    exact ⟨rfl, below_three hbW (by omega)⟩

def RG1 (_w : World) (vl : Value) (a : Au) (_l : List Sig) (ao2 ao3 : Option Addr) (n2 n3 cap2 cap3 : Nat) (_most : Int) (ix : Nat) (u : Value) (_ : World) : Prop :=
  match ix with
  | 0 => u = vl
  | 1 => u = .bool true
  | 2 => u = .bool false
  | 3 => u = .bool false
  | 4 => u = .agg #[.int .i64 a.letters, .int .i64 a.start, .slice ao2 n2 cap2, .slice ao3 n3 cap3]
  | 5 => u = .bool false
  | 6 => u = .bool true
  | 7 => u = .bool true
  | 8 => u = .bool true
  | 9 => u = undef
  | 10 => u = undef
  | 11 => u = undef
  | 12 => u = undef
  | 13 => u = undef
  | 14 => u = .bool true
  | 15 => u = .bool true
  | 16 => u = undef
  | 17 => u = undef
  | 18 => u = .bool true
  | 19 => u = .bool true
  | 20 => u = undef
  | 21 => u = undef
  | 22 => u = .bool true
  | _ => True

set_option maxRecDepth 100000 in
set_option maxHeartbeats 8000000 in
theorem RBuild_bad1 (w : World) (vl va : Value) (l : List Sig) (a : Au) (most : Int) (hl : IsSigs w vl l) (ha : IsAuto w va a) (hv : validS l = true) (h1 : validA a = false) :
    Calls Tryd.prog 14 #[vl, va, .int .i64 most] w fun e w' => e = .returned (.tuple #[.agg #[.slice none 0 0, .slice none 0 0, .slice none 0 0], .slice none 0 0, .int .i64 1]) ∧ Below w.heap.size w w' := by
  have HS : Hid (∀ W, Below w.heap.size w W → Calls Tryd.prog 43 #[vl] W (Calm (.bool (validS l)) W)) := fun W h => RSValid_calm W _ l (hl.below h)
  have HA : Hid (∀ W, Below w.heap.size w W → Calls Tryd.prog 44 #[va] W (Calm (.bool (validA a)) W)) := fun W h => RPValid_c W _ a (ha.below h)
  have HLt : Hid (∀ W, Below w.heap.size w W → Calls Tryd.prog 45 #[vl] W (Calm (.int .i64 (lettersI l)) W)) := fun W h => RLetters_c W _ l (hl.below h)
  rw [hv] at HS
  rw [h1] at HA
  obtain ⟨ao, cap, b, off, rfl, -⟩ := hl
  obtain ⟨vv2, vv3, rfl, -, ⟨V2, ⟨ao2, cap2, b2, off2, rfl, -⟩, -⟩, ⟨V3, ⟨ao3, cap3, b3, off3, rfl, -⟩, -⟩⟩ := ha
  generalize a.next.length = n2 at *
  generalize a.prio.length = n3 at *
  obtain ⟨vl, hvl⟩ : ∃ vl, vl = Value.slice ao l.length cap := ⟨_, rfl⟩
  rw [← hvl] at HS HLt ⊢
  clear hvl
  have hmx : Tryd.prog.follows .mixedOrders = true := by kernel_rfl
  go_enter Tryd.func14, Tryd.ntmps14
  go_wp2
  have hbx : Below w.heap.size w ((w.alloc (.cells #[.int .i64 a.letters, .int .i64 a.start, .slice ao2 n2 cap2, .slice ao3 n3 cap3] 25)).alloc (.cells #[.slice none 0 0, .slice none 0 0, .slice none 0 0] 28)) := (by repeat (first | exact Below.refl _ _ | assumption | (refine belA ?_ _) | (refine belD ?_ _)))
  have hpa : ((w.alloc (.cells #[.int .i64 a.letters, .int .i64 a.start, .slice ao2 n2 cap2, .slice ao3 n3 cap3] 25)).alloc (.cells #[.slice none 0 0, .slice none 0 0, .slice none 0 0] 28)).heap[w.heap.size]? = some (.cells #[.int .i64 a.letters, .int .i64 a.start, .slice ao2 n2 cap2, .slice ao3 n3 cap3] 25 (0, 0)) := (by (repeat (rw [alloc_get]; first | rw [if_pos (by first | (simp; done) | (simp; omega))] | rw [if_neg (by first | (simp; done) | (simp; omega))])); (try rfl))
  have hpg : ((w.alloc (.cells #[.int .i64 a.letters, .int .i64 a.start, .slice ao2 n2 cap2, .slice ao3 n3 cap3] 25)).alloc (.cells #[.slice none 0 0, .slice none 0 0, .slice none 0 0] 28)).heap[w.heap.size + 1]? = some (.cells #[.slice none 0 0, .slice none 0 0, .slice none 0 0] 28 (0, 0)) := (by (repeat (rw [alloc_get]; first | rw [if_pos (by first | (simp; done) | (simp; omega))] | rw [if_neg (by first | (simp; done) | (simp; omega))])); (try rfl))
  generalize ((w.alloc (.cells #[.int .i64 a.letters, .int .i64 a.start, .slice ao2 n2 cap2, .slice ao3 n3 cap3] 25)).alloc (.cells #[.slice none 0 0, .slice none 0 0, .slice none 0 0] 28)) = w5 at *
  have hsz := (Array.getElem?_eq_some_iff.1 hpg).1
  have HB1 : Hid (∀ W, Below w5.drew.heap.size w5.drew W → Below w.heap.size w W) := fun W h => hbx.trans (((Below.drew (Below.refl _ _)).trans h).mono hbx.size)
  have HPX : Hid (∀ W, Below w5.drew.heap.size w5.drew W → Below w5.heap.size w5 W) := fun W h => (Below.drew (B := w5.heap.size) (Below.refl _ _)).trans h
  have HPA : Hid (∀ W, Below w5.drew.heap.size w5.drew W → W.cell? ⟨w.heap.size, 0, none⟩ = some (.int .i64 a.letters) ∧ W.cell? ⟨w.heap.size, 1, none⟩ = some (.int .i64 a.start) ∧ W.cell? ⟨w.heap.size, 2, none⟩ = some (.slice ao2 n2 cap2) ∧ W.cell? ⟨w.heap.size, 3, none⟩ = some (.slice ao3 n3 cap3)) := fun W h => by
    have k := ((HPX.out W h).block _ (by omega)).trans hpa
    exact ⟨cell_of_row _ _ 0 _ _ _ k, cell_of_row _ _ 1 _ _ _ k, cell_of_row _ _ 2 _ _ _ k, cell_of_row _ _ 3 _ _ _ k⟩
  have HPG : Hid (∀ W, Below w5.heap.size w5 W → W.heap[w.heap.size]? = some (.cells #[.int .i64 a.letters, .int .i64 a.start, .slice ao2 n2 cap2, .slice ao3 n3 cap3] 25 (0, 0)) ∧ W.heap[w.heap.size + 1]? = some (.cells #[.slice none 0 0, .slice none 0 0, .slice none 0 0] 28 (0, 0))) := fun W h => ⟨(h.block _ (by omega)).trans hpa, (h.block _ (by omega)).trans hpg⟩
  clear hpa hpg
  refine region_stable hmx (RG1 w vl a l ao2 ao3 n2 n3 cap2 cap3 most) (fun vs => { tmps := (_ :: _ :: _ :: _ :: _ :: _ :: _ :: _ :: _ :: _ :: _ :: _ :: _ :: _ :: _ :: _ :: _ :: _ :: _ :: vs 0 :: vs 1 :: vs 2 :: vs 3 :: vs 4 :: vs 5 :: vs 6 :: vs 7 :: vs 8 :: vs 9 :: vs 10 :: vs 11 :: vs 12 :: vs 13 :: vs 14 :: vs 15 :: vs 16 :: vs 17 :: vs 18 :: vs 19 :: vs 20 :: vs 21 :: vs 22 :: _ :: _ :: _ :: _ :: _ :: _ :: _ :: _ :: _ :: _ :: _ :: _ :: _ :: _ :: _ :: _ :: _ :: _ :: _ :: _ :: _ :: _ :: _ :: _ :: _ :: _ :: _ :: _ :: _ :: _ :: _ :: _ :: _ :: _ :: _ :: _ :: _ :: _ :: _ :: _ :: _ :: _ :: _ :: _ :: _ :: _ :: _ :: _ :: _ :: _ :: _ :: _ :: _ :: _ :: _ :: _ :: _ :: _ :: _ :: _ :: _ :: _ :: _ :: _ :: _ :: _ :: _ :: _ :: _ :: _ :: _ :: _ :: _ :: _ :: _ :: _ :: _ :: _ :: _ :: _ :: _ :: []).toArray, defers := [] }) (fun _ => undef) rfl (by kernel_rfl) (fun _ _ _ _ h _ => h) ?step ?fin
  case step =>
    clear hbx
    intro ix o ho
    match ix, ho with
    | 0, ho =>
        obtain rfl := Option.some.inj ho
        intro vs W K hB hD hK
        have HK := Lib.hid hK
        clear hK hD ho
        dsimp only
        go_simp
        have h := HK.out _ _ (Below.refl _ _) rfl
        simp only [upd, Nat.reduceEqDiff, reduceIte] at h
        exact h
    | 1, ho =>
        obtain rfl := Option.some.inj ho
        intro vs W K hB hD hK
        have HK := Lib.hid hK
        have e0 : vs 0 = vl := dep_of hD 0 (by rfl)
        clear hK hD ho
        dsimp only
        go_simp
        refine (HS.out W (HB1.out W hB)).mono ?_
        rintro e W' ⟨rfl, hb⟩
        have h := HK.out _ _ hb rfl
        simp only [upd, Nat.reduceEqDiff, reduceIte, e0] at h
        exact h
    | 2, ho =>
        obtain rfl := Option.some.inj ho
        intro vs W K hB hD hK
        have HK := Lib.hid hK
        have e1 : vs 1 = .bool true := dep_of hD 1 (by rfl)
        clear hK hD ho
        dsimp only
        go_simp
        have h := HK.out _ _ (Below.refl _ _) rfl
        simp only [upd, Nat.reduceEqDiff, reduceIte, e1] at h
        exact h
    | 3, ho =>
        obtain rfl := Option.some.inj ho
        intro vs W K hB hD hK
        have HK := Lib.hid hK
        have e2 : vs 2 = .bool false := dep_of hD 2 (by rfl)
        clear hK hD ho
        dsimp only
        go_simp
        have h := HK.out _ _ (Below.refl _ _) rfl
        simp only [upd, Nat.reduceEqDiff, reduceIte, e2] at h
        exact h
    | 4, ho =>
        obtain rfl := Option.some.inj ho
        intro vs W K hB hD hK
        have HK := Lib.hid hK
        have e3 : vs 3 = .bool false := dep_of hD 3 (by rfl)
        obtain ⟨d0, d1, d2, d3⟩ := HPA.out W hB
        clear hK hD ho
        dsimp only
        go_simp
        have h := HK.out _ _ (Below.refl _ _) rfl
        simp only [upd, Nat.reduceEqDiff, reduceIte, e3] at h
        exact h
    | 5, ho =>
        obtain rfl := Option.some.inj ho
        intro vs W K hB hD hK
        have HK := Lib.hid hK
        have e3 : vs 3 = .bool false := dep_of hD 3 (by rfl)
        have e4 : vs 4 = .agg #[.int .i64 a.letters, .int .i64 a.start, .slice ao2 n2 cap2, .slice ao3 n3 cap3] := dep_of hD 4 (by rfl)
        clear hK hD ho
        dsimp only
        go_simp
        refine (HA.out W (HB1.out W hB)).mono ?_
        rintro e W' ⟨rfl, hb⟩
        have h := HK.out _ _ hb rfl
        simp only [upd, Nat.reduceEqDiff, reduceIte, e3, e4] at h
        exact h
    | 6, ho =>
        obtain rfl := Option.some.inj ho
        intro vs W K hB hD hK
        have HK := Lib.hid hK
        have e3 : vs 3 = .bool false := dep_of hD 3 (by rfl)
        have e5 : vs 5 = .bool false := dep_of hD 5 (by rfl)
        clear hK hD ho
        dsimp only
        go_simp
        have h := HK.out _ _ (Below.refl _ _) rfl
        simp only [upd, Nat.reduceEqDiff, reduceIte, e3, e5] at h
        exact h
    | 7, ho =>
        obtain rfl := Option.some.inj ho
        intro vs W K hB hD hK
        have HK := Lib.hid hK
        have e3 : vs 3 = .bool false := dep_of hD 3 (by rfl)
        have e6 : vs 6 = .bool true := dep_of hD 6 (by rfl)
        clear hK hD ho
        dsimp only
        go_simp
        have h := HK.out _ _ (Below.refl _ _) rfl
        simp only [upd, Nat.reduceEqDiff, reduceIte, e3, e6] at h
        exact h
    | 8, ho =>
        obtain rfl := Option.some.inj ho
        intro vs W K hB hD hK
        have HK := Lib.hid hK
        have e7 : vs 7 = .bool true := dep_of hD 7 (by rfl)
        clear hK hD ho
        dsimp only
        go_simp
        have h := HK.out _ _ (Below.refl _ _) rfl
        simp only [upd, Nat.reduceEqDiff, reduceIte, e7] at h
        exact h
    | 9, ho =>
        obtain rfl := Option.some.inj ho
        intro vs W K hB hD hK
        have HK := Lib.hid hK
        have e8 : vs 8 = .bool true := dep_of hD 8 (by rfl)
        clear hK hD ho
        dsimp only
        go_simp
        have h := HK.out _ _ (Below.refl _ _) rfl
        simp only [upd, Nat.reduceEqDiff, reduceIte, e8] at h
        exact h
    | 10, ho =>
        obtain rfl := Option.some.inj ho
        intro vs W K hB hD hK
        have HK := Lib.hid hK
        have e8 : vs 8 = .bool true := dep_of hD 8 (by rfl)
        clear hK hD ho
        dsimp only
        go_simp
        have h := HK.out _ _ (Below.refl _ _) rfl
        simp only [upd, Nat.reduceEqDiff, reduceIte, e8] at h
        exact h
    | 11, ho =>
        obtain rfl := Option.some.inj ho
        intro vs W K hB hD hK
        have HK := Lib.hid hK
        have e8 : vs 8 = .bool true := dep_of hD 8 (by rfl)
        clear hK hD ho
        dsimp only
        go_simp
        have h := HK.out _ _ (Below.refl _ _) rfl
        simp only [upd, Nat.reduceEqDiff, reduceIte, e8] at h
        exact h
    | 12, ho =>
        obtain rfl := Option.some.inj ho
        intro vs W K hB hD hK
        have HK := Lib.hid hK
        have e8 : vs 8 = .bool true := dep_of hD 8 (by rfl)
        clear hK hD ho
        dsimp only
        go_simp
        have h := HK.out _ _ (Below.refl _ _) rfl
        simp only [upd, Nat.reduceEqDiff, reduceIte, e8] at h
        exact h
    | 13, ho =>
        obtain rfl := Option.some.inj ho
        intro vs W K hB hD hK
        have HK := Lib.hid hK
        have e8 : vs 8 = .bool true := dep_of hD 8 (by rfl)
        clear hK hD ho
        dsimp only
        go_simp
        have h := HK.out _ _ (Below.refl _ _) rfl
        simp only [upd, Nat.reduceEqDiff, reduceIte, e8] at h
        exact h
    | 14, ho =>
        obtain rfl := Option.some.inj ho
        intro vs W K hB hD hK
        have HK := Lib.hid hK
        have e8 : vs 8 = .bool true := dep_of hD 8 (by rfl)
        clear hK hD ho
        dsimp only
        go_simp
        have h := HK.out _ _ (Below.refl _ _) rfl
        simp only [upd, Nat.reduceEqDiff, reduceIte, e8] at h
        exact h
    | 15, ho =>
        obtain rfl := Option.some.inj ho
        intro vs W K hB hD hK
        have HK := Lib.hid hK
        have e14 : vs 14 = .bool true := dep_of hD 14 (by rfl)
        clear hK hD ho
        dsimp only
        go_simp
        have h := HK.out _ _ (Below.refl _ _) rfl
        simp only [upd, Nat.reduceEqDiff, reduceIte, e14] at h
        exact h
    | 16, ho =>
        obtain rfl := Option.some.inj ho
        intro vs W K hB hD hK
        have HK := Lib.hid hK
        have e15 : vs 15 = .bool true := dep_of hD 15 (by rfl)
        clear hK hD ho
        dsimp only
        go_simp
        have h := HK.out _ _ (Below.refl _ _) rfl
        simp only [upd, Nat.reduceEqDiff, reduceIte, e15] at h
        exact h
    | 17, ho =>
        obtain rfl := Option.some.inj ho
        intro vs W K hB hD hK
        have HK := Lib.hid hK
        have e15 : vs 15 = .bool true := dep_of hD 15 (by rfl)
        clear hK hD ho
        dsimp only
        go_simp
        have h := HK.out _ _ (Below.refl _ _) rfl
        simp only [upd, Nat.reduceEqDiff, reduceIte, e15] at h
        exact h
    | 18, ho =>
        obtain rfl := Option.some.inj ho
        intro vs W K hB hD hK
        have HK := Lib.hid hK
        have e15 : vs 15 = .bool true := dep_of hD 15 (by rfl)
        clear hK hD ho
        dsimp only
        go_simp
        have h := HK.out _ _ (Below.refl _ _) rfl
        simp only [upd, Nat.reduceEqDiff, reduceIte, e15] at h
        exact h
    | 19, ho =>
        obtain rfl := Option.some.inj ho
        intro vs W K hB hD hK
        have HK := Lib.hid hK
        have e18 : vs 18 = .bool true := dep_of hD 18 (by rfl)
        clear hK hD ho
        dsimp only
        go_simp
        have h := HK.out _ _ (Below.refl _ _) rfl
        simp only [upd, Nat.reduceEqDiff, reduceIte, e18] at h
        exact h
    | 20, ho =>
        obtain rfl := Option.some.inj ho
        intro vs W K hB hD hK
        have HK := Lib.hid hK
        have e19 : vs 19 = .bool true := dep_of hD 19 (by rfl)
        clear hK hD ho
        dsimp only
        go_simp
        have h := HK.out _ _ (Below.refl _ _) rfl
        simp only [upd, Nat.reduceEqDiff, reduceIte, e19] at h
        exact h
    | 21, ho =>
        obtain rfl := Option.some.inj ho
        intro vs W K hB hD hK
        have HK := Lib.hid hK
        have e19 : vs 19 = .bool true := dep_of hD 19 (by rfl)
        clear hK hD ho
        dsimp only
        go_simp
        have h := HK.out _ _ (Below.refl _ _) rfl
        simp only [upd, Nat.reduceEqDiff, reduceIte, e19] at h
        exact h
    | 22, ho =>
        obtain rfl := Option.some.inj ho
        intro vs W K hB hD hK
        have HK := Lib.hid hK
        have e19 : vs 19 = .bool true := dep_of hD 19 (by rfl)
        clear hK hD ho
        dsimp only
        go_simp
        have h := HK.out _ _ (Below.refl _ _) rfl
        simp only [upd, Nat.reduceEqDiff, reduceIte, e19] at h
        exact h
    | q + 23, ho => exact absurd ho (by simp)
  case fin =>
    intro vs W hB hall
    have e22 : vs 22 = .bool true := hall 22 (by decide)
    have hX := HPX.out W hB
    have hbW := HB1.out W hB
    have g1 := (HPG.out W hX).2
    clear hall hB HPX HPA HB1 HS HA HLt
    rw [e22]
    clear e22
    have c0 := cell_of_row _ _ 0 _ _ _ g1
    have c1 := cell_of_row _ _ 1 _ _ _ g1
    have c2 := cell_of_row _ _ 2 _ _ _ g1
    have f0 := frozen_of_row _ _ 0 _ _ g1
    have f1 := frozen_of_row _ _ 1 _ _ g1
    have f2 := frozen_of_row _ _ 2 _ _ g1
    go_wp2
    have hc3 := three_set (a := .slice none 0 0) (b := .slice none 0 0) (c := .slice none 0 0) g1
    have k0 := cell_of_row _ _ 0 _ _ _ hc3
    have k1 := cell_of_row _ _ 1 _ _ _ hc3
    have k2 := cell_of_row _ _ 2 _ _ _ hc3
    refine bodyPost_ret (v := .tuple #[.agg #[.slice none 0 0, .slice none 0 0, .slice none 0 0], .slice none 0 0, .int .i64 1]) (by simp [results, Tryd.results14, go_sem, k0, k1, k2]) rfl ?_
    exact ⟨rfl, below_three hbW (by omega)⟩

def RG2 (w : World) (vl : Value) (a : Au) (l : List Sig) (ao2 ao3 : Option Addr) (n2 n3 cap2 cap3 : Nat) (_most : Int) (ix : Nat) (u : Value) (_ : World) : Prop :=
  match ix with
  | 0 => u = vl
  | 1 => u = .bool true
  | 2 => u = .bool false
  | 3 => u = .bool false
  | 4 => u = .agg #[.int .i64 a.letters, .int .i64 a.start, .slice ao2 n2 cap2, .slice ao3 n3 cap3]
  | 5 => u = .bool true
  | 6 => u = .bool false
  | 7 => u = .bool false
  | 8 => u = .bool false
  | 9 => u = .pointer (some ⟨w.heap.size, 0, none⟩)
  | 10 => u = .int .i64 a.letters
  | 11 => u = vl
  | 12 => u = .int .i64 (lettersI l)
  | 13 => u = .bool true
  | 14 => u = .bool true
  | 15 => u = .bool true
  | 16 => u = undef
  | 17 => u = undef
  | 18 => u = .bool true
  | 19 => u = .bool true
  | 20 => u = undef
  | 21 => u = undef
  | 22 => u = .bool true
  | _ => True

set_option maxRecDepth 100000 in
set_option maxHeartbeats 8000000 in
theorem RBuild_bad2 (w : World) (vl va : Value) (l : List Sig) (a : Au) (most : Int) (hl : IsSigs w vl l) (ha : IsAuto w va a) (hv : validS l = true) (h1 : validA a = true) (h2 : (a.letters != lettersI l) = true) :
    Calls Tryd.prog 14 #[vl, va, .int .i64 most] w fun e w' => e = .returned (.tuple #[.agg #[.slice none 0 0, .slice none 0 0, .slice none 0 0], .slice none 0 0, .int .i64 1]) ∧ Below w.heap.size w w' := by
  have HS : Hid (∀ W, Below w.heap.size w W → Calls Tryd.prog 43 #[vl] W (Calm (.bool (validS l)) W)) := fun W h => RSValid_calm W _ l (hl.below h)
  have HA : Hid (∀ W, Below w.heap.size w W → Calls Tryd.prog 44 #[va] W (Calm (.bool (validA a)) W)) := fun W h => RPValid_c W _ a (ha.below h)
  have HLt : Hid (∀ W, Below w.heap.size w W → Calls Tryd.prog 45 #[vl] W (Calm (.int .i64 (lettersI l)) W)) := fun W h => RLetters_c W _ l (hl.below h)
  rw [hv] at HS
  rw [h1] at HA
  obtain ⟨ao, cap, b, off, rfl, -⟩ := hl
  obtain ⟨vv2, vv3, rfl, -, ⟨V2, ⟨ao2, cap2, b2, off2, rfl, -⟩, -⟩, ⟨V3, ⟨ao3, cap3, b3, off3, rfl, -⟩, -⟩⟩ := ha
  generalize a.next.length = n2 at *
  generalize a.prio.length = n3 at *
  obtain ⟨vl, hvl⟩ : ∃ vl, vl = Value.slice ao l.length cap := ⟨_, rfl⟩
  rw [← hvl] at HS HLt ⊢
  clear hvl
  have hmx : Tryd.prog.follows .mixedOrders = true := by kernel_rfl
  go_enter Tryd.func14, Tryd.ntmps14
  go_wp2
  have hbx : Below w.heap.size w ((w.alloc (.cells #[.int .i64 a.letters, .int .i64 a.start, .slice ao2 n2 cap2, .slice ao3 n3 cap3] 25)).alloc (.cells #[.slice none 0 0, .slice none 0 0, .slice none 0 0] 28)) := (by repeat (first | exact Below.refl _ _ | assumption | (refine belA ?_ _) | (refine belD ?_ _)))
  have hpa : ((w.alloc (.cells #[.int .i64 a.letters, .int .i64 a.start, .slice ao2 n2 cap2, .slice ao3 n3 cap3] 25)).alloc (.cells #[.slice none 0 0, .slice none 0 0, .slice none 0 0] 28)).heap[w.heap.size]? = some (.cells #[.int .i64 a.letters, .int .i64 a.start, .slice ao2 n2 cap2, .slice ao3 n3 cap3] 25 (0, 0)) := (by (repeat (rw [alloc_get]; first | rw [if_pos (by first | (simp; done) | (simp; omega))] | rw [if_neg (by first | (simp; done) | (simp; omega))])); (try rfl))
  have hpg : ((w.alloc (.cells #[.int .i64 a.letters, .int .i64 a.start, .slice ao2 n2 cap2, .slice ao3 n3 cap3] 25)).alloc (.cells #[.slice none 0 0, .slice none 0 0, .slice none 0 0] 28)).heap[w.heap.size + 1]? = some (.cells #[.slice none 0 0, .slice none 0 0, .slice none 0 0] 28 (0, 0)) := (by (repeat (rw [alloc_get]; first | rw [if_pos (by first | (simp; done) | (simp; omega))] | rw [if_neg (by first | (simp; done) | (simp; omega))])); (try rfl))
  generalize ((w.alloc (.cells #[.int .i64 a.letters, .int .i64 a.start, .slice ao2 n2 cap2, .slice ao3 n3 cap3] 25)).alloc (.cells #[.slice none 0 0, .slice none 0 0, .slice none 0 0] 28)) = w5 at *
  have hsz := (Array.getElem?_eq_some_iff.1 hpg).1
  have HB1 : Hid (∀ W, Below w5.drew.heap.size w5.drew W → Below w.heap.size w W) := fun W h => hbx.trans (((Below.drew (Below.refl _ _)).trans h).mono hbx.size)
  have HPX : Hid (∀ W, Below w5.drew.heap.size w5.drew W → Below w5.heap.size w5 W) := fun W h => (Below.drew (B := w5.heap.size) (Below.refl _ _)).trans h
  have HPA : Hid (∀ W, Below w5.drew.heap.size w5.drew W → W.cell? ⟨w.heap.size, 0, none⟩ = some (.int .i64 a.letters) ∧ W.cell? ⟨w.heap.size, 1, none⟩ = some (.int .i64 a.start) ∧ W.cell? ⟨w.heap.size, 2, none⟩ = some (.slice ao2 n2 cap2) ∧ W.cell? ⟨w.heap.size, 3, none⟩ = some (.slice ao3 n3 cap3)) := fun W h => by
    have k := ((HPX.out W h).block _ (by omega)).trans hpa
    exact ⟨cell_of_row _ _ 0 _ _ _ k, cell_of_row _ _ 1 _ _ _ k, cell_of_row _ _ 2 _ _ _ k, cell_of_row _ _ 3 _ _ _ k⟩
  have HPG : Hid (∀ W, Below w5.heap.size w5 W → W.heap[w.heap.size]? = some (.cells #[.int .i64 a.letters, .int .i64 a.start, .slice ao2 n2 cap2, .slice ao3 n3 cap3] 25 (0, 0)) ∧ W.heap[w.heap.size + 1]? = some (.cells #[.slice none 0 0, .slice none 0 0, .slice none 0 0] 28 (0, 0))) := fun W h => ⟨(h.block _ (by omega)).trans hpa, (h.block _ (by omega)).trans hpg⟩
  clear hpa hpg
  refine region_stable hmx (RG2 w vl a l ao2 ao3 n2 n3 cap2 cap3 most) (fun vs => { tmps := (_ :: _ :: _ :: _ :: _ :: _ :: _ :: _ :: _ :: _ :: _ :: _ :: _ :: _ :: _ :: _ :: _ :: _ :: _ :: vs 0 :: vs 1 :: vs 2 :: vs 3 :: vs 4 :: vs 5 :: vs 6 :: vs 7 :: vs 8 :: vs 9 :: vs 10 :: vs 11 :: vs 12 :: vs 13 :: vs 14 :: vs 15 :: vs 16 :: vs 17 :: vs 18 :: vs 19 :: vs 20 :: vs 21 :: vs 22 :: _ :: _ :: _ :: _ :: _ :: _ :: _ :: _ :: _ :: _ :: _ :: _ :: _ :: _ :: _ :: _ :: _ :: _ :: _ :: _ :: _ :: _ :: _ :: _ :: _ :: _ :: _ :: _ :: _ :: _ :: _ :: _ :: _ :: _ :: _ :: _ :: _ :: _ :: _ :: _ :: _ :: _ :: _ :: _ :: _ :: _ :: _ :: _ :: _ :: _ :: _ :: _ :: _ :: _ :: _ :: _ :: _ :: _ :: _ :: _ :: _ :: _ :: _ :: _ :: _ :: _ :: _ :: _ :: _ :: _ :: _ :: _ :: _ :: _ :: _ :: _ :: _ :: _ :: _ :: _ :: _ :: []).toArray, defers := [] }) (fun _ => undef) rfl (by kernel_rfl) (fun _ _ _ _ h _ => h) ?step ?fin
  case step =>
    clear hbx
    intro ix o ho
    match ix, ho with
    | 0, ho =>
        obtain rfl := Option.some.inj ho
        intro vs W K hB hD hK
        have HK := Lib.hid hK
        clear hK hD ho
        dsimp only
        go_simp
        have h := HK.out _ _ (Below.refl _ _) rfl
        simp only [upd, Nat.reduceEqDiff, reduceIte] at h
        exact h
    | 1, ho =>
        obtain rfl := Option.some.inj ho
        intro vs W K hB hD hK
        have HK := Lib.hid hK
        have e0 : vs 0 = vl := dep_of hD 0 (by rfl)
        clear hK hD ho
        dsimp only
        go_simp
        refine (HS.out W (HB1.out W hB)).mono ?_
        rintro e W' ⟨rfl, hb⟩
        have h := HK.out _ _ hb rfl
        simp only [upd, Nat.reduceEqDiff, reduceIte, e0] at h
        exact h
    | 2, ho =>
        obtain rfl := Option.some.inj ho
        intro vs W K hB hD hK
        have HK := Lib.hid hK
        have e1 : vs 1 = .bool true := dep_of hD 1 (by rfl)
        clear hK hD ho
        dsimp only
        go_simp
        have h := HK.out _ _ (Below.refl _ _) rfl
        simp only [upd, Nat.reduceEqDiff, reduceIte, e1] at h
        exact h
    | 3, ho =>
        obtain rfl := Option.some.inj ho
        intro vs W K hB hD hK
        have HK := Lib.hid hK
        have e2 : vs 2 = .bool false := dep_of hD 2 (by rfl)
        clear hK hD ho
        dsimp only
        go_simp
        have h := HK.out _ _ (Below.refl _ _) rfl
        simp only [upd, Nat.reduceEqDiff, reduceIte, e2] at h
        exact h
    | 4, ho =>
        obtain rfl := Option.some.inj ho
        intro vs W K hB hD hK
        have HK := Lib.hid hK
        have e3 : vs 3 = .bool false := dep_of hD 3 (by rfl)
        obtain ⟨d0, d1, d2, d3⟩ := HPA.out W hB
        clear hK hD ho
        dsimp only
        go_simp
        have h := HK.out _ _ (Below.refl _ _) rfl
        simp only [upd, Nat.reduceEqDiff, reduceIte, e3] at h
        exact h
    | 5, ho =>
        obtain rfl := Option.some.inj ho
        intro vs W K hB hD hK
        have HK := Lib.hid hK
        have e3 : vs 3 = .bool false := dep_of hD 3 (by rfl)
        have e4 : vs 4 = .agg #[.int .i64 a.letters, .int .i64 a.start, .slice ao2 n2 cap2, .slice ao3 n3 cap3] := dep_of hD 4 (by rfl)
        clear hK hD ho
        dsimp only
        go_simp
        refine (HA.out W (HB1.out W hB)).mono ?_
        rintro e W' ⟨rfl, hb⟩
        have h := HK.out _ _ hb rfl
        simp only [upd, Nat.reduceEqDiff, reduceIte, e3, e4] at h
        exact h
    | 6, ho =>
        obtain rfl := Option.some.inj ho
        intro vs W K hB hD hK
        have HK := Lib.hid hK
        have e3 : vs 3 = .bool false := dep_of hD 3 (by rfl)
        have e5 : vs 5 = .bool true := dep_of hD 5 (by rfl)
        clear hK hD ho
        dsimp only
        go_simp
        have h := HK.out _ _ (Below.refl _ _) rfl
        simp only [upd, Nat.reduceEqDiff, reduceIte, e3, e5] at h
        exact h
    | 7, ho =>
        obtain rfl := Option.some.inj ho
        intro vs W K hB hD hK
        have HK := Lib.hid hK
        have e3 : vs 3 = .bool false := dep_of hD 3 (by rfl)
        have e6 : vs 6 = .bool false := dep_of hD 6 (by rfl)
        clear hK hD ho
        dsimp only
        go_simp
        have h := HK.out _ _ (Below.refl _ _) rfl
        simp only [upd, Nat.reduceEqDiff, reduceIte, e3, e6] at h
        exact h
    | 8, ho =>
        obtain rfl := Option.some.inj ho
        intro vs W K hB hD hK
        have HK := Lib.hid hK
        have e7 : vs 7 = .bool false := dep_of hD 7 (by rfl)
        clear hK hD ho
        dsimp only
        go_simp
        have h := HK.out _ _ (Below.refl _ _) rfl
        simp only [upd, Nat.reduceEqDiff, reduceIte, e7] at h
        exact h
    | 9, ho =>
        obtain rfl := Option.some.inj ho
        intro vs W K hB hD hK
        have HK := Lib.hid hK
        have e8 : vs 8 = .bool false := dep_of hD 8 (by rfl)
        clear hK hD ho
        dsimp only
        go_simp
        have h := HK.out _ _ (Below.refl _ _) rfl
        simp only [upd, Nat.reduceEqDiff, reduceIte, e8] at h
        exact h
    | 10, ho =>
        obtain rfl := Option.some.inj ho
        intro vs W K hB hD hK
        have HK := Lib.hid hK
        have e8 : vs 8 = .bool false := dep_of hD 8 (by rfl)
        have e9 : vs 9 = .pointer (some ⟨w.heap.size, 0, none⟩) := dep_of hD 9 (by rfl)
        obtain ⟨d0, d1, d2, d3⟩ := HPA.out W hB
        clear hK hD ho
        dsimp only
        go_simp
        have h := HK.out _ _ (Below.refl _ _) rfl
        simp only [upd, Nat.reduceEqDiff, reduceIte, e8, e9] at h
        exact h
    | 11, ho =>
        obtain rfl := Option.some.inj ho
        intro vs W K hB hD hK
        have HK := Lib.hid hK
        have e8 : vs 8 = .bool false := dep_of hD 8 (by rfl)
        clear hK hD ho
        dsimp only
        go_simp
        have h := HK.out _ _ (Below.refl _ _) rfl
        simp only [upd, Nat.reduceEqDiff, reduceIte, e8] at h
        exact h
    | 12, ho =>
        obtain rfl := Option.some.inj ho
        intro vs W K hB hD hK
        have HK := Lib.hid hK
        have e8 : vs 8 = .bool false := dep_of hD 8 (by rfl)
        have e11 : vs 11 = vl := dep_of hD 11 (by rfl)
        clear hK hD ho
        dsimp only
        go_simp
        refine (HLt.out W (HB1.out W hB)).mono ?_
        rintro e W' ⟨rfl, hb⟩
        have h := HK.out _ _ hb rfl
        simp only [upd, Nat.reduceEqDiff, reduceIte, e8, e11] at h
        exact h
    | 13, ho =>
        obtain rfl := Option.some.inj ho
        intro vs W K hB hD hK
        have HK := Lib.hid hK
        have e8 : vs 8 = .bool false := dep_of hD 8 (by rfl)
        have e10 : vs 10 = .int .i64 a.letters := dep_of hD 10 (by rfl)
        have e12 : vs 12 = .int .i64 (lettersI l) := dep_of hD 12 (by rfl)
        clear hK hD ho
        dsimp only
        go_simp
        have h := HK.out _ _ (Below.refl _ _) rfl
        simp only [upd, Nat.reduceEqDiff, reduceIte, e8, e10, e12] at h
        exact h
    | 14, ho =>
        obtain rfl := Option.some.inj ho
        intro vs W K hB hD hK
        have HK := Lib.hid hK
        have e8 : vs 8 = .bool false := dep_of hD 8 (by rfl)
        have e13 : vs 13 = .bool true := dep_of hD 13 (by rfl)
        clear hK hD ho
        dsimp only
        go_simp
        have h := HK.out _ _ (Below.refl _ _) rfl
        simp only [upd, Nat.reduceEqDiff, reduceIte, e8, e13] at h
        exact h
    | 15, ho =>
        obtain rfl := Option.some.inj ho
        intro vs W K hB hD hK
        have HK := Lib.hid hK
        have e14 : vs 14 = .bool true := dep_of hD 14 (by rfl)
        clear hK hD ho
        dsimp only
        go_simp
        have h := HK.out _ _ (Below.refl _ _) rfl
        simp only [upd, Nat.reduceEqDiff, reduceIte, e14] at h
        exact h
    | 16, ho =>
        obtain rfl := Option.some.inj ho
        intro vs W K hB hD hK
        have HK := Lib.hid hK
        have e15 : vs 15 = .bool true := dep_of hD 15 (by rfl)
        clear hK hD ho
        dsimp only
        go_simp
        have h := HK.out _ _ (Below.refl _ _) rfl
        simp only [upd, Nat.reduceEqDiff, reduceIte, e15] at h
        exact h
    | 17, ho =>
        obtain rfl := Option.some.inj ho
        intro vs W K hB hD hK
        have HK := Lib.hid hK
        have e15 : vs 15 = .bool true := dep_of hD 15 (by rfl)
        clear hK hD ho
        dsimp only
        go_simp
        have h := HK.out _ _ (Below.refl _ _) rfl
        simp only [upd, Nat.reduceEqDiff, reduceIte, e15] at h
        exact h
    | 18, ho =>
        obtain rfl := Option.some.inj ho
        intro vs W K hB hD hK
        have HK := Lib.hid hK
        have e15 : vs 15 = .bool true := dep_of hD 15 (by rfl)
        clear hK hD ho
        dsimp only
        go_simp
        have h := HK.out _ _ (Below.refl _ _) rfl
        simp only [upd, Nat.reduceEqDiff, reduceIte, e15] at h
        exact h
    | 19, ho =>
        obtain rfl := Option.some.inj ho
        intro vs W K hB hD hK
        have HK := Lib.hid hK
        have e18 : vs 18 = .bool true := dep_of hD 18 (by rfl)
        clear hK hD ho
        dsimp only
        go_simp
        have h := HK.out _ _ (Below.refl _ _) rfl
        simp only [upd, Nat.reduceEqDiff, reduceIte, e18] at h
        exact h
    | 20, ho =>
        obtain rfl := Option.some.inj ho
        intro vs W K hB hD hK
        have HK := Lib.hid hK
        have e19 : vs 19 = .bool true := dep_of hD 19 (by rfl)
        clear hK hD ho
        dsimp only
        go_simp
        have h := HK.out _ _ (Below.refl _ _) rfl
        simp only [upd, Nat.reduceEqDiff, reduceIte, e19] at h
        exact h
    | 21, ho =>
        obtain rfl := Option.some.inj ho
        intro vs W K hB hD hK
        have HK := Lib.hid hK
        have e19 : vs 19 = .bool true := dep_of hD 19 (by rfl)
        clear hK hD ho
        dsimp only
        go_simp
        have h := HK.out _ _ (Below.refl _ _) rfl
        simp only [upd, Nat.reduceEqDiff, reduceIte, e19] at h
        exact h
    | 22, ho =>
        obtain rfl := Option.some.inj ho
        intro vs W K hB hD hK
        have HK := Lib.hid hK
        have e19 : vs 19 = .bool true := dep_of hD 19 (by rfl)
        clear hK hD ho
        dsimp only
        go_simp
        have h := HK.out _ _ (Below.refl _ _) rfl
        simp only [upd, Nat.reduceEqDiff, reduceIte, e19] at h
        exact h
    | q + 23, ho => exact absurd ho (by simp)
  case fin =>
    intro vs W hB hall
    have e22 : vs 22 = .bool true := hall 22 (by decide)
    have hX := HPX.out W hB
    have hbW := HB1.out W hB
    have g1 := (HPG.out W hX).2
    clear hall hB HPX HPA HB1 HS HA HLt
    rw [e22]
    clear e22
    have c0 := cell_of_row _ _ 0 _ _ _ g1
    have c1 := cell_of_row _ _ 1 _ _ _ g1
    have c2 := cell_of_row _ _ 2 _ _ _ g1
    have f0 := frozen_of_row _ _ 0 _ _ g1
    have f1 := frozen_of_row _ _ 1 _ _ g1
    have f2 := frozen_of_row _ _ 2 _ _ g1
    go_wp2
    have hc3 := three_set (a := .slice none 0 0) (b := .slice none 0 0) (c := .slice none 0 0) g1
    have k0 := cell_of_row _ _ 0 _ _ _ hc3
    have k1 := cell_of_row _ _ 1 _ _ _ hc3
    have k2 := cell_of_row _ _ 2 _ _ _ hc3
    refine bodyPost_ret (v := .tuple #[.agg #[.slice none 0 0, .slice none 0 0, .slice none 0 0], .slice none 0 0, .int .i64 1]) (by simp [results, Tryd.results14, go_sem, k0, k1, k2]) rfl ?_
    exact ⟨rfl, below_three hbW (by omega)⟩

def RG3 (w : World) (vl : Value) (a : Au) (l : List Sig) (ao2 ao3 : Option Addr) (n2 n3 cap2 cap3 : Nat) (most : Int) (ix : Nat) (u : Value) (_ : World) : Prop :=
  match ix with
  | 0 => u = vl
  | 1 => u = .bool true
  | 2 => u = .bool false
  | 3 => u = .bool false
  | 4 => u = .agg #[.int .i64 a.letters, .int .i64 a.start, .slice ao2 n2 cap2, .slice ao3 n3 cap3]
  | 5 => u = .bool true
  | 6 => u = .bool false
  | 7 => u = .bool false
  | 8 => u = .bool false
  | 9 => u = .pointer (some ⟨w.heap.size, 0, none⟩)
  | 10 => u = .int .i64 a.letters
  | 11 => u = vl
  | 12 => u = .int .i64 (lettersI l)
  | 13 => u = .bool false
  | 14 => u = .bool false
  | 15 => u = .bool false
  | 16 => u = .int .i64 most
  | 17 => u = .bool true
  | 18 => u = .bool true
  | 19 => u = .bool true
  | 20 => u = undef
  | 21 => u = undef
  | 22 => u = .bool true
  | _ => True

set_option maxRecDepth 100000 in
set_option maxHeartbeats 8000000 in
theorem RBuild_bad3 (w : World) (vl va : Value) (l : List Sig) (a : Au) (most : Int) (hl : IsSigs w vl l) (ha : IsAuto w va a) (hv : validS l = true) (h1 : validA a = true) (h2 : (a.letters != lettersI l) = false) (h3 : decide (most < 1) = true) :
    Calls Tryd.prog 14 #[vl, va, .int .i64 most] w fun e w' => e = .returned (.tuple #[.agg #[.slice none 0 0, .slice none 0 0, .slice none 0 0], .slice none 0 0, .int .i64 1]) ∧ Below w.heap.size w w' := by
  have HS : Hid (∀ W, Below w.heap.size w W → Calls Tryd.prog 43 #[vl] W (Calm (.bool (validS l)) W)) := fun W h => RSValid_calm W _ l (hl.below h)
  have HA : Hid (∀ W, Below w.heap.size w W → Calls Tryd.prog 44 #[va] W (Calm (.bool (validA a)) W)) := fun W h => RPValid_c W _ a (ha.below h)
  have HLt : Hid (∀ W, Below w.heap.size w W → Calls Tryd.prog 45 #[vl] W (Calm (.int .i64 (lettersI l)) W)) := fun W h => RLetters_c W _ l (hl.below h)
  rw [hv] at HS
  rw [h1] at HA
  obtain ⟨ao, cap, b, off, rfl, -⟩ := hl
  obtain ⟨vv2, vv3, rfl, -, ⟨V2, ⟨ao2, cap2, b2, off2, rfl, -⟩, -⟩, ⟨V3, ⟨ao3, cap3, b3, off3, rfl, -⟩, -⟩⟩ := ha
  generalize a.next.length = n2 at *
  generalize a.prio.length = n3 at *
  obtain ⟨vl, hvl⟩ : ∃ vl, vl = Value.slice ao l.length cap := ⟨_, rfl⟩
  rw [← hvl] at HS HLt ⊢
  clear hvl
  have hmx : Tryd.prog.follows .mixedOrders = true := by kernel_rfl
  go_enter Tryd.func14, Tryd.ntmps14
  go_wp2
  have hbx : Below w.heap.size w ((w.alloc (.cells #[.int .i64 a.letters, .int .i64 a.start, .slice ao2 n2 cap2, .slice ao3 n3 cap3] 25)).alloc (.cells #[.slice none 0 0, .slice none 0 0, .slice none 0 0] 28)) := (by repeat (first | exact Below.refl _ _ | assumption | (refine belA ?_ _) | (refine belD ?_ _)))
  have hpa : ((w.alloc (.cells #[.int .i64 a.letters, .int .i64 a.start, .slice ao2 n2 cap2, .slice ao3 n3 cap3] 25)).alloc (.cells #[.slice none 0 0, .slice none 0 0, .slice none 0 0] 28)).heap[w.heap.size]? = some (.cells #[.int .i64 a.letters, .int .i64 a.start, .slice ao2 n2 cap2, .slice ao3 n3 cap3] 25 (0, 0)) := (by (repeat (rw [alloc_get]; first | rw [if_pos (by first | (simp; done) | (simp; omega))] | rw [if_neg (by first | (simp; done) | (simp; omega))])); (try rfl))
  have hpg : ((w.alloc (.cells #[.int .i64 a.letters, .int .i64 a.start, .slice ao2 n2 cap2, .slice ao3 n3 cap3] 25)).alloc (.cells #[.slice none 0 0, .slice none 0 0, .slice none 0 0] 28)).heap[w.heap.size + 1]? = some (.cells #[.slice none 0 0, .slice none 0 0, .slice none 0 0] 28 (0, 0)) := (by (repeat (rw [alloc_get]; first | rw [if_pos (by first | (simp; done) | (simp; omega))] | rw [if_neg (by first | (simp; done) | (simp; omega))])); (try rfl))
  generalize ((w.alloc (.cells #[.int .i64 a.letters, .int .i64 a.start, .slice ao2 n2 cap2, .slice ao3 n3 cap3] 25)).alloc (.cells #[.slice none 0 0, .slice none 0 0, .slice none 0 0] 28)) = w5 at *
  have hsz := (Array.getElem?_eq_some_iff.1 hpg).1
  have HB1 : Hid (∀ W, Below w5.drew.heap.size w5.drew W → Below w.heap.size w W) := fun W h => hbx.trans (((Below.drew (Below.refl _ _)).trans h).mono hbx.size)
  have HPX : Hid (∀ W, Below w5.drew.heap.size w5.drew W → Below w5.heap.size w5 W) := fun W h => (Below.drew (B := w5.heap.size) (Below.refl _ _)).trans h
  have HPA : Hid (∀ W, Below w5.drew.heap.size w5.drew W → W.cell? ⟨w.heap.size, 0, none⟩ = some (.int .i64 a.letters) ∧ W.cell? ⟨w.heap.size, 1, none⟩ = some (.int .i64 a.start) ∧ W.cell? ⟨w.heap.size, 2, none⟩ = some (.slice ao2 n2 cap2) ∧ W.cell? ⟨w.heap.size, 3, none⟩ = some (.slice ao3 n3 cap3)) := fun W h => by
    have k := ((HPX.out W h).block _ (by omega)).trans hpa
    exact ⟨cell_of_row _ _ 0 _ _ _ k, cell_of_row _ _ 1 _ _ _ k, cell_of_row _ _ 2 _ _ _ k, cell_of_row _ _ 3 _ _ _ k⟩
  have HPG : Hid (∀ W, Below w5.heap.size w5 W → W.heap[w.heap.size]? = some (.cells #[.int .i64 a.letters, .int .i64 a.start, .slice ao2 n2 cap2, .slice ao3 n3 cap3] 25 (0, 0)) ∧ W.heap[w.heap.size + 1]? = some (.cells #[.slice none 0 0, .slice none 0 0, .slice none 0 0] 28 (0, 0))) := fun W h => ⟨(h.block _ (by omega)).trans hpa, (h.block _ (by omega)).trans hpg⟩
  clear hpa hpg
  refine region_stable hmx (RG3 w vl a l ao2 ao3 n2 n3 cap2 cap3 most) (fun vs => { tmps := (_ :: _ :: _ :: _ :: _ :: _ :: _ :: _ :: _ :: _ :: _ :: _ :: _ :: _ :: _ :: _ :: _ :: _ :: _ :: vs 0 :: vs 1 :: vs 2 :: vs 3 :: vs 4 :: vs 5 :: vs 6 :: vs 7 :: vs 8 :: vs 9 :: vs 10 :: vs 11 :: vs 12 :: vs 13 :: vs 14 :: vs 15 :: vs 16 :: vs 17 :: vs 18 :: vs 19 :: vs 20 :: vs 21 :: vs 22 :: _ :: _ :: _ :: _ :: _ :: _ :: _ :: _ :: _ :: _ :: _ :: _ :: _ :: _ :: _ :: _ :: _ :: _ :: _ :: _ :: _ :: _ :: _ :: _ :: _ :: _ :: _ :: _ :: _ :: _ :: _ :: _ :: _ :: _ :: _ :: _ :: _ :: _ :: _ :: _ :: _ :: _ :: _ :: _ :: _ :: _ :: _ :: _ :: _ :: _ :: _ :: _ :: _ :: _ :: _ :: _ :: _ :: _ :: _ :: _ :: _ :: _ :: _ :: _ :: _ :: _ :: _ :: _ :: _ :: _ :: _ :: _ :: _ :: _ :: _ :: _ :: _ :: _ :: _ :: _ :: _ :: []).toArray, defers := [] }) (fun _ => undef) rfl (by kernel_rfl) (fun _ _ _ _ h _ => h) ?step ?fin
  case step =>
    clear hbx
    intro ix o ho
    match ix, ho with
    | 0, ho =>
        obtain rfl := Option.some.inj ho
        intro vs W K hB hD hK
        have HK := Lib.hid hK
        clear hK hD ho
        dsimp only
        go_simp
        have h := HK.out _ _ (Below.refl _ _) rfl
        simp only [upd, Nat.reduceEqDiff, reduceIte] at h
        exact h
    | 1, ho =>
        obtain rfl := Option.some.inj ho
        intro vs W K hB hD hK
        have HK := Lib.hid hK
        have e0 : vs 0 = vl := dep_of hD 0 (by rfl)
        clear hK hD ho
        dsimp only
        go_simp
        refine (HS.out W (HB1.out W hB)).mono ?_
        rintro e W' ⟨rfl, hb⟩
        have h := HK.out _ _ hb rfl
        simp only [upd, Nat.reduceEqDiff, reduceIte, e0] at h
        exact h
    | 2, ho =>
        obtain rfl := Option.some.inj ho
        intro vs W K hB hD hK
        have HK := Lib.hid hK
        have e1 : vs 1 = .bool true := dep_of hD 1 (by rfl)
        clear hK hD ho
        dsimp only
        go_simp
        have h := HK.out _ _ (Below.refl _ _) rfl
        simp only [upd, Nat.reduceEqDiff, reduceIte, e1] at h
        exact h
    | 3, ho =>
        obtain rfl := Option.some.inj ho
        intro vs W K hB hD hK
        have HK := Lib.hid hK
        have e2 : vs 2 = .bool false := dep_of hD 2 (by rfl)
        clear hK hD ho
        dsimp only
        go_simp
        have h := HK.out _ _ (Below.refl _ _) rfl
        simp only [upd, Nat.reduceEqDiff, reduceIte, e2] at h
        exact h
    | 4, ho =>
        obtain rfl := Option.some.inj ho
        intro vs W K hB hD hK
        have HK := Lib.hid hK
        have e3 : vs 3 = .bool false := dep_of hD 3 (by rfl)
        obtain ⟨d0, d1, d2, d3⟩ := HPA.out W hB
        clear hK hD ho
        dsimp only
        go_simp
        have h := HK.out _ _ (Below.refl _ _) rfl
        simp only [upd, Nat.reduceEqDiff, reduceIte, e3] at h
        exact h
    | 5, ho =>
        obtain rfl := Option.some.inj ho
        intro vs W K hB hD hK
        have HK := Lib.hid hK
        have e3 : vs 3 = .bool false := dep_of hD 3 (by rfl)
        have e4 : vs 4 = .agg #[.int .i64 a.letters, .int .i64 a.start, .slice ao2 n2 cap2, .slice ao3 n3 cap3] := dep_of hD 4 (by rfl)
        clear hK hD ho
        dsimp only
        go_simp
        refine (HA.out W (HB1.out W hB)).mono ?_
        rintro e W' ⟨rfl, hb⟩
        have h := HK.out _ _ hb rfl
        simp only [upd, Nat.reduceEqDiff, reduceIte, e3, e4] at h
        exact h
    | 6, ho =>
        obtain rfl := Option.some.inj ho
        intro vs W K hB hD hK
        have HK := Lib.hid hK
        have e3 : vs 3 = .bool false := dep_of hD 3 (by rfl)
        have e5 : vs 5 = .bool true := dep_of hD 5 (by rfl)
        clear hK hD ho
        dsimp only
        go_simp
        have h := HK.out _ _ (Below.refl _ _) rfl
        simp only [upd, Nat.reduceEqDiff, reduceIte, e3, e5] at h
        exact h
    | 7, ho =>
        obtain rfl := Option.some.inj ho
        intro vs W K hB hD hK
        have HK := Lib.hid hK
        have e3 : vs 3 = .bool false := dep_of hD 3 (by rfl)
        have e6 : vs 6 = .bool false := dep_of hD 6 (by rfl)
        clear hK hD ho
        dsimp only
        go_simp
        have h := HK.out _ _ (Below.refl _ _) rfl
        simp only [upd, Nat.reduceEqDiff, reduceIte, e3, e6] at h
        exact h
    | 8, ho =>
        obtain rfl := Option.some.inj ho
        intro vs W K hB hD hK
        have HK := Lib.hid hK
        have e7 : vs 7 = .bool false := dep_of hD 7 (by rfl)
        clear hK hD ho
        dsimp only
        go_simp
        have h := HK.out _ _ (Below.refl _ _) rfl
        simp only [upd, Nat.reduceEqDiff, reduceIte, e7] at h
        exact h
    | 9, ho =>
        obtain rfl := Option.some.inj ho
        intro vs W K hB hD hK
        have HK := Lib.hid hK
        have e8 : vs 8 = .bool false := dep_of hD 8 (by rfl)
        clear hK hD ho
        dsimp only
        go_simp
        have h := HK.out _ _ (Below.refl _ _) rfl
        simp only [upd, Nat.reduceEqDiff, reduceIte, e8] at h
        exact h
    | 10, ho =>
        obtain rfl := Option.some.inj ho
        intro vs W K hB hD hK
        have HK := Lib.hid hK
        have e8 : vs 8 = .bool false := dep_of hD 8 (by rfl)
        have e9 : vs 9 = .pointer (some ⟨w.heap.size, 0, none⟩) := dep_of hD 9 (by rfl)
        obtain ⟨d0, d1, d2, d3⟩ := HPA.out W hB
        clear hK hD ho
        dsimp only
        go_simp
        have h := HK.out _ _ (Below.refl _ _) rfl
        simp only [upd, Nat.reduceEqDiff, reduceIte, e8, e9] at h
        exact h
    | 11, ho =>
        obtain rfl := Option.some.inj ho
        intro vs W K hB hD hK
        have HK := Lib.hid hK
        have e8 : vs 8 = .bool false := dep_of hD 8 (by rfl)
        clear hK hD ho
        dsimp only
        go_simp
        have h := HK.out _ _ (Below.refl _ _) rfl
        simp only [upd, Nat.reduceEqDiff, reduceIte, e8] at h
        exact h
    | 12, ho =>
        obtain rfl := Option.some.inj ho
        intro vs W K hB hD hK
        have HK := Lib.hid hK
        have e8 : vs 8 = .bool false := dep_of hD 8 (by rfl)
        have e11 : vs 11 = vl := dep_of hD 11 (by rfl)
        clear hK hD ho
        dsimp only
        go_simp
        refine (HLt.out W (HB1.out W hB)).mono ?_
        rintro e W' ⟨rfl, hb⟩
        have h := HK.out _ _ hb rfl
        simp only [upd, Nat.reduceEqDiff, reduceIte, e8, e11] at h
        exact h
    | 13, ho =>
        obtain rfl := Option.some.inj ho
        intro vs W K hB hD hK
        have HK := Lib.hid hK
        have e8 : vs 8 = .bool false := dep_of hD 8 (by rfl)
        have e10 : vs 10 = .int .i64 a.letters := dep_of hD 10 (by rfl)
        have e12 : vs 12 = .int .i64 (lettersI l) := dep_of hD 12 (by rfl)
        clear hK hD ho
        dsimp only
        go_simp
        have h := HK.out _ _ (Below.refl _ _) rfl
        simp only [upd, Nat.reduceEqDiff, reduceIte, e8, e10, e12] at h
        exact h
    | 14, ho =>
        obtain rfl := Option.some.inj ho
        intro vs W K hB hD hK
        have HK := Lib.hid hK
        have e8 : vs 8 = .bool false := dep_of hD 8 (by rfl)
        have e13 : vs 13 = .bool false := dep_of hD 13 (by rfl)
        clear hK hD ho
        dsimp only
        go_simp
        have h := HK.out _ _ (Below.refl _ _) rfl
        simp only [upd, Nat.reduceEqDiff, reduceIte, e8, e13] at h
        exact h
    | 15, ho =>
        obtain rfl := Option.some.inj ho
        intro vs W K hB hD hK
        have HK := Lib.hid hK
        have e14 : vs 14 = .bool false := dep_of hD 14 (by rfl)
        clear hK hD ho
        dsimp only
        go_simp
        have h := HK.out _ _ (Below.refl _ _) rfl
        simp only [upd, Nat.reduceEqDiff, reduceIte, e14] at h
        exact h
    | 16, ho =>
        obtain rfl := Option.some.inj ho
        intro vs W K hB hD hK
        have HK := Lib.hid hK
        have e15 : vs 15 = .bool false := dep_of hD 15 (by rfl)
        clear hK hD ho
        dsimp only
        go_simp
        have h := HK.out _ _ (Below.refl _ _) rfl
        simp only [upd, Nat.reduceEqDiff, reduceIte, e15] at h
        exact h
    | 17, ho =>
        obtain rfl := Option.some.inj ho
        intro vs W K hB hD hK
        have HK := Lib.hid hK
        have e15 : vs 15 = .bool false := dep_of hD 15 (by rfl)
        have e16 : vs 16 = .int .i64 most := dep_of hD 16 (by rfl)
        clear hK hD ho
        dsimp only
        go_simp
        have h := HK.out _ _ (Below.refl _ _) rfl
        simp only [upd, Nat.reduceEqDiff, reduceIte, e15, e16] at h
        exact h
    | 18, ho =>
        obtain rfl := Option.some.inj ho
        intro vs W K hB hD hK
        have HK := Lib.hid hK
        have e15 : vs 15 = .bool false := dep_of hD 15 (by rfl)
        have e17 : vs 17 = .bool true := dep_of hD 17 (by rfl)
        clear hK hD ho
        dsimp only
        go_simp
        have h := HK.out _ _ (Below.refl _ _) rfl
        simp only [upd, Nat.reduceEqDiff, reduceIte, e15, e17] at h
        exact h
    | 19, ho =>
        obtain rfl := Option.some.inj ho
        intro vs W K hB hD hK
        have HK := Lib.hid hK
        have e18 : vs 18 = .bool true := dep_of hD 18 (by rfl)
        clear hK hD ho
        dsimp only
        go_simp
        have h := HK.out _ _ (Below.refl _ _) rfl
        simp only [upd, Nat.reduceEqDiff, reduceIte, e18] at h
        exact h
    | 20, ho =>
        obtain rfl := Option.some.inj ho
        intro vs W K hB hD hK
        have HK := Lib.hid hK
        have e19 : vs 19 = .bool true := dep_of hD 19 (by rfl)
        clear hK hD ho
        dsimp only
        go_simp
        have h := HK.out _ _ (Below.refl _ _) rfl
        simp only [upd, Nat.reduceEqDiff, reduceIte, e19] at h
        exact h
    | 21, ho =>
        obtain rfl := Option.some.inj ho
        intro vs W K hB hD hK
        have HK := Lib.hid hK
        have e19 : vs 19 = .bool true := dep_of hD 19 (by rfl)
        clear hK hD ho
        dsimp only
        go_simp
        have h := HK.out _ _ (Below.refl _ _) rfl
        simp only [upd, Nat.reduceEqDiff, reduceIte, e19] at h
        exact h
    | 22, ho =>
        obtain rfl := Option.some.inj ho
        intro vs W K hB hD hK
        have HK := Lib.hid hK
        have e19 : vs 19 = .bool true := dep_of hD 19 (by rfl)
        clear hK hD ho
        dsimp only
        go_simp
        have h := HK.out _ _ (Below.refl _ _) rfl
        simp only [upd, Nat.reduceEqDiff, reduceIte, e19] at h
        exact h
    | q + 23, ho => exact absurd ho (by simp)
  case fin =>
    intro vs W hB hall
    have e22 : vs 22 = .bool true := hall 22 (by decide)
    have hX := HPX.out W hB
    have hbW := HB1.out W hB
    have g1 := (HPG.out W hX).2
    clear hall hB HPX HPA HB1 HS HA HLt
    rw [e22]
    clear e22
    have c0 := cell_of_row _ _ 0 _ _ _ g1
    have c1 := cell_of_row _ _ 1 _ _ _ g1
    have c2 := cell_of_row _ _ 2 _ _ _ g1
    have f0 := frozen_of_row _ _ 0 _ _ g1
    have f1 := frozen_of_row _ _ 1 _ _ g1
    have f2 := frozen_of_row _ _ 2 _ _ g1
    go_wp2
    have hc3 := three_set (a := .slice none 0 0) (b := .slice none 0 0) (c := .slice none 0 0) g1
    have k0 := cell_of_row _ _ 0 _ _ _ hc3
    have k1 := cell_of_row _ _ 1 _ _ _ hc3
    have k2 := cell_of_row _ _ 2 _ _ _ hc3
    refine bodyPost_ret (v := .tuple #[.agg #[.slice none 0 0, .slice none 0 0, .slice none 0 0], .slice none 0 0, .int .i64 1]) (by simp [results, Tryd.results14, go_sem, k0, k1, k2]) rfl ?_
    exact ⟨rfl, below_three hbW (by omega)⟩

def RG4 (w : World) (vl : Value) (a : Au) (l : List Sig) (ao2 ao3 : Option Addr) (n2 n3 cap2 cap3 : Nat) (most : Int) (ix : Nat) (u : Value) (_ : World) : Prop :=
  match ix with
  | 0 => u = vl
  | 1 => u = .bool true
  | 2 => u = .bool false
  | 3 => u = .bool false
  | 4 => u = .agg #[.int .i64 a.letters, .int .i64 a.start, .slice ao2 n2 cap2, .slice ao3 n3 cap3]
  | 5 => u = .bool true
  | 6 => u = .bool false
  | 7 => u = .bool false
  | 8 => u = .bool false
  | 9 => u = .pointer (some ⟨w.heap.size, 0, none⟩)
  | 10 => u = .int .i64 a.letters
  | 11 => u = vl
  | 12 => u = .int .i64 (lettersI l)
  | 13 => u = .bool false
  | 14 => u = .bool false
  | 15 => u = .bool false
  | 16 => u = .int .i64 most
  | 17 => u = .bool false
  | 18 => u = .bool false
  | 19 => u = .bool false
  | 20 => u = .int .i64 most
  | 21 => u = .bool true
  | 22 => u = .bool true
  | _ => True

set_option maxRecDepth 100000 in
set_option maxHeartbeats 8000000 in
theorem RBuild_bad4 (w : World) (vl va : Value) (l : List Sig) (a : Au) (most : Int) (hl : IsSigs w vl l) (ha : IsAuto w va a) (hv : validS l = true) (h1 : validA a = true) (h2 : (a.letters != lettersI l) = false) (h3 : decide (most < 1) = false) (h4 : decide (3000 < most) = true) :
    Calls Tryd.prog 14 #[vl, va, .int .i64 most] w fun e w' => e = .returned (.tuple #[.agg #[.slice none 0 0, .slice none 0 0, .slice none 0 0], .slice none 0 0, .int .i64 1]) ∧ Below w.heap.size w w' := by
  have HS : Hid (∀ W, Below w.heap.size w W → Calls Tryd.prog 43 #[vl] W (Calm (.bool (validS l)) W)) := fun W h => RSValid_calm W _ l (hl.below h)
  have HA : Hid (∀ W, Below w.heap.size w W → Calls Tryd.prog 44 #[va] W (Calm (.bool (validA a)) W)) := fun W h => RPValid_c W _ a (ha.below h)
  have HLt : Hid (∀ W, Below w.heap.size w W → Calls Tryd.prog 45 #[vl] W (Calm (.int .i64 (lettersI l)) W)) := fun W h => RLetters_c W _ l (hl.below h)
  rw [hv] at HS
  rw [h1] at HA
  obtain ⟨ao, cap, b, off, rfl, -⟩ := hl
  obtain ⟨vv2, vv3, rfl, -, ⟨V2, ⟨ao2, cap2, b2, off2, rfl, -⟩, -⟩, ⟨V3, ⟨ao3, cap3, b3, off3, rfl, -⟩, -⟩⟩ := ha
  generalize a.next.length = n2 at *
  generalize a.prio.length = n3 at *
  obtain ⟨vl, hvl⟩ : ∃ vl, vl = Value.slice ao l.length cap := ⟨_, rfl⟩
  rw [← hvl] at HS HLt ⊢
  clear hvl
  have hmx : Tryd.prog.follows .mixedOrders = true := by kernel_rfl
  go_enter Tryd.func14, Tryd.ntmps14
  go_wp2
  have hbx : Below w.heap.size w ((w.alloc (.cells #[.int .i64 a.letters, .int .i64 a.start, .slice ao2 n2 cap2, .slice ao3 n3 cap3] 25)).alloc (.cells #[.slice none 0 0, .slice none 0 0, .slice none 0 0] 28)) := (by repeat (first | exact Below.refl _ _ | assumption | (refine belA ?_ _) | (refine belD ?_ _)))
  have hpa : ((w.alloc (.cells #[.int .i64 a.letters, .int .i64 a.start, .slice ao2 n2 cap2, .slice ao3 n3 cap3] 25)).alloc (.cells #[.slice none 0 0, .slice none 0 0, .slice none 0 0] 28)).heap[w.heap.size]? = some (.cells #[.int .i64 a.letters, .int .i64 a.start, .slice ao2 n2 cap2, .slice ao3 n3 cap3] 25 (0, 0)) := (by (repeat (rw [alloc_get]; first | rw [if_pos (by first | (simp; done) | (simp; omega))] | rw [if_neg (by first | (simp; done) | (simp; omega))])); (try rfl))
  have hpg : ((w.alloc (.cells #[.int .i64 a.letters, .int .i64 a.start, .slice ao2 n2 cap2, .slice ao3 n3 cap3] 25)).alloc (.cells #[.slice none 0 0, .slice none 0 0, .slice none 0 0] 28)).heap[w.heap.size + 1]? = some (.cells #[.slice none 0 0, .slice none 0 0, .slice none 0 0] 28 (0, 0)) := (by (repeat (rw [alloc_get]; first | rw [if_pos (by first | (simp; done) | (simp; omega))] | rw [if_neg (by first | (simp; done) | (simp; omega))])); (try rfl))
  generalize ((w.alloc (.cells #[.int .i64 a.letters, .int .i64 a.start, .slice ao2 n2 cap2, .slice ao3 n3 cap3] 25)).alloc (.cells #[.slice none 0 0, .slice none 0 0, .slice none 0 0] 28)) = w5 at *
  have hsz := (Array.getElem?_eq_some_iff.1 hpg).1
  have HB1 : Hid (∀ W, Below w5.drew.heap.size w5.drew W → Below w.heap.size w W) := fun W h => hbx.trans (((Below.drew (Below.refl _ _)).trans h).mono hbx.size)
  have HPX : Hid (∀ W, Below w5.drew.heap.size w5.drew W → Below w5.heap.size w5 W) := fun W h => (Below.drew (B := w5.heap.size) (Below.refl _ _)).trans h
  have HPA : Hid (∀ W, Below w5.drew.heap.size w5.drew W → W.cell? ⟨w.heap.size, 0, none⟩ = some (.int .i64 a.letters) ∧ W.cell? ⟨w.heap.size, 1, none⟩ = some (.int .i64 a.start) ∧ W.cell? ⟨w.heap.size, 2, none⟩ = some (.slice ao2 n2 cap2) ∧ W.cell? ⟨w.heap.size, 3, none⟩ = some (.slice ao3 n3 cap3)) := fun W h => by
    have k := ((HPX.out W h).block _ (by omega)).trans hpa
    exact ⟨cell_of_row _ _ 0 _ _ _ k, cell_of_row _ _ 1 _ _ _ k, cell_of_row _ _ 2 _ _ _ k, cell_of_row _ _ 3 _ _ _ k⟩
  have HPG : Hid (∀ W, Below w5.heap.size w5 W → W.heap[w.heap.size]? = some (.cells #[.int .i64 a.letters, .int .i64 a.start, .slice ao2 n2 cap2, .slice ao3 n3 cap3] 25 (0, 0)) ∧ W.heap[w.heap.size + 1]? = some (.cells #[.slice none 0 0, .slice none 0 0, .slice none 0 0] 28 (0, 0))) := fun W h => ⟨(h.block _ (by omega)).trans hpa, (h.block _ (by omega)).trans hpg⟩
  clear hpa hpg
  refine region_stable hmx (RG4 w vl a l ao2 ao3 n2 n3 cap2 cap3 most) (fun vs => { tmps := (_ :: _ :: _ :: _ :: _ :: _ :: _ :: _ :: _ :: _ :: _ :: _ :: _ :: _ :: _ :: _ :: _ :: _ :: _ :: vs 0 :: vs 1 :: vs 2 :: vs 3 :: vs 4 :: vs 5 :: vs 6 :: vs 7 :: vs 8 :: vs 9 :: vs 10 :: vs 11 :: vs 12 :: vs 13 :: vs 14 :: vs 15 :: vs 16 :: vs 17 :: vs 18 :: vs 19 :: vs 20 :: vs 21 :: vs 22 :: _ :: _ :: _ :: _ :: _ :: _ :: _ :: _ :: _ :: _ :: _ :: _ :: _ :: _ :: _ :: _ :: _ :: _ :: _ :: _ :: _ :: _ :: _ :: _ :: _ :: _ :: _ :: _ :: _ :: _ :: _ :: _ :: _ :: _ :: _ :: _ :: _ :: _ :: _ :: _ :: _ :: _ :: _ :: _ :: _ :: _ :: _ :: _ :: _ :: _ :: _ :: _ :: _ :: _ :: _ :: _ :: _ :: _ :: _ :: _ :: _ :: _ :: _ :: _ :: _ :: _ :: _ :: _ :: _ :: _ :: _ :: _ :: _ :: _ :: _ :: _ :: _ :: _ :: _ :: _ :: _ :: []).toArray, defers := [] }) (fun _ => undef) rfl (by kernel_rfl) (fun _ _ _ _ h _ => h) ?step ?fin
  case step =>
    clear hbx
    intro ix o ho
    match ix, ho with
    | 0, ho =>
        obtain rfl := Option.some.inj ho
        intro vs W K hB hD hK
        have HK := Lib.hid hK
        clear hK hD ho
        dsimp only
        go_simp
        have h := HK.out _ _ (Below.refl _ _) rfl
        simp only [upd, Nat.reduceEqDiff, reduceIte] at h
        exact h
    | 1, ho =>
        obtain rfl := Option.some.inj ho
        intro vs W K hB hD hK
        have HK := Lib.hid hK
        have e0 : vs 0 = vl := dep_of hD 0 (by rfl)
        clear hK hD ho
        dsimp only
        go_simp
        refine (HS.out W (HB1.out W hB)).mono ?_
        rintro e W' ⟨rfl, hb⟩
        have h := HK.out _ _ hb rfl
        simp only [upd, Nat.reduceEqDiff, reduceIte, e0] at h
        exact h
    | 2, ho =>
        obtain rfl := Option.some.inj ho
        intro vs W K hB hD hK
        have HK := Lib.hid hK
        have e1 : vs 1 = .bool true := dep_of hD 1 (by rfl)
        clear hK hD ho
        dsimp only
        go_simp
        have h := HK.out _ _ (Below.refl _ _) rfl
        simp only [upd, Nat.reduceEqDiff, reduceIte, e1] at h
        exact h
    | 3, ho =>
        obtain rfl := Option.some.inj ho
        intro vs W K hB hD hK
        have HK := Lib.hid hK
        have e2 : vs 2 = .bool false := dep_of hD 2 (by rfl)
        clear hK hD ho
        dsimp only
        go_simp
        have h := HK.out _ _ (Below.refl _ _) rfl
        simp only [upd, Nat.reduceEqDiff, reduceIte, e2] at h
        exact h
    | 4, ho =>
        obtain rfl := Option.some.inj ho
        intro vs W K hB hD hK
        have HK := Lib.hid hK
        have e3 : vs 3 = .bool false := dep_of hD 3 (by rfl)
        obtain ⟨d0, d1, d2, d3⟩ := HPA.out W hB
        clear hK hD ho
        dsimp only
        go_simp
        have h := HK.out _ _ (Below.refl _ _) rfl
        simp only [upd, Nat.reduceEqDiff, reduceIte, e3] at h
        exact h
    | 5, ho =>
        obtain rfl := Option.some.inj ho
        intro vs W K hB hD hK
        have HK := Lib.hid hK
        have e3 : vs 3 = .bool false := dep_of hD 3 (by rfl)
        have e4 : vs 4 = .agg #[.int .i64 a.letters, .int .i64 a.start, .slice ao2 n2 cap2, .slice ao3 n3 cap3] := dep_of hD 4 (by rfl)
        clear hK hD ho
        dsimp only
        go_simp
        refine (HA.out W (HB1.out W hB)).mono ?_
        rintro e W' ⟨rfl, hb⟩
        have h := HK.out _ _ hb rfl
        simp only [upd, Nat.reduceEqDiff, reduceIte, e3, e4] at h
        exact h
    | 6, ho =>
        obtain rfl := Option.some.inj ho
        intro vs W K hB hD hK
        have HK := Lib.hid hK
        have e3 : vs 3 = .bool false := dep_of hD 3 (by rfl)
        have e5 : vs 5 = .bool true := dep_of hD 5 (by rfl)
        clear hK hD ho
        dsimp only
        go_simp
        have h := HK.out _ _ (Below.refl _ _) rfl
        simp only [upd, Nat.reduceEqDiff, reduceIte, e3, e5] at h
        exact h
    | 7, ho =>
        obtain rfl := Option.some.inj ho
        intro vs W K hB hD hK
        have HK := Lib.hid hK
        have e3 : vs 3 = .bool false := dep_of hD 3 (by rfl)
        have e6 : vs 6 = .bool false := dep_of hD 6 (by rfl)
        clear hK hD ho
        dsimp only
        go_simp
        have h := HK.out _ _ (Below.refl _ _) rfl
        simp only [upd, Nat.reduceEqDiff, reduceIte, e3, e6] at h
        exact h
    | 8, ho =>
        obtain rfl := Option.some.inj ho
        intro vs W K hB hD hK
        have HK := Lib.hid hK
        have e7 : vs 7 = .bool false := dep_of hD 7 (by rfl)
        clear hK hD ho
        dsimp only
        go_simp
        have h := HK.out _ _ (Below.refl _ _) rfl
        simp only [upd, Nat.reduceEqDiff, reduceIte, e7] at h
        exact h
    | 9, ho =>
        obtain rfl := Option.some.inj ho
        intro vs W K hB hD hK
        have HK := Lib.hid hK
        have e8 : vs 8 = .bool false := dep_of hD 8 (by rfl)
        clear hK hD ho
        dsimp only
        go_simp
        have h := HK.out _ _ (Below.refl _ _) rfl
        simp only [upd, Nat.reduceEqDiff, reduceIte, e8] at h
        exact h
    | 10, ho =>
        obtain rfl := Option.some.inj ho
        intro vs W K hB hD hK
        have HK := Lib.hid hK
        have e8 : vs 8 = .bool false := dep_of hD 8 (by rfl)
        have e9 : vs 9 = .pointer (some ⟨w.heap.size, 0, none⟩) := dep_of hD 9 (by rfl)
        obtain ⟨d0, d1, d2, d3⟩ := HPA.out W hB
        clear hK hD ho
        dsimp only
        go_simp
        have h := HK.out _ _ (Below.refl _ _) rfl
        simp only [upd, Nat.reduceEqDiff, reduceIte, e8, e9] at h
        exact h
    | 11, ho =>
        obtain rfl := Option.some.inj ho
        intro vs W K hB hD hK
        have HK := Lib.hid hK
        have e8 : vs 8 = .bool false := dep_of hD 8 (by rfl)
        clear hK hD ho
        dsimp only
        go_simp
        have h := HK.out _ _ (Below.refl _ _) rfl
        simp only [upd, Nat.reduceEqDiff, reduceIte, e8] at h
        exact h
    | 12, ho =>
        obtain rfl := Option.some.inj ho
        intro vs W K hB hD hK
        have HK := Lib.hid hK
        have e8 : vs 8 = .bool false := dep_of hD 8 (by rfl)
        have e11 : vs 11 = vl := dep_of hD 11 (by rfl)
        clear hK hD ho
        dsimp only
        go_simp
        refine (HLt.out W (HB1.out W hB)).mono ?_
        rintro e W' ⟨rfl, hb⟩
        have h := HK.out _ _ hb rfl
        simp only [upd, Nat.reduceEqDiff, reduceIte, e8, e11] at h
        exact h
    | 13, ho =>
        obtain rfl := Option.some.inj ho
        intro vs W K hB hD hK
        have HK := Lib.hid hK
        have e8 : vs 8 = .bool false := dep_of hD 8 (by rfl)
        have e10 : vs 10 = .int .i64 a.letters := dep_of hD 10 (by rfl)
        have e12 : vs 12 = .int .i64 (lettersI l) := dep_of hD 12 (by rfl)
        clear hK hD ho
        dsimp only
        go_simp
        have h := HK.out _ _ (Below.refl _ _) rfl
        simp only [upd, Nat.reduceEqDiff, reduceIte, e8, e10, e12] at h
        exact h
    | 14, ho =>
        obtain rfl := Option.some.inj ho
        intro vs W K hB hD hK
        have HK := Lib.hid hK
        have e8 : vs 8 = .bool false := dep_of hD 8 (by rfl)
        have e13 : vs 13 = .bool false := dep_of hD 13 (by rfl)
        clear hK hD ho
        dsimp only
        go_simp
        have h := HK.out _ _ (Below.refl _ _) rfl
        simp only [upd, Nat.reduceEqDiff, reduceIte, e8, e13] at h
        exact h
    | 15, ho =>
        obtain rfl := Option.some.inj ho
        intro vs W K hB hD hK
        have HK := Lib.hid hK
        have e14 : vs 14 = .bool false := dep_of hD 14 (by rfl)
        clear hK hD ho
        dsimp only
        go_simp
        have h := HK.out _ _ (Below.refl _ _) rfl
        simp only [upd, Nat.reduceEqDiff, reduceIte, e14] at h
        exact h
    | 16, ho =>
        obtain rfl := Option.some.inj ho
        intro vs W K hB hD hK
        have HK := Lib.hid hK
        have e15 : vs 15 = .bool false := dep_of hD 15 (by rfl)
        clear hK hD ho
        dsimp only
        go_simp
        have h := HK.out _ _ (Below.refl _ _) rfl
        simp only [upd, Nat.reduceEqDiff, reduceIte, e15] at h
        exact h
    | 17, ho =>
        obtain rfl := Option.some.inj ho
        intro vs W K hB hD hK
        have HK := Lib.hid hK
        have e15 : vs 15 = .bool false := dep_of hD 15 (by rfl)
        have e16 : vs 16 = .int .i64 most := dep_of hD 16 (by rfl)
        clear hK hD ho
        dsimp only
        go_simp
        have h := HK.out _ _ (Below.refl _ _) rfl
        simp only [upd, Nat.reduceEqDiff, reduceIte, e15, e16] at h
        exact h
    | 18, ho =>
        obtain rfl := Option.some.inj ho
        intro vs W K hB hD hK
        have HK := Lib.hid hK
        have e15 : vs 15 = .bool false := dep_of hD 15 (by rfl)
        have e17 : vs 17 = .bool false := dep_of hD 17 (by rfl)
        clear hK hD ho
        dsimp only
        go_simp
        have h := HK.out _ _ (Below.refl _ _) rfl
        simp only [upd, Nat.reduceEqDiff, reduceIte, e15, e17] at h
        exact h
    | 19, ho =>
        obtain rfl := Option.some.inj ho
        intro vs W K hB hD hK
        have HK := Lib.hid hK
        have e18 : vs 18 = .bool false := dep_of hD 18 (by rfl)
        clear hK hD ho
        dsimp only
        go_simp
        have h := HK.out _ _ (Below.refl _ _) rfl
        simp only [upd, Nat.reduceEqDiff, reduceIte, e18] at h
        exact h
    | 20, ho =>
        obtain rfl := Option.some.inj ho
        intro vs W K hB hD hK
        have HK := Lib.hid hK
        have e19 : vs 19 = .bool false := dep_of hD 19 (by rfl)
        clear hK hD ho
        dsimp only
        go_simp
        have h := HK.out _ _ (Below.refl _ _) rfl
        simp only [upd, Nat.reduceEqDiff, reduceIte, e19] at h
        exact h
    | 21, ho =>
        obtain rfl := Option.some.inj ho
        intro vs W K hB hD hK
        have HK := Lib.hid hK
        have e19 : vs 19 = .bool false := dep_of hD 19 (by rfl)
        have e20 : vs 20 = .int .i64 most := dep_of hD 20 (by rfl)
        clear hK hD ho
        dsimp only
        go_simp
        have h := HK.out _ _ (Below.refl _ _) rfl
        simp only [upd, Nat.reduceEqDiff, reduceIte, e19, e20] at h
        exact h
    | 22, ho =>
        obtain rfl := Option.some.inj ho
        intro vs W K hB hD hK
        have HK := Lib.hid hK
        have e19 : vs 19 = .bool false := dep_of hD 19 (by rfl)
        have e21 : vs 21 = .bool true := dep_of hD 21 (by rfl)
        clear hK hD ho
        dsimp only
        go_simp
        have h := HK.out _ _ (Below.refl _ _) rfl
        simp only [upd, Nat.reduceEqDiff, reduceIte, e19, e21] at h
        exact h
    | q + 23, ho => exact absurd ho (by simp)
  case fin =>
    intro vs W hB hall
    have e22 : vs 22 = .bool true := hall 22 (by decide)
    have hX := HPX.out W hB
    have hbW := HB1.out W hB
    have g1 := (HPG.out W hX).2
    clear hall hB HPX HPA HB1 HS HA HLt
    rw [e22]
    clear e22
    have c0 := cell_of_row _ _ 0 _ _ _ g1
    have c1 := cell_of_row _ _ 1 _ _ _ g1
    have c2 := cell_of_row _ _ 2 _ _ _ g1
    have f0 := frozen_of_row _ _ 0 _ _ g1
    have f1 := frozen_of_row _ _ 1 _ _ g1
    have f2 := frozen_of_row _ _ 2 _ _ g1
    go_wp2
    have hc3 := three_set (a := .slice none 0 0) (b := .slice none 0 0) (c := .slice none 0 0) g1
    have k0 := cell_of_row _ _ 0 _ _ _ hc3
    have k1 := cell_of_row _ _ 1 _ _ _ hc3
    have k2 := cell_of_row _ _ 2 _ _ _ hc3
    refine bodyPost_ret (v := .tuple #[.agg #[.slice none 0 0, .slice none 0 0, .slice none 0 0], .slice none 0 0, .int .i64 1]) (by simp [results, Tryd.results14, go_sem, k0, k1, k2]) rfl ?_
    exact ⟨rfl, below_three hbW (by omega)⟩

end Go.Proofs.YtjadeffdcbchnaaDoor
