/- What Build computes: the guard. -/
import Derived.Test.YtjadeffdcbchnaaDoorAr10
namespace Go.Proofs.YtjadeffdcbchnaaDoor
open Go.RowKit Go.Shelf
attribute [local go_sem] Oper.semAt_some

/-- Three results in cells. -/
theorem results_cell3 {P : Program} {fn : Func} {p q r : Tmp} {t1 t2 t3 : TypeId} (h : fn.results = #[.cell p t1, .cell q t2, .cell r t3]) (tmps : Array Value) (w : World) (g1 g2 g3 : Addr) (v1 v2 v3 : Value)
    (hp : tmps.getD p undef = .pointer (some g1)) (hq : tmps.getD q undef = .pointer (some g2)) (hr : tmps.getD r undef = .pointer (some g3))
    (l1 : (loadVar t1 g1).run P w = .ok v1 w) (l2 : (loadVar t2 g2).run P w = .ok v2 w) (l3 : (loadVar t3 g3).run P w = .ok v3 w) :
    (results fn tmps).run P w = .ok (.tuple #[v1, v2, v3]) w := by
  have hp' : tmps[p]?.getD undef = .pointer (some g1) := by simpa using hp
  have hq' : tmps[q]?.getD undef = .pointer (some g2) := by simpa using hq
  have hr' : tmps[r]?.getD undef = .pointer (some g3) := by simpa using hr
  simp [results, h, hp', hq', hr', asAddr, l1, l2, l3]

def G0 (_w : World) (vl : Value) (_a : Au) (_l : List Sig) (_ao2 _ao3 : Option Addr) (_n2 _cap2 _n3 _cap3 : Nat) (_most : Int) (ix : Nat) (u : Value) (_ : World) : Prop :=
  match ix with
  | 0 => u = vl
  | 1 => u = .bool false
  | 2 => u = .bool true
  | 3 => u = .bool true
  | 4 => u = undef
  | 5 => u = undef
  | 6 => u = undef
  | 7 => u = .bool true
  | 8 => u = .bool true
  | 9 => u = undef
  | 10 => u = undef
  | 11 => u = undef
  | 12 => u = undef
  | 13 => u = undef
  | 14 => u = .bool true
  | 15 => u = .bool true
  | 16 => u = undef
  | 17 => u = undef
  | 18 => u = .bool true
  | 19 => u = .bool true
  | 20 => u = undef
  | 21 => u = undef
  | 22 => u = .bool true
  | _ => True

set_option maxRecDepth 100000 in
set_option maxHeartbeats 8000000 in
theorem Build_bad0 (w : World) (vl va : Value) (l : List Sig) (a : Au) (most : Int) (hK : Keys w) (hl : IsSigs w vl l) (ha : IsAuto w va a) (hv : validS l = false) :
    Calls Tryd.prog 13 #[vl, va, .int .i64 most] w fun e w' => e = .returned (.tuple #[.agg #[.slice none 0 0, .slice none 0 0, .slice none 0 0], .slice none 0 0, .int .i64 1]) ∧ Below w.heap.size w w' := by
  have HS : Hid (∀ W, Below w.heap.size w W → Calls Tryd.prog 39 #[vl] W (Calm (.bool (validS l)) W)) := fun W h => by
    refine (SValid_c W _ l (hK.below h) (hl.below h)).mono ?_
    rintro e W' ⟨rfl, n, rfl⟩
    exact ⟨rfl, below_draws _ _ _⟩
  have HA : Hid (∀ W, Below w.heap.size w W → Calls Tryd.prog 36 #[va] W (Calm (.bool (validA a)) W)) := fun W h => PValid_c W _ a (ha.below h)
  have HLt : Hid (∀ W, Below w.heap.size w W → Calls Tryd.prog 37 #[vl] W (Calm (.int .i64 (lettersI l)) W)) := fun W h => Letters_c W _ l (hK.below h) (hl.below h)
  rw [hv] at HS
  obtain ⟨ao, cap, b, off, rfl, -⟩ := hl
  obtain ⟨vv2, vv3, rfl, -, ⟨V2, ⟨ao2, cap2, b2, off2, rfl, -⟩, -⟩, ⟨V3, ⟨ao3, cap3, b3, off3, rfl, -⟩, -⟩⟩ := ha
  generalize a.next.length = n2 at *
  generalize a.prio.length = n3 at *
  obtain ⟨vl, hvl⟩ : ∃ vl, vl = Value.slice ao l.length cap := ⟨_, rfl⟩
  rw [← hvl] at HS HLt ⊢
  have hmx : Tryd.prog.follows .mixedOrders = true := by kernel_rfl
  clear hK hvl
  go_enter Tryd.func13, Tryd.ntmps13
  go_wp2
  have hbx : Below w.heap.size w (((((w.alloc (.cells #[.int .i64 a.letters, .int .i64 a.start, .slice ao2 n2 cap2, .slice ao3 n3 cap3] 25)).alloc (.cells #[.int .i64 most] 3)).alloc (.cells #[.slice none 0 0, .slice none 0 0, .slice none 0 0] 28)).alloc (.cells #[.slice none 0 0] 34)).alloc (.cells #[.int .i64 0] 35)) := (by repeat (first | exact Below.refl _ _ | assumption | (refine belA ?_ _) | (refine belD ?_ _)))
  have hpa : (((((w.alloc (.cells #[.int .i64 a.letters, .int .i64 a.start, .slice ao2 n2 cap2, .slice ao3 n3 cap3] 25)).alloc (.cells #[.int .i64 most] 3)).alloc (.cells #[.slice none 0 0, .slice none 0 0, .slice none 0 0] 28)).alloc (.cells #[.slice none 0 0] 34)).alloc (.cells #[.int .i64 0] 35)).heap[w.heap.size]? = some (.cells #[.int .i64 a.letters, .int .i64 a.start, .slice ao2 n2 cap2, .slice ao3 n3 cap3] 25 (0, 0)) := (by (repeat (rw [alloc_get]; first | rw [if_pos (by first | (simp; done) | (simp; omega))] | rw [if_neg (by first | (simp; done) | (simp; omega))])); (try rfl))
  have hpm : (((((w.alloc (.cells #[.int .i64 a.letters, .int .i64 a.start, .slice ao2 n2 cap2, .slice ao3 n3 cap3] 25)).alloc (.cells #[.int .i64 most] 3)).alloc (.cells #[.slice none 0 0, .slice none 0 0, .slice none 0 0] 28)).alloc (.cells #[.slice none 0 0] 34)).alloc (.cells #[.int .i64 0] 35)).heap[w.heap.size + 1]? = some (.cells #[.int .i64 most] 3 (0, 0)) := (by (repeat (rw [alloc_get]; first | rw [if_pos (by first | (simp; done) | (simp; omega))] | rw [if_neg (by first | (simp; done) | (simp; omega))])); (try rfl))
  have hpg : (((((w.alloc (.cells #[.int .i64 a.letters, .int .i64 a.start, .slice ao2 n2 cap2, .slice ao3 n3 cap3] 25)).alloc (.cells #[.int .i64 most] 3)).alloc (.cells #[.slice none 0 0, .slice none 0 0, .slice none 0 0] 28)).alloc (.cells #[.slice none 0 0] 34)).alloc (.cells #[.int .i64 0] 35)).heap[w.heap.size + 1 + 1]? = some (.cells #[.slice none 0 0, .slice none 0 0, .slice none 0 0] 28 (0, 0)) := (by (repeat (rw [alloc_get]; first | rw [if_pos (by first | (simp; done) | (simp; omega))] | rw [if_neg (by first | (simp; done) | (simp; omega))])); (try rfl))
  have hpp : (((((w.alloc (.cells #[.int .i64 a.letters, .int .i64 a.start, .slice ao2 n2 cap2, .slice ao3 n3 cap3] 25)).alloc (.cells #[.int .i64 most] 3)).alloc (.cells #[.slice none 0 0, .slice none 0 0, .slice none 0 0] 28)).alloc (.cells #[.slice none 0 0] 34)).alloc (.cells #[.int .i64 0] 35)).heap[w.heap.size + 1 + 1 + 1]? = some (.cells #[.slice none 0 0] 34 (0, 0)) := (by (repeat (rw [alloc_get]; first | rw [if_pos (by first | (simp; done) | (simp; omega))] | rw [if_neg (by first | (simp; done) | (simp; omega))])); (try rfl))
  have hpe : (((((w.alloc (.cells #[.int .i64 a.letters, .int .i64 a.start, .slice ao2 n2 cap2, .slice ao3 n3 cap3] 25)).alloc (.cells #[.int .i64 most] 3)).alloc (.cells #[.slice none 0 0, .slice none 0 0, .slice none 0 0] 28)).alloc (.cells #[.slice none 0 0] 34)).alloc (.cells #[.int .i64 0] 35)).heap[w.heap.size + 1 + 1 + 1 + 1]? = some (.cells #[.int .i64 0] 35 (0, 0)) := (by (repeat (rw [alloc_get]; first | rw [if_pos (by first | (simp; done) | (simp; omega))] | rw [if_neg (by first | (simp; done) | (simp; omega))])); (try rfl))
  generalize (((((w.alloc (.cells #[.int .i64 a.letters, .int .i64 a.start, .slice ao2 n2 cap2, .slice ao3 n3 cap3] 25)).alloc (.cells #[.int .i64 most] 3)).alloc (.cells #[.slice none 0 0, .slice none 0 0, .slice none 0 0] 28)).alloc (.cells #[.slice none 0 0] 34)).alloc (.cells #[.int .i64 0] 35)) = w5 at *
  have hsz := (Array.getElem?_eq_some_iff.1 hpe).1
  have HB1 : Hid (∀ W, Below w5.drew.heap.size w5.drew W → Below w.heap.size w W) := fun W h => hbx.trans (((Below.drew (Below.refl _ _)).trans h).mono hbx.size)
  have HPX : Hid (∀ W, Below w5.drew.heap.size w5.drew W → Below w5.heap.size w5 W) := fun W h => (Below.drew (B := w5.heap.size) (Below.refl _ _)).trans h
  have HPA : Hid (∀ W, Below w5.drew.heap.size w5.drew W → W.cell? ⟨w.heap.size, 0, none⟩ = some (.int .i64 a.letters) ∧ W.cell? ⟨w.heap.size, 1, none⟩ = some (.int .i64 a.start) ∧ W.cell? ⟨w.heap.size, 2, none⟩ = some (.slice ao2 n2 cap2) ∧ W.cell? ⟨w.heap.size, 3, none⟩ = some (.slice ao3 n3 cap3)) := fun W h => by
    have k := ((HPX.out W h).block _ (by omega)).trans hpa
    exact ⟨cell_of_row _ _ 0 _ _ _ k, cell_of_row _ _ 1 _ _ _ k, cell_of_row _ _ 2 _ _ _ k, cell_of_row _ _ 3 _ _ _ k⟩
  have HPM : Hid (∀ W, Below w5.drew.heap.size w5.drew W → W.cell? ⟨w.heap.size + 1, 0, none⟩ = some (.int .i64 most)) := fun W h => cell_of_row W (w.heap.size + 1) 0 _ _ _ (((HPX.out W h).block _ (by omega)).trans hpm)
  have HPG : Hid (∀ W, Below w5.drew.heap.size w5.drew W → W.heap[w.heap.size + 1 + 1]? = some (.cells #[.slice none 0 0, .slice none 0 0, .slice none 0 0] 28 (0, 0)) ∧ W.heap[w.heap.size + 1 + 1 + 1]? = some (.cells #[.slice none 0 0] 34 (0, 0)) ∧ W.heap[w.heap.size + 1 + 1 + 1 + 1]? = some (.cells #[.int .i64 0] 35 (0, 0))) := fun W h => ⟨((HPX.out W h).block _ (by omega)).trans hpg, ((HPX.out W h).block _ (by omega)).trans hpp, ((HPX.out W h).block _ (by omega)).trans hpe⟩
  clear hpa hpm hpg hpp hpe hbx
  refine region_stable hmx (G0 w vl a l ao2 ao3 n2 cap2 n3 cap3 most) (fun vs => { tmps := (_ :: _ :: _ :: _ :: _ :: _ :: _ :: _ :: _ :: _ :: _ :: _ :: _ :: _ :: _ :: _ :: _ :: _ :: _ :: _ :: _ :: vs 0 :: vs 1 :: vs 2 :: vs 3 :: vs 4 :: vs 5 :: vs 6 :: vs 7 :: vs 8 :: vs 9 :: vs 10 :: vs 11 :: vs 12 :: vs 13 :: vs 14 :: vs 15 :: vs 16 :: vs 17 :: vs 18 :: vs 19 :: vs 20 :: vs 21 :: vs 22 :: _ :: _ :: _ :: _ :: _ :: _ :: _ :: _ :: _ :: _ :: _ :: _ :: _ :: _ :: _ :: _ :: _ :: _ :: _ :: _ :: _ :: _ :: _ :: _ :: _ :: _ :: _ :: _ :: _ :: _ :: _ :: _ :: _ :: _ :: _ :: _ :: _ :: _ :: _ :: _ :: _ :: _ :: _ :: _ :: _ :: _ :: _ :: _ :: _ :: _ :: _ :: _ :: _ :: _ :: _ :: _ :: _ :: _ :: _ :: _ :: _ :: _ :: _ :: _ :: _ :: _ :: _ :: _ :: _ :: _ :: _ :: _ :: _ :: _ :: _ :: _ :: _ :: _ :: _ :: _ :: _ :: []).toArray, defers := [] }) (fun _ => undef) rfl (by kernel_rfl) (fun _ _ _ _ h _ => h) ?step ?fin
  case step =>
    intro ix o ho
    match ix, ho with
    | 0, ho =>
        obtain rfl := Option.some.inj ho
        intro vs W K hB hD hK
        have HK := Lib.hid hK
        clear hK hD ho
        dsimp only
        go_simp
        have h := HK.out _ _ (Below.refl _ _) rfl
        simp only [upd, Nat.reduceEqDiff, reduceIte] at h
        exact h
    | 1, ho =>
        obtain rfl := Option.some.inj ho
        intro vs W K hB hD hK
        have HK := Lib.hid hK
        have e0 : vs 0 = vl := dep_of hD 0 (by rfl)
        clear hK hD ho
        dsimp only
        go_simp
        refine (HS.out W (HB1.out W hB)).mono ?_
        rintro e W' ⟨rfl, hb⟩
        have h := HK.out _ _ hb rfl
        simp only [upd, Nat.reduceEqDiff, reduceIte, e0] at h
        exact h
    | 2, ho =>
        obtain rfl := Option.some.inj ho
        intro vs W K hB hD hK
        have HK := Lib.hid hK
        have e1 : vs 1 = .bool false := dep_of hD 1 (by rfl)
        clear hK hD ho
        dsimp only
        go_simp
        have h := HK.out _ _ (Below.refl _ _) rfl
        simp only [upd, Nat.reduceEqDiff, reduceIte, e1] at h
        exact h
    | 3, ho =>
        obtain rfl := Option.some.inj ho
        intro vs W K hB hD hK
        have HK := Lib.hid hK
        have e2 : vs 2 = .bool true := dep_of hD 2 (by rfl)
        clear hK hD ho
        dsimp only
        go_simp
        have h := HK.out _ _ (Below.refl _ _) rfl
        simp only [upd, Nat.reduceEqDiff, reduceIte, e2] at h
        exact h
    | 4, ho =>
        obtain rfl := Option.some.inj ho
        intro vs W K hB hD hK
        have HK := Lib.hid hK
        have e3 : vs 3 = .bool true := dep_of hD 3 (by rfl)
        clear hK hD ho
        dsimp only
        go_simp
        have h := HK.out _ _ (Below.refl _ _) rfl
        simp only [upd, Nat.reduceEqDiff, reduceIte, e3] at h
        exact h
    | 5, ho =>
        obtain rfl := Option.some.inj ho
        intro vs W K hB hD hK
        have HK := Lib.hid hK
        have e3 : vs 3 = .bool true := dep_of hD 3 (by rfl)
        clear hK hD ho
        dsimp only
        go_simp
        have h := HK.out _ _ (Below.refl _ _) rfl
        simp only [upd, Nat.reduceEqDiff, reduceIte, e3] at h
        exact h
    | 6, ho =>
        obtain rfl := Option.some.inj ho
        intro vs W K hB hD hK
        have HK := Lib.hid hK
        have e3 : vs 3 = .bool true := dep_of hD 3 (by rfl)
        clear hK hD ho
        dsimp only
        go_simp
        have h := HK.out _ _ (Below.refl _ _) rfl
        simp only [upd, Nat.reduceEqDiff, reduceIte, e3] at h
        exact h
    | 7, ho =>
        obtain rfl := Option.some.inj ho
        intro vs W K hB hD hK
        have HK := Lib.hid hK
        have e3 : vs 3 = .bool true := dep_of hD 3 (by rfl)
        clear hK hD ho
        dsimp only
        go_simp
        have h := HK.out _ _ (Below.refl _ _) rfl
        simp only [upd, Nat.reduceEqDiff, reduceIte, e3] at h
        exact h
    | 8, ho =>
        obtain rfl := Option.some.inj ho
        intro vs W K hB hD hK
        have HK := Lib.hid hK
        have e7 : vs 7 = .bool true := dep_of hD 7 (by rfl)
        clear hK hD ho
        dsimp only
        go_simp
        have h := HK.out _ _ (Below.refl _ _) rfl
        simp only [upd, Nat.reduceEqDiff, reduceIte, e7] at h
        exact h
    | 9, ho =>
        obtain rfl := Option.some.inj ho
        intro vs W K hB hD hK
        have HK := Lib.hid hK
        have e8 : vs 8 = .bool true := dep_of hD 8 (by rfl)
        clear hK hD ho
        dsimp only
        go_simp
        have h := HK.out _ _ (Below.refl _ _) rfl
        simp only [upd, Nat.reduceEqDiff, reduceIte, e8] at h
        exact h
    | 10, ho =>
        obtain rfl := Option.some.inj ho
        intro vs W K hB hD hK
        have HK := Lib.hid hK
        have e8 : vs 8 = .bool true := dep_of hD 8 (by rfl)
        clear hK hD ho
        dsimp only
        go_simp
        have h := HK.out _ _ (Below.refl _ _) rfl
        simp only [upd, Nat.reduceEqDiff, reduceIte, e8] at h
        exact h
    | 11, ho =>
        obtain rfl := Option.some.inj ho
        intro vs W K hB hD hK
        have HK := Lib.hid hK
        have e8 : vs 8 = .bool true := dep_of hD 8 (by rfl)
        clear hK hD ho
        dsimp only
        go_simp
        have h := HK.out _ _ (Below.refl _ _) rfl
        simp only [upd, Nat.reduceEqDiff, reduceIte, e8] at h
        exact h
    | 12, ho =>
        obtain rfl := Option.some.inj ho
        intro vs W K hB hD hK
        have HK := Lib.hid hK
        have e8 : vs 8 = .bool true := dep_of hD 8 (by rfl)
        clear hK hD ho
        dsimp only
        go_simp
        have h := HK.out _ _ (Below.refl _ _) rfl
        simp only [upd, Nat.reduceEqDiff, reduceIte, e8] at h
        exact h
    | 13, ho =>
        obtain rfl := Option.some.inj ho
        intro vs W K hB hD hK
        have HK := Lib.hid hK
        have e8 : vs 8 = .bool true := dep_of hD 8 (by rfl)
        clear hK hD ho
        dsimp only
        go_simp
        have h := HK.out _ _ (Below.refl _ _) rfl
        simp only [upd, Nat.reduceEqDiff, reduceIte, e8] at h
        exact h
    | 14, ho =>
        obtain rfl := Option.some.inj ho
        intro vs W K hB hD hK
        have HK := Lib.hid hK
        have e8 : vs 8 = .bool true := dep_of hD 8 (by rfl)
        clear hK hD ho
        dsimp only
        go_simp
        have h := HK.out _ _ (Below.refl _ _) rfl
        simp only [upd, Nat.reduceEqDiff, reduceIte, e8] at h
        exact h
    | 15, ho =>
        obtain rfl := Option.some.inj ho
        intro vs W K hB hD hK
        have HK := Lib.hid hK
        have e14 : vs 14 = .bool true := dep_of hD 14 (by rfl)
        clear hK hD ho
        dsimp only
        go_simp
        have h := HK.out _ _ (Below.refl _ _) rfl
        simp only [upd, Nat.reduceEqDiff, reduceIte, e14] at h
        exact h
    | 16, ho =>
        obtain rfl := Option.some.inj ho
        intro vs W K hB hD hK
        have HK := Lib.hid hK
        have e15 : vs 15 = .bool true := dep_of hD 15 (by rfl)
        clear hK hD ho
        dsimp only
        go_simp
        have h := HK.out _ _ (Below.refl _ _) rfl
        simp only [upd, Nat.reduceEqDiff, reduceIte, e15] at h
        exact h
    | 17, ho =>
        obtain rfl := Option.some.inj ho
        intro vs W K hB hD hK
        have HK := Lib.hid hK
        have e15 : vs 15 = .bool true := dep_of hD 15 (by rfl)
        clear hK hD ho
        dsimp only
        go_simp
        have h := HK.out _ _ (Below.refl _ _) rfl
        simp only [upd, Nat.reduceEqDiff, reduceIte, e15] at h
        exact h
    | 18, ho =>
        obtain rfl := Option.some.inj ho
        intro vs W K hB hD hK
        have HK := Lib.hid hK
        have e15 : vs 15 = .bool true := dep_of hD 15 (by rfl)
        clear hK hD ho
        dsimp only
        go_simp
        have h := HK.out _ _ (Below.refl _ _) rfl
        simp only [upd, Nat.reduceEqDiff, reduceIte, e15] at h
        exact h
    | 19, ho =>
        obtain rfl := Option.some.inj ho
        intro vs W K hB hD hK
        have HK := Lib.hid hK
        have e18 : vs 18 = .bool true := dep_of hD 18 (by rfl)
        clear hK hD ho
        dsimp only
        go_simp
        have h := HK.out _ _ (Below.refl _ _) rfl
        simp only [upd, Nat.reduceEqDiff, reduceIte, e18] at h
        exact h
    | 20, ho =>
        obtain rfl := Option.some.inj ho
        intro vs W K hB hD hK
        have HK := Lib.hid hK
        have e19 : vs 19 = .bool true := dep_of hD 19 (by rfl)
        clear hK hD ho
        dsimp only
        go_simp
        have h := HK.out _ _ (Below.refl _ _) rfl
        simp only [upd, Nat.reduceEqDiff, reduceIte, e19] at h
        exact h
    | 21, ho =>
        obtain rfl := Option.some.inj ho
        intro vs W K hB hD hK
        have HK := Lib.hid hK
        have e19 : vs 19 = .bool true := dep_of hD 19 (by rfl)
        clear hK hD ho
        dsimp only
        go_simp
        have h := HK.out _ _ (Below.refl _ _) rfl
        simp only [upd, Nat.reduceEqDiff, reduceIte, e19] at h
        exact h
    | 22, ho =>
        obtain rfl := Option.some.inj ho
        intro vs W K hB hD hK
        have HK := Lib.hid hK
        have e19 : vs 19 = .bool true := dep_of hD 19 (by rfl)
        clear hK hD ho
        dsimp only
        go_simp
        have h := HK.out _ _ (Below.refl _ _) rfl
        simp only [upd, Nat.reduceEqDiff, reduceIte, e19] at h
        exact h
    | q + 23, ho => exact absurd ho (by simp)
  case fin =>
    intro vs W hB hall
    have e22 : vs 22 = .bool true := hall 22 (by decide)
    obtain ⟨g1, g2, g3⟩ := HPG.out W hB
    have hB5 := HB1.out W hB
    clear hall hB
    rw [e22]
    clear e22
    have c0 : W.cell? ⟨w.heap.size + 1 + 1, 0, none⟩ = some (.slice none 0 0) := cell_of_row _ _ 0 _ _ _ g1
    have c1 : W.cell? ⟨w.heap.size + 1 + 1, 1, none⟩ = some (.slice none 0 0) := cell_of_row _ _ 1 _ _ _ g1
    have c2 : W.cell? ⟨w.heap.size + 1 + 1, 2, none⟩ = some (.slice none 0 0) := cell_of_row _ _ 2 _ _ _ g1
    have c3 : W.cell? ⟨w.heap.size + 1 + 1 + 1, 0, none⟩ = some (.slice none 0 0) := cell_of_row _ _ 0 _ _ _ g2
    have c4 : W.cell? ⟨w.heap.size + 1 + 1 + 1 + 1, 0, none⟩ = some (.int .i64 0) := cell_of_row _ _ 0 _ _ _ g3
    have f0 := frozen_of_row _ _ 0 _ _ g1
    have f1 := frozen_of_row _ _ 1 _ _ g1
    have f2 := frozen_of_row _ _ 2 _ _ g1
    have f3 := frozen_of_row _ _ 0 _ _ g2
    have f4 := frozen_of_row _ _ 0 _ _ g3
    go_wp2
    have s1 : (((((W.setCell ⟨w.heap.size + 1 + 1, 0, none⟩ (.slice none 0 0)).setCell ⟨w.heap.size + 1 + 1, 1, none⟩ (.slice none 0 0)).setCell ⟨w.heap.size + 1 + 1, 2, none⟩ (.slice none 0 0)).setCell ⟨w.heap.size + 1 + 1 + 1, 0, none⟩ (.slice none 0 0)).setCell ⟨w.heap.size + 1 + 1 + 1 + 1, 0, none⟩ (.int .i64 1)).heap[w.heap.size + 1 + 1]? = some (.cells #[.slice none 0 0, .slice none 0 0, .slice none 0 0] 28 (0, 0)) :=
      (heap_setCell_other _ ⟨w.heap.size + 1 + 1 + 1 + 1, 0, none⟩ _ _ (by simp)).trans ((heap_setCell_other _ ⟨w.heap.size + 1 + 1 + 1, 0, none⟩ _ _ (by simp)).trans (three_set g1))
    have s2 : (((((W.setCell ⟨w.heap.size + 1 + 1, 0, none⟩ (.slice none 0 0)).setCell ⟨w.heap.size + 1 + 1, 1, none⟩ (.slice none 0 0)).setCell ⟨w.heap.size + 1 + 1, 2, none⟩ (.slice none 0 0)).setCell ⟨w.heap.size + 1 + 1 + 1, 0, none⟩ (.slice none 0 0)).setCell ⟨w.heap.size + 1 + 1 + 1 + 1, 0, none⟩ (.int .i64 1)).cell? ⟨w.heap.size + 1 + 1 + 1, 0, none⟩ = some (.slice none 0 0) := by
      first
        | go_simp
        | simp [go_sem, c3]
    have s3 : (((((W.setCell ⟨w.heap.size + 1 + 1, 0, none⟩ (.slice none 0 0)).setCell ⟨w.heap.size + 1 + 1, 1, none⟩ (.slice none 0 0)).setCell ⟨w.heap.size + 1 + 1, 2, none⟩ (.slice none 0 0)).setCell ⟨w.heap.size + 1 + 1 + 1, 0, none⟩ (.slice none 0 0)).setCell ⟨w.heap.size + 1 + 1 + 1 + 1, 0, none⟩ (.int .i64 1)).cell? ⟨w.heap.size + 1 + 1 + 1 + 1, 0, none⟩ = some (.int .i64 1) := by
      first
        | go_simp
        | simp [go_sem, c4]
    have s4 : Below w.heap.size w (((((W.setCell ⟨w.heap.size + 1 + 1, 0, none⟩ (.slice none 0 0)).setCell ⟨w.heap.size + 1 + 1, 1, none⟩ (.slice none 0 0)).setCell ⟨w.heap.size + 1 + 1, 2, none⟩ (.slice none 0 0)).setCell ⟨w.heap.size + 1 + 1 + 1, 0, none⟩ (.slice none 0 0)).setCell ⟨w.heap.size + 1 + 1 + 1 + 1, 0, none⟩ (.int .i64 1)) := ((((hB5.setCell (p := ⟨w.heap.size + 1 + 1, 0, none⟩) (by simp; omega) _).setCell (p := ⟨w.heap.size + 1 + 1, 1, none⟩) (by simp; omega) _).setCell (p := ⟨w.heap.size + 1 + 1, 2, none⟩) (by simp; omega) _).setCell (p := ⟨w.heap.size + 1 + 1 + 1, 0, none⟩) (by simp; omega) _).setCell (p := ⟨w.heap.size + 1 + 1 + 1 + 1, 0, none⟩) (by simp; omega) _
    clear c0 c1 c2 c3 c4 f0 f1 f2 f3 f4 g1 g2 g3
    generalize (((((W.setCell ⟨w.heap.size + 1 + 1, 0, none⟩ (.slice none 0 0)).setCell ⟨w.heap.size + 1 + 1, 1, none⟩ (.slice none 0 0)).setCell ⟨w.heap.size + 1 + 1, 2, none⟩ (.slice none 0 0)).setCell ⟨w.heap.size + 1 + 1 + 1, 0, none⟩ (.slice none 0 0)).setCell ⟨w.heap.size + 1 + 1 + 1 + 1, 0, none⟩ (.int .i64 1)) = w9 at *
    refine bodyPost_ret (results_cell3 (by rfl) _ _ ⟨w.heap.size + 1 + 1, 0, none⟩ ⟨w.heap.size + 1 + 1 + 1, 0, none⟩ ⟨w.heap.size + 1 + 1 + 1 + 1, 0, none⟩ (.agg #[.slice none 0 0, .slice none 0 0, .slice none 0 0]) (.slice none 0 0) (.int .i64 1) rfl rfl rfl (run_loadVar_row w9 _ _ _ _ _ _ s1 Tryd.underlying28 (by rfl) (by rfl)) (by go_simp) (by go_simp)) rfl ?_
    exact ⟨rfl, s4⟩

def G1 (_w : World) (vl : Value) (a : Au) (_l : List Sig) (ao2 ao3 : Option Addr) (n2 cap2 n3 cap3 : Nat) (_most : Int) (ix : Nat) (u : Value) (_ : World) : Prop :=
  match ix with
  | 0 => u = vl
  | 1 => u = .bool true
  | 2 => u = .bool false
  | 3 => u = .bool false
  | 4 => u = .agg #[.int .i64 a.letters, .int .i64 a.start, .slice ao2 n2 cap2, .slice ao3 n3 cap3]
  | 5 => u = .bool false
  | 6 => u = .bool true
  | 7 => u = .bool true
  | 8 => u = .bool true
  | 9 => u = undef
  | 10 => u = undef
  | 11 => u = undef
  | 12 => u = undef
  | 13 => u = undef
  | 14 => u = .bool true
  | 15 => u = .bool true
  | 16 => u = undef
  | 17 => u = undef
  | 18 => u = .bool true
  | 19 => u = .bool true
  | 20 => u = undef
  | 21 => u = undef
  | 22 => u = .bool true
  | _ => True

set_option maxRecDepth 100000 in
set_option maxHeartbeats 8000000 in
theorem Build_bad1 (w : World) (vl va : Value) (l : List Sig) (a : Au) (most : Int) (hK : Keys w) (hl : IsSigs w vl l) (ha : IsAuto w va a) (hv : validS l = true) (h1 : validA a = false) :
    Calls Tryd.prog 13 #[vl, va, .int .i64 most] w fun e w' => e = .returned (.tuple #[.agg #[.slice none 0 0, .slice none 0 0, .slice none 0 0], .slice none 0 0, .int .i64 1]) ∧ Below w.heap.size w w' := by
  have HS : Hid (∀ W, Below w.heap.size w W → Calls Tryd.prog 39 #[vl] W (Calm (.bool (validS l)) W)) := fun W h => by
    refine (SValid_c W _ l (hK.below h) (hl.below h)).mono ?_
    rintro e W' ⟨rfl, n, rfl⟩
    exact ⟨rfl, below_draws _ _ _⟩
  have HA : Hid (∀ W, Below w.heap.size w W → Calls Tryd.prog 36 #[va] W (Calm (.bool (validA a)) W)) := fun W h => PValid_c W _ a (ha.below h)
  have HLt : Hid (∀ W, Below w.heap.size w W → Calls Tryd.prog 37 #[vl] W (Calm (.int .i64 (lettersI l)) W)) := fun W h => Letters_c W _ l (hK.below h) (hl.below h)
  rw [hv] at HS
  rw [h1] at HA
  obtain ⟨ao, cap, b, off, rfl, -⟩ := hl
  obtain ⟨vv2, vv3, rfl, -, ⟨V2, ⟨ao2, cap2, b2, off2, rfl, -⟩, -⟩, ⟨V3, ⟨ao3, cap3, b3, off3, rfl, -⟩, -⟩⟩ := ha
  generalize a.next.length = n2 at *
  generalize a.prio.length = n3 at *
  obtain ⟨vl, hvl⟩ : ∃ vl, vl = Value.slice ao l.length cap := ⟨_, rfl⟩
  rw [← hvl] at HS HLt ⊢
  have hmx : Tryd.prog.follows .mixedOrders = true := by kernel_rfl
  clear hK hvl
  go_enter Tryd.func13, Tryd.ntmps13
  go_wp2
  have hbx : Below w.heap.size w (((((w.alloc (.cells #[.int .i64 a.letters, .int .i64 a.start, .slice ao2 n2 cap2, .slice ao3 n3 cap3] 25)).alloc (.cells #[.int .i64 most] 3)).alloc (.cells #[.slice none 0 0, .slice none 0 0, .slice none 0 0] 28)).alloc (.cells #[.slice none 0 0] 34)).alloc (.cells #[.int .i64 0] 35)) := (by repeat (first | exact Below.refl _ _ | assumption | (refine belA ?_ _) | (refine belD ?_ _)))
  have hpa : (((((w.alloc (.cells #[.int .i64 a.letters, .int .i64 a.start, .slice ao2 n2 cap2, .slice ao3 n3 cap3] 25)).alloc (.cells #[.int .i64 most] 3)).alloc (.cells #[.slice none 0 0, .slice none 0 0, .slice none 0 0] 28)).alloc (.cells #[.slice none 0 0] 34)).alloc (.cells #[.int .i64 0] 35)).heap[w.heap.size]? = some (.cells #[.int .i64 a.letters, .int .i64 a.start, .slice ao2 n2 cap2, .slice ao3 n3 cap3] 25 (0, 0)) := (by (repeat (rw [alloc_get]; first | rw [if_pos (by first | (simp; done) | (simp; omega))] | rw [if_neg (by first | (simp; done) | (simp; omega))])); (try rfl))
  have hpm : (((((w.alloc (.cells #[.int .i64 a.letters, .int .i64 a.start, .slice ao2 n2 cap2, .slice ao3 n3 cap3] 25)).alloc (.cells #[.int .i64 most] 3)).alloc (.cells #[.slice none 0 0, .slice none 0 0, .slice none 0 0] 28)).alloc (.cells #[.slice none 0 0] 34)).alloc (.cells #[.int .i64 0] 35)).heap[w.heap.size + 1]? = some (.cells #[.int .i64 most] 3 (0, 0)) := (by (repeat (rw [alloc_get]; first | rw [if_pos (by first | (simp; done) | (simp; omega))] | rw [if_neg (by first | (simp; done) | (simp; omega))])); (try rfl))
  have hpg : (((((w.alloc (.cells #[.int .i64 a.letters, .int .i64 a.start, .slice ao2 n2 cap2, .slice ao3 n3 cap3] 25)).alloc (.cells #[.int .i64 most] 3)).alloc (.cells #[.slice none 0 0, .slice none 0 0, .slice none 0 0] 28)).alloc (.cells #[.slice none 0 0] 34)).alloc (.cells #[.int .i64 0] 35)).heap[w.heap.size + 1 + 1]? = some (.cells #[.slice none 0 0, .slice none 0 0, .slice none 0 0] 28 (0, 0)) := (by (repeat (rw [alloc_get]; first | rw [if_pos (by first | (simp; done) | (simp; omega))] | rw [if_neg (by first | (simp; done) | (simp; omega))])); (try rfl))
  have hpp : (((((w.alloc (.cells #[.int .i64 a.letters, .int .i64 a.start, .slice ao2 n2 cap2, .slice ao3 n3 cap3] 25)).alloc (.cells #[.int .i64 most] 3)).alloc (.cells #[.slice none 0 0, .slice none 0 0, .slice none 0 0] 28)).alloc (.cells #[.slice none 0 0] 34)).alloc (.cells #[.int .i64 0] 35)).heap[w.heap.size + 1 + 1 + 1]? = some (.cells #[.slice none 0 0] 34 (0, 0)) := (by (repeat (rw [alloc_get]; first | rw [if_pos (by first | (simp; done) | (simp; omega))] | rw [if_neg (by first | (simp; done) | (simp; omega))])); (try rfl))
  have hpe : (((((w.alloc (.cells #[.int .i64 a.letters, .int .i64 a.start, .slice ao2 n2 cap2, .slice ao3 n3 cap3] 25)).alloc (.cells #[.int .i64 most] 3)).alloc (.cells #[.slice none 0 0, .slice none 0 0, .slice none 0 0] 28)).alloc (.cells #[.slice none 0 0] 34)).alloc (.cells #[.int .i64 0] 35)).heap[w.heap.size + 1 + 1 + 1 + 1]? = some (.cells #[.int .i64 0] 35 (0, 0)) := (by (repeat (rw [alloc_get]; first | rw [if_pos (by first | (simp; done) | (simp; omega))] | rw [if_neg (by first | (simp; done) | (simp; omega))])); (try rfl))
  generalize (((((w.alloc (.cells #[.int .i64 a.letters, .int .i64 a.start, .slice ao2 n2 cap2, .slice ao3 n3 cap3] 25)).alloc (.cells #[.int .i64 most] 3)).alloc (.cells #[.slice none 0 0, .slice none 0 0, .slice none 0 0] 28)).alloc (.cells #[.slice none 0 0] 34)).alloc (.cells #[.int .i64 0] 35)) = w5 at *
  have hsz := (Array.getElem?_eq_some_iff.1 hpe).1
  have HB1 : Hid (∀ W, Below w5.drew.heap.size w5.drew W → Below w.heap.size w W) := fun W h => hbx.trans (((Below.drew (Below.refl _ _)).trans h).mono hbx.size)
  have HPX : Hid (∀ W, Below w5.drew.heap.size w5.drew W → Below w5.heap.size w5 W) := fun W h => (Below.drew (B := w5.heap.size) (Below.refl _ _)).trans h
  have HPA : Hid (∀ W, Below w5.drew.heap.size w5.drew W → W.cell? ⟨w.heap.size, 0, none⟩ = some (.int .i64 a.letters) ∧ W.cell? ⟨w.heap.size, 1, none⟩ = some (.int .i64 a.start) ∧ W.cell? ⟨w.heap.size, 2, none⟩ = some (.slice ao2 n2 cap2) ∧ W.cell? ⟨w.heap.size, 3, none⟩ = some (.slice ao3 n3 cap3)) := fun W h => by
    have k := ((HPX.out W h).block _ (by omega)).trans hpa
    exact ⟨cell_of_row _ _ 0 _ _ _ k, cell_of_row _ _ 1 _ _ _ k, cell_of_row _ _ 2 _ _ _ k, cell_of_row _ _ 3 _ _ _ k⟩
  have HPM : Hid (∀ W, Below w5.drew.heap.size w5.drew W → W.cell? ⟨w.heap.size + 1, 0, none⟩ = some (.int .i64 most)) := fun W h => cell_of_row W (w.heap.size + 1) 0 _ _ _ (((HPX.out W h).block _ (by omega)).trans hpm)
  have HPG : Hid (∀ W, Below w5.drew.heap.size w5.drew W → W.heap[w.heap.size + 1 + 1]? = some (.cells #[.slice none 0 0, .slice none 0 0, .slice none 0 0] 28 (0, 0)) ∧ W.heap[w.heap.size + 1 + 1 + 1]? = some (.cells #[.slice none 0 0] 34 (0, 0)) ∧ W.heap[w.heap.size + 1 + 1 + 1 + 1]? = some (.cells #[.int .i64 0] 35 (0, 0))) := fun W h => ⟨((HPX.out W h).block _ (by omega)).trans hpg, ((HPX.out W h).block _ (by omega)).trans hpp, ((HPX.out W h).block _ (by omega)).trans hpe⟩
  clear hpa hpm hpg hpp hpe hbx
  refine region_stable hmx (G1 w vl a l ao2 ao3 n2 cap2 n3 cap3 most) (fun vs => { tmps := (_ :: _ :: _ :: _ :: _ :: _ :: _ :: _ :: _ :: _ :: _ :: _ :: _ :: _ :: _ :: _ :: _ :: _ :: _ :: _ :: _ :: vs 0 :: vs 1 :: vs 2 :: vs 3 :: vs 4 :: vs 5 :: vs 6 :: vs 7 :: vs 8 :: vs 9 :: vs 10 :: vs 11 :: vs 12 :: vs 13 :: vs 14 :: vs 15 :: vs 16 :: vs 17 :: vs 18 :: vs 19 :: vs 20 :: vs 21 :: vs 22 :: _ :: _ :: _ :: _ :: _ :: _ :: _ :: _ :: _ :: _ :: _ :: _ :: _ :: _ :: _ :: _ :: _ :: _ :: _ :: _ :: _ :: _ :: _ :: _ :: _ :: _ :: _ :: _ :: _ :: _ :: _ :: _ :: _ :: _ :: _ :: _ :: _ :: _ :: _ :: _ :: _ :: _ :: _ :: _ :: _ :: _ :: _ :: _ :: _ :: _ :: _ :: _ :: _ :: _ :: _ :: _ :: _ :: _ :: _ :: _ :: _ :: _ :: _ :: _ :: _ :: _ :: _ :: _ :: _ :: _ :: _ :: _ :: _ :: _ :: _ :: _ :: _ :: _ :: _ :: _ :: _ :: []).toArray, defers := [] }) (fun _ => undef) rfl (by kernel_rfl) (fun _ _ _ _ h _ => h) ?step ?fin
  case step =>
    intro ix o ho
    match ix, ho with
    | 0, ho =>
        obtain rfl := Option.some.inj ho
        intro vs W K hB hD hK
        have HK := Lib.hid hK
        clear hK hD ho
        dsimp only
        go_simp
        have h := HK.out _ _ (Below.refl _ _) rfl
        simp only [upd, Nat.reduceEqDiff, reduceIte] at h
        exact h
    | 1, ho =>
        obtain rfl := Option.some.inj ho
        intro vs W K hB hD hK
        have HK := Lib.hid hK
        have e0 : vs 0 = vl := dep_of hD 0 (by rfl)
        clear hK hD ho
        dsimp only
        go_simp
        refine (HS.out W (HB1.out W hB)).mono ?_
        rintro e W' ⟨rfl, hb⟩
        have h := HK.out _ _ hb rfl
        simp only [upd, Nat.reduceEqDiff, reduceIte, e0] at h
        exact h
    | 2, ho =>
        obtain rfl := Option.some.inj ho
        intro vs W K hB hD hK
        have HK := Lib.hid hK
        have e1 : vs 1 = .bool true := dep_of hD 1 (by rfl)
        clear hK hD ho
        dsimp only
        go_simp
        have h := HK.out _ _ (Below.refl _ _) rfl
        simp only [upd, Nat.reduceEqDiff, reduceIte, e1] at h
        exact h
    | 3, ho =>
        obtain rfl := Option.some.inj ho
        intro vs W K hB hD hK
        have HK := Lib.hid hK
        have e2 : vs 2 = .bool false := dep_of hD 2 (by rfl)
        clear hK hD ho
        dsimp only
        go_simp
        have h := HK.out _ _ (Below.refl _ _) rfl
        simp only [upd, Nat.reduceEqDiff, reduceIte, e2] at h
        exact h
    | 4, ho =>
        obtain rfl := Option.some.inj ho
        intro vs W K hB hD hK
        have HK := Lib.hid hK
        have e3 : vs 3 = .bool false := dep_of hD 3 (by rfl)
        obtain ⟨d0, d1, d2, d3⟩ := HPA.out W hB
        clear hK hD ho
        dsimp only
        go_simp
        have h := HK.out _ _ (Below.refl _ _) rfl
        simp only [upd, Nat.reduceEqDiff, reduceIte, e3] at h
        exact h
    | 5, ho =>
        obtain rfl := Option.some.inj ho
        intro vs W K hB hD hK
        have HK := Lib.hid hK
        have e3 : vs 3 = .bool false := dep_of hD 3 (by rfl)
        have e4 : vs 4 = .agg #[.int .i64 a.letters, .int .i64 a.start, .slice ao2 n2 cap2, .slice ao3 n3 cap3] := dep_of hD 4 (by rfl)
        clear hK hD ho
        dsimp only
        go_simp
        refine (HA.out W (HB1.out W hB)).mono ?_
        rintro e W' ⟨rfl, hb⟩
        have h := HK.out _ _ hb rfl
        simp only [upd, Nat.reduceEqDiff, reduceIte, e3, e4] at h
        exact h
    | 6, ho =>
        obtain rfl := Option.some.inj ho
        intro vs W K hB hD hK
        have HK := Lib.hid hK
        have e3 : vs 3 = .bool false := dep_of hD 3 (by rfl)
        have e5 : vs 5 = .bool false := dep_of hD 5 (by rfl)
        clear hK hD ho
        dsimp only
        go_simp
        have h := HK.out _ _ (Below.refl _ _) rfl
        simp only [upd, Nat.reduceEqDiff, reduceIte, e3, e5] at h
        exact h
    | 7, ho =>
        obtain rfl := Option.some.inj ho
        intro vs W K hB hD hK
        have HK := Lib.hid hK
        have e3 : vs 3 = .bool false := dep_of hD 3 (by rfl)
        have e6 : vs 6 = .bool true := dep_of hD 6 (by rfl)
        clear hK hD ho
        dsimp only
        go_simp
        have h := HK.out _ _ (Below.refl _ _) rfl
        simp only [upd, Nat.reduceEqDiff, reduceIte, e3, e6] at h
        exact h
    | 8, ho =>
        obtain rfl := Option.some.inj ho
        intro vs W K hB hD hK
        have HK := Lib.hid hK
        have e7 : vs 7 = .bool true := dep_of hD 7 (by rfl)
        clear hK hD ho
        dsimp only
        go_simp
        have h := HK.out _ _ (Below.refl _ _) rfl
        simp only [upd, Nat.reduceEqDiff, reduceIte, e7] at h
        exact h
    | 9, ho =>
        obtain rfl := Option.some.inj ho
        intro vs W K hB hD hK
        have HK := Lib.hid hK
        have e8 : vs 8 = .bool true := dep_of hD 8 (by rfl)
        clear hK hD ho
        dsimp only
        go_simp
        have h := HK.out _ _ (Below.refl _ _) rfl
        simp only [upd, Nat.reduceEqDiff, reduceIte, e8] at h
        exact h
    | 10, ho =>
        obtain rfl := Option.some.inj ho
        intro vs W K hB hD hK
        have HK := Lib.hid hK
        have e8 : vs 8 = .bool true := dep_of hD 8 (by rfl)
        clear hK hD ho
        dsimp only
        go_simp
        have h := HK.out _ _ (Below.refl _ _) rfl
        simp only [upd, Nat.reduceEqDiff, reduceIte, e8] at h
        exact h
    | 11, ho =>
        obtain rfl := Option.some.inj ho
        intro vs W K hB hD hK
        have HK := Lib.hid hK
        have e8 : vs 8 = .bool true := dep_of hD 8 (by rfl)
        clear hK hD ho
        dsimp only
        go_simp
        have h := HK.out _ _ (Below.refl _ _) rfl
        simp only [upd, Nat.reduceEqDiff, reduceIte, e8] at h
        exact h
    | 12, ho =>
        obtain rfl := Option.some.inj ho
        intro vs W K hB hD hK
        have HK := Lib.hid hK
        have e8 : vs 8 = .bool true := dep_of hD 8 (by rfl)
        clear hK hD ho
        dsimp only
        go_simp
        have h := HK.out _ _ (Below.refl _ _) rfl
        simp only [upd, Nat.reduceEqDiff, reduceIte, e8] at h
        exact h
    | 13, ho =>
        obtain rfl := Option.some.inj ho
        intro vs W K hB hD hK
        have HK := Lib.hid hK
        have e8 : vs 8 = .bool true := dep_of hD 8 (by rfl)
        clear hK hD ho
        dsimp only
        go_simp
        have h := HK.out _ _ (Below.refl _ _) rfl
        simp only [upd, Nat.reduceEqDiff, reduceIte, e8] at h
        exact h
    | 14, ho =>
        obtain rfl := Option.some.inj ho
        intro vs W K hB hD hK
        have HK := Lib.hid hK
        have e8 : vs 8 = .bool true := dep_of hD 8 (by rfl)
        clear hK hD ho
        dsimp only
        go_simp
        have h := HK.out _ _ (Below.refl _ _) rfl
        simp only [upd, Nat.reduceEqDiff, reduceIte, e8] at h
        exact h
    | 15, ho =>
        obtain rfl := Option.some.inj ho
        intro vs W K hB hD hK
        have HK := Lib.hid hK
        have e14 : vs 14 = .bool true := dep_of hD 14 (by rfl)
        clear hK hD ho
        dsimp only
        go_simp
        have h := HK.out _ _ (Below.refl _ _) rfl
        simp only [upd, Nat.reduceEqDiff, reduceIte, e14] at h
        exact h
    | 16, ho =>
        obtain rfl := Option.some.inj ho
        intro vs W K hB hD hK
        have HK := Lib.hid hK
        have e15 : vs 15 = .bool true := dep_of hD 15 (by rfl)
        clear hK hD ho
        dsimp only
        go_simp
        have h := HK.out _ _ (Below.refl _ _) rfl
        simp only [upd, Nat.reduceEqDiff, reduceIte, e15] at h
        exact h
    | 17, ho =>
        obtain rfl := Option.some.inj ho
        intro vs W K hB hD hK
        have HK := Lib.hid hK
        have e15 : vs 15 = .bool true := dep_of hD 15 (by rfl)
        clear hK hD ho
        dsimp only
        go_simp
        have h := HK.out _ _ (Below.refl _ _) rfl
        simp only [upd, Nat.reduceEqDiff, reduceIte, e15] at h
        exact h
    | 18, ho =>
        obtain rfl := Option.some.inj ho
        intro vs W K hB hD hK
        have HK := Lib.hid hK
        have e15 : vs 15 = .bool true := dep_of hD 15 (by rfl)
        clear hK hD ho
        dsimp only
        go_simp
        have h := HK.out _ _ (Below.refl _ _) rfl
        simp only [upd, Nat.reduceEqDiff, reduceIte, e15] at h
        exact h
    | 19, ho =>
        obtain rfl := Option.some.inj ho
        intro vs W K hB hD hK
        have HK := Lib.hid hK
        have e18 : vs 18 = .bool true := dep_of hD 18 (by rfl)
        clear hK hD ho
        dsimp only
        go_simp
        have h := HK.out _ _ (Below.refl _ _) rfl
        simp only [upd, Nat.reduceEqDiff, reduceIte, e18] at h
        exact h
    | 20, ho =>
        obtain rfl := Option.some.inj ho
        intro vs W K hB hD hK
        have HK := Lib.hid hK
        have e19 : vs 19 = .bool true := dep_of hD 19 (by rfl)
        clear hK hD ho
        dsimp only
        go_simp
        have h := HK.out _ _ (Below.refl _ _) rfl
        simp only [upd, Nat.reduceEqDiff, reduceIte, e19] at h
        exact h
    | 21, ho =>
        obtain rfl := Option.some.inj ho
        intro vs W K hB hD hK
        have HK := Lib.hid hK
        have e19 : vs 19 = .bool true := dep_of hD 19 (by rfl)
        clear hK hD ho
        dsimp only
        go_simp
        have h := HK.out _ _ (Below.refl _ _) rfl
        simp only [upd, Nat.reduceEqDiff, reduceIte, e19] at h
        exact h
    | 22, ho =>
        obtain rfl := Option.some.inj ho
        intro vs W K hB hD hK
        have HK := Lib.hid hK
        have e19 : vs 19 = .bool true := dep_of hD 19 (by rfl)
        clear hK hD ho
        dsimp only
        go_simp
        have h := HK.out _ _ (Below.refl _ _) rfl
        simp only [upd, Nat.reduceEqDiff, reduceIte, e19] at h
        exact h
    | q + 23, ho => exact absurd ho (by simp)
  case fin =>
    intro vs W hB hall
    have e22 : vs 22 = .bool true := hall 22 (by decide)
    obtain ⟨g1, g2, g3⟩ := HPG.out W hB
    have hB5 := HB1.out W hB
    clear hall hB
    rw [e22]
    clear e22
    have c0 : W.cell? ⟨w.heap.size + 1 + 1, 0, none⟩ = some (.slice none 0 0) := cell_of_row _ _ 0 _ _ _ g1
    have c1 : W.cell? ⟨w.heap.size + 1 + 1, 1, none⟩ = some (.slice none 0 0) := cell_of_row _ _ 1 _ _ _ g1
    have c2 : W.cell? ⟨w.heap.size + 1 + 1, 2, none⟩ = some (.slice none 0 0) := cell_of_row _ _ 2 _ _ _ g1
    have c3 : W.cell? ⟨w.heap.size + 1 + 1 + 1, 0, none⟩ = some (.slice none 0 0) := cell_of_row _ _ 0 _ _ _ g2
    have c4 : W.cell? ⟨w.heap.size + 1 + 1 + 1 + 1, 0, none⟩ = some (.int .i64 0) := cell_of_row _ _ 0 _ _ _ g3
    have f0 := frozen_of_row _ _ 0 _ _ g1
    have f1 := frozen_of_row _ _ 1 _ _ g1
    have f2 := frozen_of_row _ _ 2 _ _ g1
    have f3 := frozen_of_row _ _ 0 _ _ g2
    have f4 := frozen_of_row _ _ 0 _ _ g3
    go_wp2
    have s1 : (((((W.setCell ⟨w.heap.size + 1 + 1, 0, none⟩ (.slice none 0 0)).setCell ⟨w.heap.size + 1 + 1, 1, none⟩ (.slice none 0 0)).setCell ⟨w.heap.size + 1 + 1, 2, none⟩ (.slice none 0 0)).setCell ⟨w.heap.size + 1 + 1 + 1, 0, none⟩ (.slice none 0 0)).setCell ⟨w.heap.size + 1 + 1 + 1 + 1, 0, none⟩ (.int .i64 1)).heap[w.heap.size + 1 + 1]? = some (.cells #[.slice none 0 0, .slice none 0 0, .slice none 0 0] 28 (0, 0)) :=
      (heap_setCell_other _ ⟨w.heap.size + 1 + 1 + 1 + 1, 0, none⟩ _ _ (by simp)).trans ((heap_setCell_other _ ⟨w.heap.size + 1 + 1 + 1, 0, none⟩ _ _ (by simp)).trans (three_set g1))
    have s2 : (((((W.setCell ⟨w.heap.size + 1 + 1, 0, none⟩ (.slice none 0 0)).setCell ⟨w.heap.size + 1 + 1, 1, none⟩ (.slice none 0 0)).setCell ⟨w.heap.size + 1 + 1, 2, none⟩ (.slice none 0 0)).setCell ⟨w.heap.size + 1 + 1 + 1, 0, none⟩ (.slice none 0 0)).setCell ⟨w.heap.size + 1 + 1 + 1 + 1, 0, none⟩ (.int .i64 1)).cell? ⟨w.heap.size + 1 + 1 + 1, 0, none⟩ = some (.slice none 0 0) := by
      first
        | go_simp
        | simp [go_sem, c3]
    have s3 : (((((W.setCell ⟨w.heap.size + 1 + 1, 0, none⟩ (.slice none 0 0)).setCell ⟨w.heap.size + 1 + 1, 1, none⟩ (.slice none 0 0)).setCell ⟨w.heap.size + 1 + 1, 2, none⟩ (.slice none 0 0)).setCell ⟨w.heap.size + 1 + 1 + 1, 0, none⟩ (.slice none 0 0)).setCell ⟨w.heap.size + 1 + 1 + 1 + 1, 0, none⟩ (.int .i64 1)).cell? ⟨w.heap.size + 1 + 1 + 1 + 1, 0, none⟩ = some (.int .i64 1) := by
      first
        | go_simp
        | simp [go_sem, c4]
    have s4 : Below w.heap.size w (((((W.setCell ⟨w.heap.size + 1 + 1, 0, none⟩ (.slice none 0 0)).setCell ⟨w.heap.size + 1 + 1, 1, none⟩ (.slice none 0 0)).setCell ⟨w.heap.size + 1 + 1, 2, none⟩ (.slice none 0 0)).setCell ⟨w.heap.size + 1 + 1 + 1, 0, none⟩ (.slice none 0 0)).setCell ⟨w.heap.size + 1 + 1 + 1 + 1, 0, none⟩ (.int .i64 1)) := ((((hB5.setCell (p := ⟨w.heap.size + 1 + 1, 0, none⟩) (by simp; omega) _).setCell (p := ⟨w.heap.size + 1 + 1, 1, none⟩) (by simp; omega) _).setCell (p := ⟨w.heap.size + 1 + 1, 2, none⟩) (by simp; omega) _).setCell (p := ⟨w.heap.size + 1 + 1 + 1, 0, none⟩) (by simp; omega) _).setCell (p := ⟨w.heap.size + 1 + 1 + 1 + 1, 0, none⟩) (by simp; omega) _
    clear c0 c1 c2 c3 c4 f0 f1 f2 f3 f4 g1 g2 g3
    generalize (((((W.setCell ⟨w.heap.size + 1 + 1, 0, none⟩ (.slice none 0 0)).setCell ⟨w.heap.size + 1 + 1, 1, none⟩ (.slice none 0 0)).setCell ⟨w.heap.size + 1 + 1, 2, none⟩ (.slice none 0 0)).setCell ⟨w.heap.size + 1 + 1 + 1, 0, none⟩ (.slice none 0 0)).setCell ⟨w.heap.size + 1 + 1 + 1 + 1, 0, none⟩ (.int .i64 1)) = w9 at *
    refine bodyPost_ret (results_cell3 (by rfl) _ _ ⟨w.heap.size + 1 + 1, 0, none⟩ ⟨w.heap.size + 1 + 1 + 1, 0, none⟩ ⟨w.heap.size + 1 + 1 + 1 + 1, 0, none⟩ (.agg #[.slice none 0 0, .slice none 0 0, .slice none 0 0]) (.slice none 0 0) (.int .i64 1) rfl rfl rfl (run_loadVar_row w9 _ _ _ _ _ _ s1 Tryd.underlying28 (by rfl) (by rfl)) (by go_simp) (by go_simp)) rfl ?_
    exact ⟨rfl, s4⟩

def G2 (w : World) (vl : Value) (a : Au) (l : List Sig) (ao2 ao3 : Option Addr) (n2 cap2 n3 cap3 : Nat) (_most : Int) (ix : Nat) (u : Value) (_ : World) : Prop :=
  match ix with
  | 0 => u = vl
  | 1 => u = .bool true
  | 2 => u = .bool false
  | 3 => u = .bool false
  | 4 => u = .agg #[.int .i64 a.letters, .int .i64 a.start, .slice ao2 n2 cap2, .slice ao3 n3 cap3]
  | 5 => u = .bool true
  | 6 => u = .bool false
  | 7 => u = .bool false
  | 8 => u = .bool false
  | 9 => u = .pointer (some ⟨w.heap.size, 0, none⟩)
  | 10 => u = .int .i64 a.letters
  | 11 => u = vl
  | 12 => u = .int .i64 (lettersI l)
  | 13 => u = .bool true
  | 14 => u = .bool true
  | 15 => u = .bool true
  | 16 => u = undef
  | 17 => u = undef
  | 18 => u = .bool true
  | 19 => u = .bool true
  | 20 => u = undef
  | 21 => u = undef
  | 22 => u = .bool true
  | _ => True

set_option maxRecDepth 100000 in
set_option maxHeartbeats 8000000 in
theorem Build_bad2 (w : World) (vl va : Value) (l : List Sig) (a : Au) (most : Int) (hK : Keys w) (hl : IsSigs w vl l) (ha : IsAuto w va a) (hv : validS l = true) (h1 : validA a = true) (h2 : (a.letters != lettersI l) = true) :
    Calls Tryd.prog 13 #[vl, va, .int .i64 most] w fun e w' => e = .returned (.tuple #[.agg #[.slice none 0 0, .slice none 0 0, .slice none 0 0], .slice none 0 0, .int .i64 1]) ∧ Below w.heap.size w w' := by
  have HS : Hid (∀ W, Below w.heap.size w W → Calls Tryd.prog 39 #[vl] W (Calm (.bool (validS l)) W)) := fun W h => by
    refine (SValid_c W _ l (hK.below h) (hl.below h)).mono ?_
    rintro e W' ⟨rfl, n, rfl⟩
    exact ⟨rfl, below_draws _ _ _⟩
  have HA : Hid (∀ W, Below w.heap.size w W → Calls Tryd.prog 36 #[va] W (Calm (.bool (validA a)) W)) := fun W h => PValid_c W _ a (ha.below h)
  have HLt : Hid (∀ W, Below w.heap.size w W → Calls Tryd.prog 37 #[vl] W (Calm (.int .i64 (lettersI l)) W)) := fun W h => Letters_c W _ l (hK.below h) (hl.below h)
  rw [hv] at HS
  rw [h1] at HA
  obtain ⟨ao, cap, b, off, rfl, -⟩ := hl
  obtain ⟨vv2, vv3, rfl, -, ⟨V2, ⟨ao2, cap2, b2, off2, rfl, -⟩, -⟩, ⟨V3, ⟨ao3, cap3, b3, off3, rfl, -⟩, -⟩⟩ := ha
  generalize a.next.length = n2 at *
  generalize a.prio.length = n3 at *
  obtain ⟨vl, hvl⟩ : ∃ vl, vl = Value.slice ao l.length cap := ⟨_, rfl⟩
  rw [← hvl] at HS HLt ⊢
  have hmx : Tryd.prog.follows .mixedOrders = true := by kernel_rfl
  clear hK hvl
  go_enter Tryd.func13, Tryd.ntmps13
  go_wp2
  have hbx : Below w.heap.size w (((((w.alloc (.cells #[.int .i64 a.letters, .int .i64 a.start, .slice ao2 n2 cap2, .slice ao3 n3 cap3] 25)).alloc (.cells #[.int .i64 most] 3)).alloc (.cells #[.slice none 0 0, .slice none 0 0, .slice none 0 0] 28)).alloc (.cells #[.slice none 0 0] 34)).alloc (.cells #[.int .i64 0] 35)) := (by repeat (first | exact Below.refl _ _ | assumption | (refine belA ?_ _) | (refine belD ?_ _)))
  have hpa : (((((w.alloc (.cells #[.int .i64 a.letters, .int .i64 a.start, .slice ao2 n2 cap2, .slice ao3 n3 cap3] 25)).alloc (.cells #[.int .i64 most] 3)).alloc (.cells #[.slice none 0 0, .slice none 0 0, .slice none 0 0] 28)).alloc (.cells #[.slice none 0 0] 34)).alloc (.cells #[.int .i64 0] 35)).heap[w.heap.size]? = some (.cells #[.int .i64 a.letters, .int .i64 a.start, .slice ao2 n2 cap2, .slice ao3 n3 cap3] 25 (0, 0)) := (by (repeat (rw [alloc_get]; first | rw [if_pos (by first | (simp; done) | (simp; omega))] | rw [if_neg (by first | (simp; done) | (simp; omega))])); (try rfl))
  have hpm : (((((w.alloc (.cells #[.int .i64 a.letters, .int .i64 a.start, .slice ao2 n2 cap2, .slice ao3 n3 cap3] 25)).alloc (.cells #[.int .i64 most] 3)).alloc (.cells #[.slice none 0 0, .slice none 0 0, .slice none 0 0] 28)).alloc (.cells #[.slice none 0 0] 34)).alloc (.cells #[.int .i64 0] 35)).heap[w.heap.size + 1]? = some (.cells #[.int .i64 most] 3 (0, 0)) := (by (repeat (rw [alloc_get]; first | rw [if_pos (by first | (simp; done) | (simp; omega))] | rw [if_neg (by first | (simp; done) | (simp; omega))])); (try rfl))
  have hpg : (((((w.alloc (.cells #[.int .i64 a.letters, .int .i64 a.start, .slice ao2 n2 cap2, .slice ao3 n3 cap3] 25)).alloc (.cells #[.int .i64 most] 3)).alloc (.cells #[.slice none 0 0, .slice none 0 0, .slice none 0 0] 28)).alloc (.cells #[.slice none 0 0] 34)).alloc (.cells #[.int .i64 0] 35)).heap[w.heap.size + 1 + 1]? = some (.cells #[.slice none 0 0, .slice none 0 0, .slice none 0 0] 28 (0, 0)) := (by (repeat (rw [alloc_get]; first | rw [if_pos (by first | (simp; done) | (simp; omega))] | rw [if_neg (by first | (simp; done) | (simp; omega))])); (try rfl))
  have hpp : (((((w.alloc (.cells #[.int .i64 a.letters, .int .i64 a.start, .slice ao2 n2 cap2, .slice ao3 n3 cap3] 25)).alloc (.cells #[.int .i64 most] 3)).alloc (.cells #[.slice none 0 0, .slice none 0 0, .slice none 0 0] 28)).alloc (.cells #[.slice none 0 0] 34)).alloc (.cells #[.int .i64 0] 35)).heap[w.heap.size + 1 + 1 + 1]? = some (.cells #[.slice none 0 0] 34 (0, 0)) := (by (repeat (rw [alloc_get]; first | rw [if_pos (by first | (simp; done) | (simp; omega))] | rw [if_neg (by first | (simp; done) | (simp; omega))])); (try rfl))
  have hpe : (((((w.alloc (.cells #[.int .i64 a.letters, .int .i64 a.start, .slice ao2 n2 cap2, .slice ao3 n3 cap3] 25)).alloc (.cells #[.int .i64 most] 3)).alloc (.cells #[.slice none 0 0, .slice none 0 0, .slice none 0 0] 28)).alloc (.cells #[.slice none 0 0] 34)).alloc (.cells #[.int .i64 0] 35)).heap[w.heap.size + 1 + 1 + 1 + 1]? = some (.cells #[.int .i64 0] 35 (0, 0)) := (by (repeat (rw [alloc_get]; first | rw [if_pos (by first | (simp; done) | (simp; omega))] | rw [if_neg (by first | (simp; done) | (simp; omega))])); (try rfl))
  generalize (((((w.alloc (.cells #[.int .i64 a.letters, .int .i64 a.start, .slice ao2 n2 cap2, .slice ao3 n3 cap3] 25)).alloc (.cells #[.int .i64 most] 3)).alloc (.cells #[.slice none 0 0, .slice none 0 0, .slice none 0 0] 28)).alloc (.cells #[.slice none 0 0] 34)).alloc (.cells #[.int .i64 0] 35)) = w5 at *
  have hsz := (Array.getElem?_eq_some_iff.1 hpe).1
  have HB1 : Hid (∀ W, Below w5.drew.heap.size w5.drew W → Below w.heap.size w W) := fun W h => hbx.trans (((Below.drew (Below.refl _ _)).trans h).mono hbx.size)
  have HPX : Hid (∀ W, Below w5.drew.heap.size w5.drew W → Below w5.heap.size w5 W) := fun W h => (Below.drew (B := w5.heap.size) (Below.refl _ _)).trans h
  have HPA : Hid (∀ W, Below w5.drew.heap.size w5.drew W → W.cell? ⟨w.heap.size, 0, none⟩ = some (.int .i64 a.letters) ∧ W.cell? ⟨w.heap.size, 1, none⟩ = some (.int .i64 a.start) ∧ W.cell? ⟨w.heap.size, 2, none⟩ = some (.slice ao2 n2 cap2) ∧ W.cell? ⟨w.heap.size, 3, none⟩ = some (.slice ao3 n3 cap3)) := fun W h => by
    have k := ((HPX.out W h).block _ (by omega)).trans hpa
    exact ⟨cell_of_row _ _ 0 _ _ _ k, cell_of_row _ _ 1 _ _ _ k, cell_of_row _ _ 2 _ _ _ k, cell_of_row _ _ 3 _ _ _ k⟩
  have HPM : Hid (∀ W, Below w5.drew.heap.size w5.drew W → W.cell? ⟨w.heap.size + 1, 0, none⟩ = some (.int .i64 most)) := fun W h => cell_of_row W (w.heap.size + 1) 0 _ _ _ (((HPX.out W h).block _ (by omega)).trans hpm)
  have HPG : Hid (∀ W, Below w5.drew.heap.size w5.drew W → W.heap[w.heap.size + 1 + 1]? = some (.cells #[.slice none 0 0, .slice none 0 0, .slice none 0 0] 28 (0, 0)) ∧ W.heap[w.heap.size + 1 + 1 + 1]? = some (.cells #[.slice none 0 0] 34 (0, 0)) ∧ W.heap[w.heap.size + 1 + 1 + 1 + 1]? = some (.cells #[.int .i64 0] 35 (0, 0))) := fun W h => ⟨((HPX.out W h).block _ (by omega)).trans hpg, ((HPX.out W h).block _ (by omega)).trans hpp, ((HPX.out W h).block _ (by omega)).trans hpe⟩
  clear hpa hpm hpg hpp hpe hbx
  refine region_stable hmx (G2 w vl a l ao2 ao3 n2 cap2 n3 cap3 most) (fun vs => { tmps := (_ :: _ :: _ :: _ :: _ :: _ :: _ :: _ :: _ :: _ :: _ :: _ :: _ :: _ :: _ :: _ :: _ :: _ :: _ :: _ :: _ :: vs 0 :: vs 1 :: vs 2 :: vs 3 :: vs 4 :: vs 5 :: vs 6 :: vs 7 :: vs 8 :: vs 9 :: vs 10 :: vs 11 :: vs 12 :: vs 13 :: vs 14 :: vs 15 :: vs 16 :: vs 17 :: vs 18 :: vs 19 :: vs 20 :: vs 21 :: vs 22 :: _ :: _ :: _ :: _ :: _ :: _ :: _ :: _ :: _ :: _ :: _ :: _ :: _ :: _ :: _ :: _ :: _ :: _ :: _ :: _ :: _ :: _ :: _ :: _ :: _ :: _ :: _ :: _ :: _ :: _ :: _ :: _ :: _ :: _ :: _ :: _ :: _ :: _ :: _ :: _ :: _ :: _ :: _ :: _ :: _ :: _ :: _ :: _ :: _ :: _ :: _ :: _ :: _ :: _ :: _ :: _ :: _ :: _ :: _ :: _ :: _ :: _ :: _ :: _ :: _ :: _ :: _ :: _ :: _ :: _ :: _ :: _ :: _ :: _ :: _ :: _ :: _ :: _ :: _ :: _ :: _ :: []).toArray, defers := [] }) (fun _ => undef) rfl (by kernel_rfl) (fun _ _ _ _ h _ => h) ?step ?fin
  case step =>
    intro ix o ho
    match ix, ho with
    | 0, ho =>
        obtain rfl := Option.some.inj ho
        intro vs W K hB hD hK
        have HK := Lib.hid hK
        clear hK hD ho
        dsimp only
        go_simp
        have h := HK.out _ _ (Below.refl _ _) rfl
        simp only [upd, Nat.reduceEqDiff, reduceIte] at h
        exact h
    | 1, ho =>
        obtain rfl := Option.some.inj ho
        intro vs W K hB hD hK
        have HK := Lib.hid hK
        have e0 : vs 0 = vl := dep_of hD 0 (by rfl)
        clear hK hD ho
        dsimp only
        go_simp
        refine (HS.out W (HB1.out W hB)).mono ?_
        rintro e W' ⟨rfl, hb⟩
        have h := HK.out _ _ hb rfl
        simp only [upd, Nat.reduceEqDiff, reduceIte, e0] at h
        exact h
    | 2, ho =>
        obtain rfl := Option.some.inj ho
        intro vs W K hB hD hK
        have HK := Lib.hid hK
        have e1 : vs 1 = .bool true := dep_of hD 1 (by rfl)
        clear hK hD ho
        dsimp only
        go_simp
        have h := HK.out _ _ (Below.refl _ _) rfl
        simp only [upd, Nat.reduceEqDiff, reduceIte, e1] at h
        exact h
    | 3, ho =>
        obtain rfl := Option.some.inj ho
        intro vs W K hB hD hK
        have HK := Lib.hid hK
        have e2 : vs 2 = .bool false := dep_of hD 2 (by rfl)
        clear hK hD ho
        dsimp only
        go_simp
        have h := HK.out _ _ (Below.refl _ _) rfl
        simp only [upd, Nat.reduceEqDiff, reduceIte, e2] at h
        exact h
    | 4, ho =>
        obtain rfl := Option.some.inj ho
        intro vs W K hB hD hK
        have HK := Lib.hid hK
        have e3 : vs 3 = .bool false := dep_of hD 3 (by rfl)
        obtain ⟨d0, d1, d2, d3⟩ := HPA.out W hB
        clear hK hD ho
        dsimp only
        go_simp
        have h := HK.out _ _ (Below.refl _ _) rfl
        simp only [upd, Nat.reduceEqDiff, reduceIte, e3] at h
        exact h
    | 5, ho =>
        obtain rfl := Option.some.inj ho
        intro vs W K hB hD hK
        have HK := Lib.hid hK
        have e3 : vs 3 = .bool false := dep_of hD 3 (by rfl)
        have e4 : vs 4 = .agg #[.int .i64 a.letters, .int .i64 a.start, .slice ao2 n2 cap2, .slice ao3 n3 cap3] := dep_of hD 4 (by rfl)
        clear hK hD ho
        dsimp only
        go_simp
        refine (HA.out W (HB1.out W hB)).mono ?_
        rintro e W' ⟨rfl, hb⟩
        have h := HK.out _ _ hb rfl
        simp only [upd, Nat.reduceEqDiff, reduceIte, e3, e4] at h
        exact h
    | 6, ho =>
        obtain rfl := Option.some.inj ho
        intro vs W K hB hD hK
        have HK := Lib.hid hK
        have e3 : vs 3 = .bool false := dep_of hD 3 (by rfl)
        have e5 : vs 5 = .bool true := dep_of hD 5 (by rfl)
        clear hK hD ho
        dsimp only
        go_simp
        have h := HK.out _ _ (Below.refl _ _) rfl
        simp only [upd, Nat.reduceEqDiff, reduceIte, e3, e5] at h
        exact h
    | 7, ho =>
        obtain rfl := Option.some.inj ho
        intro vs W K hB hD hK
        have HK := Lib.hid hK
        have e3 : vs 3 = .bool false := dep_of hD 3 (by rfl)
        have e6 : vs 6 = .bool false := dep_of hD 6 (by rfl)
        clear hK hD ho
        dsimp only
        go_simp
        have h := HK.out _ _ (Below.refl _ _) rfl
        simp only [upd, Nat.reduceEqDiff, reduceIte, e3, e6] at h
        exact h
    | 8, ho =>
        obtain rfl := Option.some.inj ho
        intro vs W K hB hD hK
        have HK := Lib.hid hK
        have e7 : vs 7 = .bool false := dep_of hD 7 (by rfl)
        clear hK hD ho
        dsimp only
        go_simp
        have h := HK.out _ _ (Below.refl _ _) rfl
        simp only [upd, Nat.reduceEqDiff, reduceIte, e7] at h
        exact h
    | 9, ho =>
        obtain rfl := Option.some.inj ho
        intro vs W K hB hD hK
        have HK := Lib.hid hK
        have e8 : vs 8 = .bool false := dep_of hD 8 (by rfl)
        clear hK hD ho
        dsimp only
        go_simp
        have h := HK.out _ _ (Below.refl _ _) rfl
        simp only [upd, Nat.reduceEqDiff, reduceIte, e8] at h
        exact h
    | 10, ho =>
        obtain rfl := Option.some.inj ho
        intro vs W K hB hD hK
        have HK := Lib.hid hK
        have e8 : vs 8 = .bool false := dep_of hD 8 (by rfl)
        have e9 : vs 9 = .pointer (some ⟨w.heap.size, 0, none⟩) := dep_of hD 9 (by rfl)
        obtain ⟨d0, d1, d2, d3⟩ := HPA.out W hB
        clear hK hD ho
        dsimp only
        go_simp
        have h := HK.out _ _ (Below.refl _ _) rfl
        simp only [upd, Nat.reduceEqDiff, reduceIte, e8, e9] at h
        exact h
    | 11, ho =>
        obtain rfl := Option.some.inj ho
        intro vs W K hB hD hK
        have HK := Lib.hid hK
        have e8 : vs 8 = .bool false := dep_of hD 8 (by rfl)
        clear hK hD ho
        dsimp only
        go_simp
        have h := HK.out _ _ (Below.refl _ _) rfl
        simp only [upd, Nat.reduceEqDiff, reduceIte, e8] at h
        exact h
    | 12, ho =>
        obtain rfl := Option.some.inj ho
        intro vs W K hB hD hK
        have HK := Lib.hid hK
        have e8 : vs 8 = .bool false := dep_of hD 8 (by rfl)
        have e11 : vs 11 = vl := dep_of hD 11 (by rfl)
        clear hK hD ho
        dsimp only
        go_simp
        refine (HLt.out W (HB1.out W hB)).mono ?_
        rintro e W' ⟨rfl, hb⟩
        have h := HK.out _ _ hb rfl
        simp only [upd, Nat.reduceEqDiff, reduceIte, e8, e11] at h
        exact h
    | 13, ho =>
        obtain rfl := Option.some.inj ho
        intro vs W K hB hD hK
        have HK := Lib.hid hK
        have e8 : vs 8 = .bool false := dep_of hD 8 (by rfl)
        have e10 : vs 10 = .int .i64 a.letters := dep_of hD 10 (by rfl)
        have e12 : vs 12 = .int .i64 (lettersI l) := dep_of hD 12 (by rfl)
        clear hK hD ho
        dsimp only
        go_simp
        have h := HK.out _ _ (Below.refl _ _) rfl
        simp only [upd, Nat.reduceEqDiff, reduceIte, e8, e10, e12] at h
        exact h
    | 14, ho =>
        obtain rfl := Option.some.inj ho
        intro vs W K hB hD hK
        have HK := Lib.hid hK
        have e8 : vs 8 = .bool false := dep_of hD 8 (by rfl)
        have e13 : vs 13 = .bool true := dep_of hD 13 (by rfl)
        clear hK hD ho
        dsimp only
        go_simp
        have h := HK.out _ _ (Below.refl _ _) rfl
        simp only [upd, Nat.reduceEqDiff, reduceIte, e8, e13] at h
        exact h
    | 15, ho =>
        obtain rfl := Option.some.inj ho
        intro vs W K hB hD hK
        have HK := Lib.hid hK
        have e14 : vs 14 = .bool true := dep_of hD 14 (by rfl)
        clear hK hD ho
        dsimp only
        go_simp
        have h := HK.out _ _ (Below.refl _ _) rfl
        simp only [upd, Nat.reduceEqDiff, reduceIte, e14] at h
        exact h
    | 16, ho =>
        obtain rfl := Option.some.inj ho
        intro vs W K hB hD hK
        have HK := Lib.hid hK
        have e15 : vs 15 = .bool true := dep_of hD 15 (by rfl)
        clear hK hD ho
        dsimp only
        go_simp
        have h := HK.out _ _ (Below.refl _ _) rfl
        simp only [upd, Nat.reduceEqDiff, reduceIte, e15] at h
        exact h
    | 17, ho =>
        obtain rfl := Option.some.inj ho
        intro vs W K hB hD hK
        have HK := Lib.hid hK
        have e15 : vs 15 = .bool true := dep_of hD 15 (by rfl)
        clear hK hD ho
        dsimp only
        go_simp
        have h := HK.out _ _ (Below.refl _ _) rfl
        simp only [upd, Nat.reduceEqDiff, reduceIte, e15] at h
        exact h
    | 18, ho =>
        obtain rfl := Option.some.inj ho
        intro vs W K hB hD hK
        have HK := Lib.hid hK
        have e15 : vs 15 = .bool true := dep_of hD 15 (by rfl)
        clear hK hD ho
        dsimp only
        go_simp
        have h := HK.out _ _ (Below.refl _ _) rfl
        simp only [upd, Nat.reduceEqDiff, reduceIte, e15] at h
        exact h
    | 19, ho =>
        obtain rfl := Option.some.inj ho
        intro vs W K hB hD hK
        have HK := Lib.hid hK
        have e18 : vs 18 = .bool true := dep_of hD 18 (by rfl)
        clear hK hD ho
        dsimp only
        go_simp
        have h := HK.out _ _ (Below.refl _ _) rfl
        simp only [upd, Nat.reduceEqDiff, reduceIte, e18] at h
        exact h
    | 20, ho =>
        obtain rfl := Option.some.inj ho
        intro vs W K hB hD hK
        have HK := Lib.hid hK
        have e19 : vs 19 = .bool true := dep_of hD 19 (by rfl)
        clear hK hD ho
        dsimp only
        go_simp
        have h := HK.out _ _ (Below.refl _ _) rfl
        simp only [upd, Nat.reduceEqDiff, reduceIte, e19] at h
        exact h
    | 21, ho =>
        obtain rfl := Option.some.inj ho
        intro vs W K hB hD hK
        have HK := Lib.hid hK
        have e19 : vs 19 = .bool true := dep_of hD 19 (by rfl)
        clear hK hD ho
        dsimp only
        go_simp
        have h := HK.out _ _ (Below.refl _ _) rfl
        simp only [upd, Nat.reduceEqDiff, reduceIte, e19] at h
        exact h
    | 22, ho =>
        obtain rfl := Option.some.inj ho
        intro vs W K hB hD hK
        have HK := Lib.hid hK
        have e19 : vs 19 = .bool true := dep_of hD 19 (by rfl)
        clear hK hD ho
        dsimp only
        go_simp
        have h := HK.out _ _ (Below.refl _ _) rfl
        simp only [upd, Nat.reduceEqDiff, reduceIte, e19] at h
        exact h
    | q + 23, ho => exact absurd ho (by simp)
  case fin =>
    intro vs W hB hall
    have e22 : vs 22 = .bool true := hall 22 (by decide)
    obtain ⟨g1, g2, g3⟩ := HPG.out W hB
    have hB5 := HB1.out W hB
    clear hall hB
    rw [e22]
    clear e22
    have c0 : W.cell? ⟨w.heap.size + 1 + 1, 0, none⟩ = some (.slice none 0 0) := cell_of_row _ _ 0 _ _ _ g1
    have c1 : W.cell? ⟨w.heap.size + 1 + 1, 1, none⟩ = some (.slice none 0 0) := cell_of_row _ _ 1 _ _ _ g1
    have c2 : W.cell? ⟨w.heap.size + 1 + 1, 2, none⟩ = some (.slice none 0 0) := cell_of_row _ _ 2 _ _ _ g1
    have c3 : W.cell? ⟨w.heap.size + 1 + 1 + 1, 0, none⟩ = some (.slice none 0 0) := cell_of_row _ _ 0 _ _ _ g2
    have c4 : W.cell? ⟨w.heap.size + 1 + 1 + 1 + 1, 0, none⟩ = some (.int .i64 0) := cell_of_row _ _ 0 _ _ _ g3
    have f0 := frozen_of_row _ _ 0 _ _ g1
    have f1 := frozen_of_row _ _ 1 _ _ g1
    have f2 := frozen_of_row _ _ 2 _ _ g1
    have f3 := frozen_of_row _ _ 0 _ _ g2
    have f4 := frozen_of_row _ _ 0 _ _ g3
    go_wp2
    have s1 : (((((W.setCell ⟨w.heap.size + 1 + 1, 0, none⟩ (.slice none 0 0)).setCell ⟨w.heap.size + 1 + 1, 1, none⟩ (.slice none 0 0)).setCell ⟨w.heap.size + 1 + 1, 2, none⟩ (.slice none 0 0)).setCell ⟨w.heap.size + 1 + 1 + 1, 0, none⟩ (.slice none 0 0)).setCell ⟨w.heap.size + 1 + 1 + 1 + 1, 0, none⟩ (.int .i64 1)).heap[w.heap.size + 1 + 1]? = some (.cells #[.slice none 0 0, .slice none 0 0, .slice none 0 0] 28 (0, 0)) :=
      (heap_setCell_other _ ⟨w.heap.size + 1 + 1 + 1 + 1, 0, none⟩ _ _ (by simp)).trans ((heap_setCell_other _ ⟨w.heap.size + 1 + 1 + 1, 0, none⟩ _ _ (by simp)).trans (three_set g1))
    have s2 : (((((W.setCell ⟨w.heap.size + 1 + 1, 0, none⟩ (.slice none 0 0)).setCell ⟨w.heap.size + 1 + 1, 1, none⟩ (.slice none 0 0)).setCell ⟨w.heap.size + 1 + 1, 2, none⟩ (.slice none 0 0)).setCell ⟨w.heap.size + 1 + 1 + 1, 0, none⟩ (.slice none 0 0)).setCell ⟨w.heap.size + 1 + 1 + 1 + 1, 0, none⟩ (.int .i64 1)).cell? ⟨w.heap.size + 1 + 1 + 1, 0, none⟩ = some (.slice none 0 0) := by
      first
        | go_simp
        | simp [go_sem, c3]
    have s3 : (((((W.setCell ⟨w.heap.size + 1 + 1, 0, none⟩ (.slice none 0 0)).setCell ⟨w.heap.size + 1 + 1, 1, none⟩ (.slice none 0 0)).setCell ⟨w.heap.size + 1 + 1, 2, none⟩ (.slice none 0 0)).setCell ⟨w.heap.size + 1 + 1 + 1, 0, none⟩ (.slice none 0 0)).setCell ⟨w.heap.size + 1 + 1 + 1 + 1, 0, none⟩ (.int .i64 1)).cell? ⟨w.heap.size + 1 + 1 + 1 + 1, 0, none⟩ = some (.int .i64 1) := by
      first
        | go_simp
        | simp [go_sem, c4]
    have s4 : Below w.heap.size w (((((W.setCell ⟨w.heap.size + 1 + 1, 0, none⟩ (.slice none 0 0)).setCell ⟨w.heap.size + 1 + 1, 1, none⟩ (.slice none 0 0)).setCell ⟨w.heap.size + 1 + 1, 2, none⟩ (.slice none 0 0)).setCell ⟨w.heap.size + 1 + 1 + 1, 0, none⟩ (.slice none 0 0)).setCell ⟨w.heap.size + 1 + 1 + 1 + 1, 0, none⟩ (.int .i64 1)) := ((((hB5.setCell (p := ⟨w.heap.size + 1 + 1, 0, none⟩) (by simp; omega) _).setCell (p := ⟨w.heap.size + 1 + 1, 1, none⟩) (by simp; omega) _).setCell (p := ⟨w.heap.size + 1 + 1, 2, none⟩) (by simp; omega) _).setCell (p := ⟨w.heap.size + 1 + 1 + 1, 0, none⟩) (by simp; omega) _).setCell (p := ⟨w.heap.size + 1 + 1 + 1 + 1, 0, none⟩) (by simp; omega) _
    clear c0 c1 c2 c3 c4 f0 f1 f2 f3 f4 g1 g2 g3
    generalize (((((W.setCell ⟨w.heap.size + 1 + 1, 0, none⟩ (.slice none 0 0)).setCell ⟨w.heap.size + 1 + 1, 1, none⟩ (.slice none 0 0)).setCell ⟨w.heap.size + 1 + 1, 2, none⟩ (.slice none 0 0)).setCell ⟨w.heap.size + 1 + 1 + 1, 0, none⟩ (.slice none 0 0)).setCell ⟨w.heap.size + 1 + 1 + 1 + 1, 0, none⟩ (.int .i64 1)) = w9 at *
    refine bodyPost_ret (results_cell3 (by rfl) _ _ ⟨w.heap.size + 1 + 1, 0, none⟩ ⟨w.heap.size + 1 + 1 + 1, 0, none⟩ ⟨w.heap.size + 1 + 1 + 1 + 1, 0, none⟩ (.agg #[.slice none 0 0, .slice none 0 0, .slice none 0 0]) (.slice none 0 0) (.int .i64 1) rfl rfl rfl (run_loadVar_row w9 _ _ _ _ _ _ s1 Tryd.underlying28 (by rfl) (by rfl)) (by go_simp) (by go_simp)) rfl ?_
    exact ⟨rfl, s4⟩

def G3 (w : World) (vl : Value) (a : Au) (l : List Sig) (ao2 ao3 : Option Addr) (n2 cap2 n3 cap3 : Nat) (most : Int) (ix : Nat) (u : Value) (_ : World) : Prop :=
  match ix with
  | 0 => u = vl
  | 1 => u = .bool true
  | 2 => u = .bool false
  | 3 => u = .bool false
  | 4 => u = .agg #[.int .i64 a.letters, .int .i64 a.start, .slice ao2 n2 cap2, .slice ao3 n3 cap3]
  | 5 => u = .bool true
  | 6 => u = .bool false
  | 7 => u = .bool false
  | 8 => u = .bool false
  | 9 => u = .pointer (some ⟨w.heap.size, 0, none⟩)
  | 10 => u = .int .i64 a.letters
  | 11 => u = vl
  | 12 => u = .int .i64 (lettersI l)
  | 13 => u = .bool false
  | 14 => u = .bool false
  | 15 => u = .bool false
  | 16 => u = .int .i64 most
  | 17 => u = .bool true
  | 18 => u = .bool true
  | 19 => u = .bool true
  | 20 => u = undef
  | 21 => u = undef
  | 22 => u = .bool true
  | _ => True

set_option maxRecDepth 100000 in
set_option maxHeartbeats 8000000 in
theorem Build_bad3 (w : World) (vl va : Value) (l : List Sig) (a : Au) (most : Int) (hK : Keys w) (hl : IsSigs w vl l) (ha : IsAuto w va a) (hv : validS l = true) (h1 : validA a = true) (h2 : (a.letters != lettersI l) = false) (h3 : decide (most < 1) = true) :
    Calls Tryd.prog 13 #[vl, va, .int .i64 most] w fun e w' => e = .returned (.tuple #[.agg #[.slice none 0 0, .slice none 0 0, .slice none 0 0], .slice none 0 0, .int .i64 1]) ∧ Below w.heap.size w w' := by
  have HS : Hid (∀ W, Below w.heap.size w W → Calls Tryd.prog 39 #[vl] W (Calm (.bool (validS l)) W)) := fun W h => by
    refine (SValid_c W _ l (hK.below h) (hl.below h)).mono ?_
    rintro e W' ⟨rfl, n, rfl⟩
    exact ⟨rfl, below_draws _ _ _⟩
  have HA : Hid (∀ W, Below w.heap.size w W → Calls Tryd.prog 36 #[va] W (Calm (.bool (validA a)) W)) := fun W h => PValid_c W _ a (ha.below h)
  have HLt : Hid (∀ W, Below w.heap.size w W → Calls Tryd.prog 37 #[vl] W (Calm (.int .i64 (lettersI l)) W)) := fun W h => Letters_c W _ l (hK.below h) (hl.below h)
  rw [hv] at HS
  rw [h1] at HA
  obtain ⟨ao, cap, b, off, rfl, -⟩ := hl
  obtain ⟨vv2, vv3, rfl, -, ⟨V2, ⟨ao2, cap2, b2, off2, rfl, -⟩, -⟩, ⟨V3, ⟨ao3, cap3, b3, off3, rfl, -⟩, -⟩⟩ := ha
  generalize a.next.length = n2 at *
  generalize a.prio.length = n3 at *
  obtain ⟨vl, hvl⟩ : ∃ vl, vl = Value.slice ao l.length cap := ⟨_, rfl⟩
  rw [← hvl] at HS HLt ⊢
  have hmx : Tryd.prog.follows .mixedOrders = true := by kernel_rfl
  clear hK hvl
  go_enter Tryd.func13, Tryd.ntmps13
  go_wp2
  have hbx : Below w.heap.size w (((((w.alloc (.cells #[.int .i64 a.letters, .int .i64 a.start, .slice ao2 n2 cap2, .slice ao3 n3 cap3] 25)).alloc (.cells #[.int .i64 most] 3)).alloc (.cells #[.slice none 0 0, .slice none 0 0, .slice none 0 0] 28)).alloc (.cells #[.slice none 0 0] 34)).alloc (.cells #[.int .i64 0] 35)) := (by repeat (first | exact Below.refl _ _ | assumption | (refine belA ?_ _) | (refine belD ?_ _)))
  have hpa : (((((w.alloc (.cells #[.int .i64 a.letters, .int .i64 a.start, .slice ao2 n2 cap2, .slice ao3 n3 cap3] 25)).alloc (.cells #[.int .i64 most] 3)).alloc (.cells #[.slice none 0 0, .slice none 0 0, .slice none 0 0] 28)).alloc (.cells #[.slice none 0 0] 34)).alloc (.cells #[.int .i64 0] 35)).heap[w.heap.size]? = some (.cells #[.int .i64 a.letters, .int .i64 a.start, .slice ao2 n2 cap2, .slice ao3 n3 cap3] 25 (0, 0)) := (by (repeat (rw [alloc_get]; first | rw [if_pos (by first | (simp; done) | (simp; omega))] | rw [if_neg (by first | (simp; done) | (simp; omega))])); (try rfl))
  have hpm : (((((w.alloc (.cells #[.int .i64 a.letters, .int .i64 a.start, .slice ao2 n2 cap2, .slice ao3 n3 cap3] 25)).alloc (.cells #[.int .i64 most] 3)).alloc (.cells #[.slice none 0 0, .slice none 0 0, .slice none 0 0] 28)).alloc (.cells #[.slice none 0 0] 34)).alloc (.cells #[.int .i64 0] 35)).heap[w.heap.size + 1]? = some (.cells #[.int .i64 most] 3 (0, 0)) := (by (repeat (rw [alloc_get]; first | rw [if_pos (by first | (simp; done) | (simp; omega))] | rw [if_neg (by first | (simp; done) | (simp; omega))])); (try rfl))
  have hpg : (((((w.alloc (.cells #[.int .i64 a.letters, .int .i64 a.start, .slice ao2 n2 cap2, .slice ao3 n3 cap3] 25)).alloc (.cells #[.int .i64 most] 3)).alloc (.cells #[.slice none 0 0, .slice none 0 0, .slice none 0 0] 28)).alloc (.cells #[.slice none 0 0] 34)).alloc (.cells #[.int .i64 0] 35)).heap[w.heap.size + 1 + 1]? = some (.cells #[.slice none 0 0, .slice none 0 0, .slice none 0 0] 28 (0, 0)) := (by (repeat (rw [alloc_get]; first | rw [if_pos (by first | (simp; done) | (simp; omega))] | rw [if_neg (by first | (simp; done) | (simp; omega))])); (try rfl))
  have hpp : (((((w.alloc (.cells #[.int .i64 a.letters, .int .i64 a.start, .slice ao2 n2 cap2, .slice ao3 n3 cap3] 25)).alloc (.cells #[.int .i64 most] 3)).alloc (.cells #[.slice none 0 0, .slice none 0 0, .slice none 0 0] 28)).alloc (.cells #[.slice none 0 0] 34)).alloc (.cells #[.int .i64 0] 35)).heap[w.heap.size + 1 + 1 + 1]? = some (.cells #[.slice none 0 0] 34 (0, 0)) := (by (repeat (rw [alloc_get]; first | rw [if_pos (by first | (simp; done) | (simp; omega))] | rw [if_neg (by first | (simp; done) | (simp; omega))])); (try rfl))
  have hpe : (((((w.alloc (.cells #[.int .i64 a.letters, .int .i64 a.start, .slice ao2 n2 cap2, .slice ao3 n3 cap3] 25)).alloc (.cells #[.int .i64 most] 3)).alloc (.cells #[.slice none 0 0, .slice none 0 0, .slice none 0 0] 28)).alloc (.cells #[.slice none 0 0] 34)).alloc (.cells #[.int .i64 0] 35)).heap[w.heap.size + 1 + 1 + 1 + 1]? = some (.cells #[.int .i64 0] 35 (0, 0)) := (by (repeat (rw [alloc_get]; first | rw [if_pos (by first | (simp; done) | (simp; omega))] | rw [if_neg (by first | (simp; done) | (simp; omega))])); (try rfl))
  generalize (((((w.alloc (.cells #[.int .i64 a.letters, .int .i64 a.start, .slice ao2 n2 cap2, .slice ao3 n3 cap3] 25)).alloc (.cells #[.int .i64 most] 3)).alloc (.cells #[.slice none 0 0, .slice none 0 0, .slice none 0 0] 28)).alloc (.cells #[.slice none 0 0] 34)).alloc (.cells #[.int .i64 0] 35)) = w5 at *
  have hsz := (Array.getElem?_eq_some_iff.1 hpe).1
  have HB1 : Hid (∀ W, Below w5.drew.heap.size w5.drew W → Below w.heap.size w W) := fun W h => hbx.trans (((Below.drew (Below.refl _ _)).trans h).mono hbx.size)
  have HPX : Hid (∀ W, Below w5.drew.heap.size w5.drew W → Below w5.heap.size w5 W) := fun W h => (Below.drew (B := w5.heap.size) (Below.refl _ _)).trans h
  have HPA : Hid (∀ W, Below w5.drew.heap.size w5.drew W → W.cell? ⟨w.heap.size, 0, none⟩ = some (.int .i64 a.letters) ∧ W.cell? ⟨w.heap.size, 1, none⟩ = some (.int .i64 a.start) ∧ W.cell? ⟨w.heap.size, 2, none⟩ = some (.slice ao2 n2 cap2) ∧ W.cell? ⟨w.heap.size, 3, none⟩ = some (.slice ao3 n3 cap3)) := fun W h => by
    have k := ((HPX.out W h).block _ (by omega)).trans hpa
    exact ⟨cell_of_row _ _ 0 _ _ _ k, cell_of_row _ _ 1 _ _ _ k, cell_of_row _ _ 2 _ _ _ k, cell_of_row _ _ 3 _ _ _ k⟩
  have HPM : Hid (∀ W, Below w5.drew.heap.size w5.drew W → W.cell? ⟨w.heap.size + 1, 0, none⟩ = some (.int .i64 most)) := fun W h => cell_of_row W (w.heap.size + 1) 0 _ _ _ (((HPX.out W h).block _ (by omega)).trans hpm)
  have HPG : Hid (∀ W, Below w5.drew.heap.size w5.drew W → W.heap[w.heap.size + 1 + 1]? = some (.cells #[.slice none 0 0, .slice none 0 0, .slice none 0 0] 28 (0, 0)) ∧ W.heap[w.heap.size + 1 + 1 + 1]? = some (.cells #[.slice none 0 0] 34 (0, 0)) ∧ W.heap[w.heap.size + 1 + 1 + 1 + 1]? = some (.cells #[.int .i64 0] 35 (0, 0))) := fun W h => ⟨((HPX.out W h).block _ (by omega)).trans hpg, ((HPX.out W h).block _ (by omega)).trans hpp, ((HPX.out W h).block _ (by omega)).trans hpe⟩
  clear hpa hpm hpg hpp hpe hbx
  refine region_stable hmx (G3 w vl a l ao2 ao3 n2 cap2 n3 cap3 most) (fun vs => { tmps := (_ :: _ :: _ :: _ :: _ :: _ :: _ :: _ :: _ :: _ :: _ :: _ :: _ :: _ :: _ :: _ :: _ :: _ :: _ :: _ :: _ :: vs 0 :: vs 1 :: vs 2 :: vs 3 :: vs 4 :: vs 5 :: vs 6 :: vs 7 :: vs 8 :: vs 9 :: vs 10 :: vs 11 :: vs 12 :: vs 13 :: vs 14 :: vs 15 :: vs 16 :: vs 17 :: vs 18 :: vs 19 :: vs 20 :: vs 21 :: vs 22 :: _ :: _ :: _ :: _ :: _ :: _ :: _ :: _ :: _ :: _ :: _ :: _ :: _ :: _ :: _ :: _ :: _ :: _ :: _ :: _ :: _ :: _ :: _ :: _ :: _ :: _ :: _ :: _ :: _ :: _ :: _ :: _ :: _ :: _ :: _ :: _ :: _ :: _ :: _ :: _ :: _ :: _ :: _ :: _ :: _ :: _ :: _ :: _ :: _ :: _ :: _ :: _ :: _ :: _ :: _ :: _ :: _ :: _ :: _ :: _ :: _ :: _ :: _ :: _ :: _ :: _ :: _ :: _ :: _ :: _ :: _ :: _ :: _ :: _ :: _ :: _ :: _ :: _ :: _ :: _ :: _ :: []).toArray, defers := [] }) (fun _ => undef) rfl (by kernel_rfl) (fun _ _ _ _ h _ => h) ?step ?fin
  case step =>
    intro ix o ho
    match ix, ho with
    | 0, ho =>
        obtain rfl := Option.some.inj ho
        intro vs W K hB hD hK
        have HK := Lib.hid hK
        clear hK hD ho
        dsimp only
        go_simp
        have h := HK.out _ _ (Below.refl _ _) rfl
        simp only [upd, Nat.reduceEqDiff, reduceIte] at h
        exact h
    | 1, ho =>
        obtain rfl := Option.some.inj ho
        intro vs W K hB hD hK
        have HK := Lib.hid hK
        have e0 : vs 0 = vl := dep_of hD 0 (by rfl)
        clear hK hD ho
        dsimp only
        go_simp
        refine (HS.out W (HB1.out W hB)).mono ?_
        rintro e W' ⟨rfl, hb⟩
        have h := HK.out _ _ hb rfl
        simp only [upd, Nat.reduceEqDiff, reduceIte, e0] at h
        exact h
    | 2, ho =>
        obtain rfl := Option.some.inj ho
        intro vs W K hB hD hK
        have HK := Lib.hid hK
        have e1 : vs 1 = .bool true := dep_of hD 1 (by rfl)
        clear hK hD ho
        dsimp only
        go_simp
        have h := HK.out _ _ (Below.refl _ _) rfl
        simp only [upd, Nat.reduceEqDiff, reduceIte, e1] at h
        exact h
    | 3, ho =>
        obtain rfl := Option.some.inj ho
        intro vs W K hB hD hK
        have HK := Lib.hid hK
        have e2 : vs 2 = .bool false := dep_of hD 2 (by rfl)
        clear hK hD ho
        dsimp only
        go_simp
        have h := HK.out _ _ (Below.refl _ _) rfl
        simp only [upd, Nat.reduceEqDiff, reduceIte, e2] at h
        exact h
    | 4, ho =>
        obtain rfl := Option.some.inj ho
        intro vs W K hB hD hK
        have HK := Lib.hid hK
        have e3 : vs 3 = .bool false := dep_of hD 3 (by rfl)
        obtain ⟨d0, d1, d2, d3⟩ := HPA.out W hB
        clear hK hD ho
        dsimp only
        go_simp
        have h := HK.out _ _ (Below.refl _ _) rfl
        simp only [upd, Nat.reduceEqDiff, reduceIte, e3] at h
        exact h
    | 5, ho =>
        obtain rfl := Option.some.inj ho
        intro vs W K hB hD hK
        have HK := Lib.hid hK
        have e3 : vs 3 = .bool false := dep_of hD 3 (by rfl)
        have e4 : vs 4 = .agg #[.int .i64 a.letters, .int .i64 a.start, .slice ao2 n2 cap2, .slice ao3 n3 cap3] := dep_of hD 4 (by rfl)
        clear hK hD ho
        dsimp only
        go_simp
        refine (HA.out W (HB1.out W hB)).mono ?_
        rintro e W' ⟨rfl, hb⟩
        have h := HK.out _ _ hb rfl
        simp only [upd, Nat.reduceEqDiff, reduceIte, e3, e4] at h
        exact h
    | 6, ho =>
        obtain rfl := Option.some.inj ho
        intro vs W K hB hD hK
        have HK := Lib.hid hK
        have e3 : vs 3 = .bool false := dep_of hD 3 (by rfl)
        have e5 : vs 5 = .bool true := dep_of hD 5 (by rfl)
        clear hK hD ho
        dsimp only
        go_simp
        have h := HK.out _ _ (Below.refl _ _) rfl
        simp only [upd, Nat.reduceEqDiff, reduceIte, e3, e5] at h
        exact h
    | 7, ho =>
        obtain rfl := Option.some.inj ho
        intro vs W K hB hD hK
        have HK := Lib.hid hK
        have e3 : vs 3 = .bool false := dep_of hD 3 (by rfl)
        have e6 : vs 6 = .bool false := dep_of hD 6 (by rfl)
        clear hK hD ho
        dsimp only
        go_simp
        have h := HK.out _ _ (Below.refl _ _) rfl
        simp only [upd, Nat.reduceEqDiff, reduceIte, e3, e6] at h
        exact h
    | 8, ho =>
        obtain rfl := Option.some.inj ho
        intro vs W K hB hD hK
        have HK := Lib.hid hK
        have e7 : vs 7 = .bool false := dep_of hD 7 (by rfl)
        clear hK hD ho
        dsimp only
        go_simp
        have h := HK.out _ _ (Below.refl _ _) rfl
        simp only [upd, Nat.reduceEqDiff, reduceIte, e7] at h
        exact h
    | 9, ho =>
        obtain rfl := Option.some.inj ho
        intro vs W K hB hD hK
        have HK := Lib.hid hK
        have e8 : vs 8 = .bool false := dep_of hD 8 (by rfl)
        clear hK hD ho
        dsimp only
        go_simp
        have h := HK.out _ _ (Below.refl _ _) rfl
        simp only [upd, Nat.reduceEqDiff, reduceIte, e8] at h
        exact h
    | 10, ho =>
        obtain rfl := Option.some.inj ho
        intro vs W K hB hD hK
        have HK := Lib.hid hK
        have e8 : vs 8 = .bool false := dep_of hD 8 (by rfl)
        have e9 : vs 9 = .pointer (some ⟨w.heap.size, 0, none⟩) := dep_of hD 9 (by rfl)
        obtain ⟨d0, d1, d2, d3⟩ := HPA.out W hB
        clear hK hD ho
        dsimp only
        go_simp
        have h := HK.out _ _ (Below.refl _ _) rfl
        simp only [upd, Nat.reduceEqDiff, reduceIte, e8, e9] at h
        exact h
    | 11, ho =>
        obtain rfl := Option.some.inj ho
        intro vs W K hB hD hK
        have HK := Lib.hid hK
        have e8 : vs 8 = .bool false := dep_of hD 8 (by rfl)
        clear hK hD ho
        dsimp only
        go_simp
        have h := HK.out _ _ (Below.refl _ _) rfl
        simp only [upd, Nat.reduceEqDiff, reduceIte, e8] at h
        exact h
    | 12, ho =>
        obtain rfl := Option.some.inj ho
        intro vs W K hB hD hK
        have HK := Lib.hid hK
        have e8 : vs 8 = .bool false := dep_of hD 8 (by rfl)
        have e11 : vs 11 = vl := dep_of hD 11 (by rfl)
        clear hK hD ho
        dsimp only
        go_simp
        refine (HLt.out W (HB1.out W hB)).mono ?_
        rintro e W' ⟨rfl, hb⟩
        have h := HK.out _ _ hb rfl
        simp only [upd, Nat.reduceEqDiff, reduceIte, e8, e11] at h
        exact h
    | 13, ho =>
        obtain rfl := Option.some.inj ho
        intro vs W K hB hD hK
        have HK := Lib.hid hK
        have e8 : vs 8 = .bool false := dep_of hD 8 (by rfl)
        have e10 : vs 10 = .int .i64 a.letters := dep_of hD 10 (by rfl)
        have e12 : vs 12 = .int .i64 (lettersI l) := dep_of hD 12 (by rfl)
        clear hK hD ho
        dsimp only
        go_simp
        have h := HK.out _ _ (Below.refl _ _) rfl
        simp only [upd, Nat.reduceEqDiff, reduceIte, e8, e10, e12] at h
        exact h
    | 14, ho =>
        obtain rfl := Option.some.inj ho
        intro vs W K hB hD hK
        have HK := Lib.hid hK
        have e8 : vs 8 = .bool false := dep_of hD 8 (by rfl)
        have e13 : vs 13 = .bool false := dep_of hD 13 (by rfl)
        clear hK hD ho
        dsimp only
        go_simp
        have h := HK.out _ _ (Below.refl _ _) rfl
        simp only [upd, Nat.reduceEqDiff, reduceIte, e8, e13] at h
        exact h
    | 15, ho =>
        obtain rfl := Option.some.inj ho
        intro vs W K hB hD hK
        have HK := Lib.hid hK
        have e14 : vs 14 = .bool false := dep_of hD 14 (by rfl)
        clear hK hD ho
        dsimp only
        go_simp
        have h := HK.out _ _ (Below.refl _ _) rfl
        simp only [upd, Nat.reduceEqDiff, reduceIte, e14] at h
        exact h
    | 16, ho =>
        obtain rfl := Option.some.inj ho
        intro vs W K hB hD hK
        have HK := Lib.hid hK
        have e15 : vs 15 = .bool false := dep_of hD 15 (by rfl)
        have d5 := HPM.out W hB
        clear hK hD ho
        dsimp only
        go_simp
        have h := HK.out _ _ (Below.refl _ _) rfl
        simp only [upd, Nat.reduceEqDiff, reduceIte, e15] at h
        exact h
    | 17, ho =>
        obtain rfl := Option.some.inj ho
        intro vs W K hB hD hK
        have HK := Lib.hid hK
        have e15 : vs 15 = .bool false := dep_of hD 15 (by rfl)
        have e16 : vs 16 = .int .i64 most := dep_of hD 16 (by rfl)
        clear hK hD ho
        dsimp only
        go_simp
        have h := HK.out _ _ (Below.refl _ _) rfl
        simp only [upd, Nat.reduceEqDiff, reduceIte, e15, e16] at h
        exact h
    | 18, ho =>
        obtain rfl := Option.some.inj ho
        intro vs W K hB hD hK
        have HK := Lib.hid hK
        have e15 : vs 15 = .bool false := dep_of hD 15 (by rfl)
        have e17 : vs 17 = .bool true := dep_of hD 17 (by rfl)
        clear hK hD ho
        dsimp only
        go_simp
        have h := HK.out _ _ (Below.refl _ _) rfl
        simp only [upd, Nat.reduceEqDiff, reduceIte, e15, e17] at h
        exact h
    | 19, ho =>
        obtain rfl := Option.some.inj ho
        intro vs W K hB hD hK
        have HK := Lib.hid hK
        have e18 : vs 18 = .bool true := dep_of hD 18 (by rfl)
        clear hK hD ho
        dsimp only
        go_simp
        have h := HK.out _ _ (Below.refl _ _) rfl
        simp only [upd, Nat.reduceEqDiff, reduceIte, e18] at h
        exact h
    | 20, ho =>
        obtain rfl := Option.some.inj ho
        intro vs W K hB hD hK
        have HK := Lib.hid hK
        have e19 : vs 19 = .bool true := dep_of hD 19 (by rfl)
        clear hK hD ho
        dsimp only
        go_simp
        have h := HK.out _ _ (Below.refl _ _) rfl
        simp only [upd, Nat.reduceEqDiff, reduceIte, e19] at h
        exact h
    | 21, ho =>
        obtain rfl := Option.some.inj ho
        intro vs W K hB hD hK
        have HK := Lib.hid hK
        have e19 : vs 19 = .bool true := dep_of hD 19 (by rfl)
        clear hK hD ho
        dsimp only
        go_simp
        have h := HK.out _ _ (Below.refl _ _) rfl
        simp only [upd, Nat.reduceEqDiff, reduceIte, e19] at h
        exact h
    | 22, ho =>
        obtain rfl := Option.some.inj ho
        intro vs W K hB hD hK
        have HK := Lib.hid hK
        have e19 : vs 19 = .bool true := dep_of hD 19 (by rfl)
        clear hK hD ho
        dsimp only
        go_simp
        have h := HK.out _ _ (Below.refl _ _) rfl
        simp only [upd, Nat.reduceEqDiff, reduceIte, e19] at h
        exact h
    | q + 23, ho => exact absurd ho (by simp)
  case fin =>
    intro vs W hB hall
    have e22 : vs 22 = .bool true := hall 22 (by decide)
    obtain ⟨g1, g2, g3⟩ := HPG.out W hB
    have hB5 := HB1.out W hB
    clear hall hB
    rw [e22]
    clear e22
    have c0 : W.cell? ⟨w.heap.size + 1 + 1, 0, none⟩ = some (.slice none 0 0) := cell_of_row _ _ 0 _ _ _ g1
    have c1 : W.cell? ⟨w.heap.size + 1 + 1, 1, none⟩ = some (.slice none 0 0) := cell_of_row _ _ 1 _ _ _ g1
    have c2 : W.cell? ⟨w.heap.size + 1 + 1, 2, none⟩ = some (.slice none 0 0) := cell_of_row _ _ 2 _ _ _ g1
    have c3 : W.cell? ⟨w.heap.size + 1 + 1 + 1, 0, none⟩ = some (.slice none 0 0) := cell_of_row _ _ 0 _ _ _ g2
    have c4 : W.cell? ⟨w.heap.size + 1 + 1 + 1 + 1, 0, none⟩ = some (.int .i64 0) := cell_of_row _ _ 0 _ _ _ g3
    have f0 := frozen_of_row _ _ 0 _ _ g1
    have f1 := frozen_of_row _ _ 1 _ _ g1
    have f2 := frozen_of_row _ _ 2 _ _ g1
    have f3 := frozen_of_row _ _ 0 _ _ g2
    have f4 := frozen_of_row _ _ 0 _ _ g3
    go_wp2
    have s1 : (((((W.setCell ⟨w.heap.size + 1 + 1, 0, none⟩ (.slice none 0 0)).setCell ⟨w.heap.size + 1 + 1, 1, none⟩ (.slice none 0 0)).setCell ⟨w.heap.size + 1 + 1, 2, none⟩ (.slice none 0 0)).setCell ⟨w.heap.size + 1 + 1 + 1, 0, none⟩ (.slice none 0 0)).setCell ⟨w.heap.size + 1 + 1 + 1 + 1, 0, none⟩ (.int .i64 1)).heap[w.heap.size + 1 + 1]? = some (.cells #[.slice none 0 0, .slice none 0 0, .slice none 0 0] 28 (0, 0)) :=
      (heap_setCell_other _ ⟨w.heap.size + 1 + 1 + 1 + 1, 0, none⟩ _ _ (by simp)).trans ((heap_setCell_other _ ⟨w.heap.size + 1 + 1 + 1, 0, none⟩ _ _ (by simp)).trans (three_set g1))
    have s2 : (((((W.setCell ⟨w.heap.size + 1 + 1, 0, none⟩ (.slice none 0 0)).setCell ⟨w.heap.size + 1 + 1, 1, none⟩ (.slice none 0 0)).setCell ⟨w.heap.size + 1 + 1, 2, none⟩ (.slice none 0 0)).setCell ⟨w.heap.size + 1 + 1 + 1, 0, none⟩ (.slice none 0 0)).setCell ⟨w.heap.size + 1 + 1 + 1 + 1, 0, none⟩ (.int .i64 1)).cell? ⟨w.heap.size + 1 + 1 + 1, 0, none⟩ = some (.slice none 0 0) := by
      first
        | go_simp
        | simp [go_sem, c3]
    have s3 : (((((W.setCell ⟨w.heap.size + 1 + 1, 0, none⟩ (.slice none 0 0)).setCell ⟨w.heap.size + 1 + 1, 1, none⟩ (.slice none 0 0)).setCell ⟨w.heap.size + 1 + 1, 2, none⟩ (.slice none 0 0)).setCell ⟨w.heap.size + 1 + 1 + 1, 0, none⟩ (.slice none 0 0)).setCell ⟨w.heap.size + 1 + 1 + 1 + 1, 0, none⟩ (.int .i64 1)).cell? ⟨w.heap.size + 1 + 1 + 1 + 1, 0, none⟩ = some (.int .i64 1) := by
      first
        | go_simp
        | simp [go_sem, c4]
    have s4 : Below w.heap.size w (((((W.setCell ⟨w.heap.size + 1 + 1, 0, none⟩ (.slice none 0 0)).setCell ⟨w.heap.size + 1 + 1, 1, none⟩ (.slice none 0 0)).setCell ⟨w.heap.size + 1 + 1, 2, none⟩ (.slice none 0 0)).setCell ⟨w.heap.size + 1 + 1 + 1, 0, none⟩ (.slice none 0 0)).setCell ⟨w.heap.size + 1 + 1 + 1 + 1, 0, none⟩ (.int .i64 1)) := ((((hB5.setCell (p := ⟨w.heap.size + 1 + 1, 0, none⟩) (by simp; omega) _).setCell (p := ⟨w.heap.size + 1 + 1, 1, none⟩) (by simp; omega) _).setCell (p := ⟨w.heap.size + 1 + 1, 2, none⟩) (by simp; omega) _).setCell (p := ⟨w.heap.size + 1 + 1 + 1, 0, none⟩) (by simp; omega) _).setCell (p := ⟨w.heap.size + 1 + 1 + 1 + 1, 0, none⟩) (by simp; omega) _
    clear c0 c1 c2 c3 c4 f0 f1 f2 f3 f4 g1 g2 g3
    generalize (((((W.setCell ⟨w.heap.size + 1 + 1, 0, none⟩ (.slice none 0 0)).setCell ⟨w.heap.size + 1 + 1, 1, none⟩ (.slice none 0 0)).setCell ⟨w.heap.size + 1 + 1, 2, none⟩ (.slice none 0 0)).setCell ⟨w.heap.size + 1 + 1 + 1, 0, none⟩ (.slice none 0 0)).setCell ⟨w.heap.size + 1 + 1 + 1 + 1, 0, none⟩ (.int .i64 1)) = w9 at *
    refine bodyPost_ret (results_cell3 (by rfl) _ _ ⟨w.heap.size + 1 + 1, 0, none⟩ ⟨w.heap.size + 1 + 1 + 1, 0, none⟩ ⟨w.heap.size + 1 + 1 + 1 + 1, 0, none⟩ (.agg #[.slice none 0 0, .slice none 0 0, .slice none 0 0]) (.slice none 0 0) (.int .i64 1) rfl rfl rfl (run_loadVar_row w9 _ _ _ _ _ _ s1 Tryd.underlying28 (by rfl) (by rfl)) (by go_simp) (by go_simp)) rfl ?_
    exact ⟨rfl, s4⟩

def G4 (w : World) (vl : Value) (a : Au) (l : List Sig) (ao2 ao3 : Option Addr) (n2 cap2 n3 cap3 : Nat) (most : Int) (ix : Nat) (u : Value) (_ : World) : Prop :=
  match ix with
  | 0 => u = vl
  | 1 => u = .bool true
  | 2 => u = .bool false
  | 3 => u = .bool false
  | 4 => u = .agg #[.int .i64 a.letters, .int .i64 a.start, .slice ao2 n2 cap2, .slice ao3 n3 cap3]
  | 5 => u = .bool true
  | 6 => u = .bool false
  | 7 => u = .bool false
  | 8 => u = .bool false
  | 9 => u = .pointer (some ⟨w.heap.size, 0, none⟩)
  | 10 => u = .int .i64 a.letters
  | 11 => u = vl
  | 12 => u = .int .i64 (lettersI l)
  | 13 => u = .bool false
  | 14 => u = .bool false
  | 15 => u = .bool false
  | 16 => u = .int .i64 most
  | 17 => u = .bool false
  | 18 => u = .bool false
  | 19 => u = .bool false
  | 20 => u = .int .i64 most
  | 21 => u = .bool true
  | 22 => u = .bool true
  | _ => True

set_option maxRecDepth 100000 in
set_option maxHeartbeats 8000000 in
theorem Build_bad4 (w : World) (vl va : Value) (l : List Sig) (a : Au) (most : Int) (hK : Keys w) (hl : IsSigs w vl l) (ha : IsAuto w va a) (hv : validS l = true) (h1 : validA a = true) (h2 : (a.letters != lettersI l) = false) (h3 : decide (most < 1) = false) (h4 : decide (3000 < most) = true) :
    Calls Tryd.prog 13 #[vl, va, .int .i64 most] w fun e w' => e = .returned (.tuple #[.agg #[.slice none 0 0, .slice none 0 0, .slice none 0 0], .slice none 0 0, .int .i64 1]) ∧ Below w.heap.size w w' := by
  have HS : Hid (∀ W, Below w.heap.size w W → Calls Tryd.prog 39 #[vl] W (Calm (.bool (validS l)) W)) := fun W h => by
    refine (SValid_c W _ l (hK.below h) (hl.below h)).mono ?_
    rintro e W' ⟨rfl, n, rfl⟩
    exact ⟨rfl, below_draws _ _ _⟩
  have HA : Hid (∀ W, Below w.heap.size w W → Calls Tryd.prog 36 #[va] W (Calm (.bool (validA a)) W)) := fun W h => PValid_c W _ a (ha.below h)
  have HLt : Hid (∀ W, Below w.heap.size w W → Calls Tryd.prog 37 #[vl] W (Calm (.int .i64 (lettersI l)) W)) := fun W h => Letters_c W _ l (hK.below h) (hl.below h)
  rw [hv] at HS
  rw [h1] at HA
  obtain ⟨ao, cap, b, off, rfl, -⟩ := hl
  obtain ⟨vv2, vv3, rfl, -, ⟨V2, ⟨ao2, cap2, b2, off2, rfl, -⟩, -⟩, ⟨V3, ⟨ao3, cap3, b3, off3, rfl, -⟩, -⟩⟩ := ha
  generalize a.next.length = n2 at *
  generalize a.prio.length = n3 at *
  obtain ⟨vl, hvl⟩ : ∃ vl, vl = Value.slice ao l.length cap := ⟨_, rfl⟩
  rw [← hvl] at HS HLt ⊢
  have hmx : Tryd.prog.follows .mixedOrders = true := by kernel_rfl
  clear hK hvl
  go_enter Tryd.func13, Tryd.ntmps13
  go_wp2
  have hbx : Below w.heap.size w (((((w.alloc (.cells #[.int .i64 a.letters, .int .i64 a.start, .slice ao2 n2 cap2, .slice ao3 n3 cap3] 25)).alloc (.cells #[.int .i64 most] 3)).alloc (.cells #[.slice none 0 0, .slice none 0 0, .slice none 0 0] 28)).alloc (.cells #[.slice none 0 0] 34)).alloc (.cells #[.int .i64 0] 35)) := (by repeat (first | exact Below.refl _ _ | assumption | (refine belA ?_ _) | (refine belD ?_ _)))
  have hpa : (((((w.alloc (.cells #[.int .i64 a.letters, .int .i64 a.start, .slice ao2 n2 cap2, .slice ao3 n3 cap3] 25)).alloc (.cells #[.int .i64 most] 3)).alloc (.cells #[.slice none 0 0, .slice none 0 0, .slice none 0 0] 28)).alloc (.cells #[.slice none 0 0] 34)).alloc (.cells #[.int .i64 0] 35)).heap[w.heap.size]? = some (.cells #[.int .i64 a.letters, .int .i64 a.start, .slice ao2 n2 cap2, .slice ao3 n3 cap3] 25 (0, 0)) := (by (repeat (rw [alloc_get]; first | rw [if_pos (by first | (simp; done) | (simp; omega))] | rw [if_neg (by first | (simp; done) | (simp; omega))])); (try rfl))
  have hpm : (((((w.alloc (.cells #[.int .i64 a.letters, .int .i64 a.start, .slice ao2 n2 cap2, .slice ao3 n3 cap3] 25)).alloc (.cells #[.int .i64 most] 3)).alloc (.cells #[.slice none 0 0, .slice none 0 0, .slice none 0 0] 28)).alloc (.cells #[.slice none 0 0] 34)).alloc (.cells #[.int .i64 0] 35)).heap[w.heap.size + 1]? = some (.cells #[.int .i64 most] 3 (0, 0)) := (by (repeat (rw [alloc_get]; first | rw [if_pos (by first | (simp; done) | (simp; omega))] | rw [if_neg (by first | (simp; done) | (simp; omega))])); (try rfl))
  have hpg : (((((w.alloc (.cells #[.int .i64 a.letters, .int .i64 a.start, .slice ao2 n2 cap2, .slice ao3 n3 cap3] 25)).alloc (.cells #[.int .i64 most] 3)).alloc (.cells #[.slice none 0 0, .slice none 0 0, .slice none 0 0] 28)).alloc (.cells #[.slice none 0 0] 34)).alloc (.cells #[.int .i64 0] 35)).heap[w.heap.size + 1 + 1]? = some (.cells #[.slice none 0 0, .slice none 0 0, .slice none 0 0] 28 (0, 0)) := (by (repeat (rw [alloc_get]; first | rw [if_pos (by first | (simp; done) | (simp; omega))] | rw [if_neg (by first | (simp; done) | (simp; omega))])); (try rfl))
  have hpp : (((((w.alloc (.cells #[.int .i64 a.letters, .int .i64 a.start, .slice ao2 n2 cap2, .slice ao3 n3 cap3] 25)).alloc (.cells #[.int .i64 most] 3)).alloc (.cells #[.slice none 0 0, .slice none 0 0, .slice none 0 0] 28)).alloc (.cells #[.slice none 0 0] 34)).alloc (.cells #[.int .i64 0] 35)).heap[w.heap.size + 1 + 1 + 1]? = some (.cells #[.slice none 0 0] 34 (0, 0)) := (by (repeat (rw [alloc_get]; first | rw [if_pos (by first | (simp; done) | (simp; omega))] | rw [if_neg (by first | (simp; done) | (simp; omega))])); (try rfl))
  have hpe : (((((w.alloc (.cells #[.int .i64 a.letters, .int .i64 a.start, .slice ao2 n2 cap2, .slice ao3 n3 cap3] 25)).alloc (.cells #[.int .i64 most] 3)).alloc (.cells #[.slice none 0 0, .slice none 0 0, .slice none 0 0] 28)).alloc (.cells #[.slice none 0 0] 34)).alloc (.cells #[.int .i64 0] 35)).heap[w.heap.size + 1 + 1 + 1 + 1]? = some (.cells #[.int .i64 0] 35 (0, 0)) := (by (repeat (rw [alloc_get]; first | rw [if_pos (by first | (simp; done) | (simp; omega))] | rw [if_neg (by first | (simp; done) | (simp; omega))])); (try rfl))
  generalize (((((w.alloc (.cells #[.int .i64 a.letters, .int .i64 a.start, .slice ao2 n2 cap2, .slice ao3 n3 cap3] 25)).alloc (.cells #[.int .i64 most] 3)).alloc (.cells #[.slice none 0 0, .slice none 0 0, .slice none 0 0] 28)).alloc (.cells #[.slice none 0 0] 34)).alloc (.cells #[.int .i64 0] 35)) = w5 at *
  have hsz := (Array.getElem?_eq_some_iff.1 hpe).1
  have HB1 : Hid (∀ W, Below w5.drew.heap.size w5.drew W → Below w.heap.size w W) := fun W h => hbx.trans (((Below.drew (Below.refl _ _)).trans h).mono hbx.size)
  have HPX : Hid (∀ W, Below w5.drew.heap.size w5.drew W → Below w5.heap.size w5 W) := fun W h => (Below.drew (B := w5.heap.size) (Below.refl _ _)).trans h
  have HPA : Hid (∀ W, Below w5.drew.heap.size w5.drew W → W.cell? ⟨w.heap.size, 0, none⟩ = some (.int .i64 a.letters) ∧ W.cell? ⟨w.heap.size, 1, none⟩ = some (.int .i64 a.start) ∧ W.cell? ⟨w.heap.size, 2, none⟩ = some (.slice ao2 n2 cap2) ∧ W.cell? ⟨w.heap.size, 3, none⟩ = some (.slice ao3 n3 cap3)) := fun W h => by
    have k := ((HPX.out W h).block _ (by omega)).trans hpa
    exact ⟨cell_of_row _ _ 0 _ _ _ k, cell_of_row _ _ 1 _ _ _ k, cell_of_row _ _ 2 _ _ _ k, cell_of_row _ _ 3 _ _ _ k⟩
  have HPM : Hid (∀ W, Below w5.drew.heap.size w5.drew W → W.cell? ⟨w.heap.size + 1, 0, none⟩ = some (.int .i64 most)) := fun W h => cell_of_row W (w.heap.size + 1) 0 _ _ _ (((HPX.out W h).block _ (by omega)).trans hpm)
  have HPG : Hid (∀ W, Below w5.drew.heap.size w5.drew W → W.heap[w.heap.size + 1 + 1]? = some (.cells #[.slice none 0 0, .slice none 0 0, .slice none 0 0] 28 (0, 0)) ∧ W.heap[w.heap.size + 1 + 1 + 1]? = some (.cells #[.slice none 0 0] 34 (0, 0)) ∧ W.heap[w.heap.size + 1 + 1 + 1 + 1]? = some (.cells #[.int .i64 0] 35 (0, 0))) := fun W h => ⟨((HPX.out W h).block _ (by omega)).trans hpg, ((HPX.out W h).block _ (by omega)).trans hpp, ((HPX.out W h).block _ (by omega)).trans hpe⟩
  clear hpa hpm hpg hpp hpe hbx
  refine region_stable hmx (G4 w vl a l ao2 ao3 n2 cap2 n3 cap3 most) (fun vs => { tmps := (_ :: _ :: _ :: _ :: _ :: _ :: _ :: _ :: _ :: _ :: _ :: _ :: _ :: _ :: _ :: _ :: _ :: _ :: _ :: _ :: _ :: vs 0 :: vs 1 :: vs 2 :: vs 3 :: vs 4 :: vs 5 :: vs 6 :: vs 7 :: vs 8 :: vs 9 :: vs 10 :: vs 11 :: vs 12 :: vs 13 :: vs 14 :: vs 15 :: vs 16 :: vs 17 :: vs 18 :: vs 19 :: vs 20 :: vs 21 :: vs 22 :: _ :: _ :: _ :: _ :: _ :: _ :: _ :: _ :: _ :: _ :: _ :: _ :: _ :: _ :: _ :: _ :: _ :: _ :: _ :: _ :: _ :: _ :: _ :: _ :: _ :: _ :: _ :: _ :: _ :: _ :: _ :: _ :: _ :: _ :: _ :: _ :: _ :: _ :: _ :: _ :: _ :: _ :: _ :: _ :: _ :: _ :: _ :: _ :: _ :: _ :: _ :: _ :: _ :: _ :: _ :: _ :: _ :: _ :: _ :: _ :: _ :: _ :: _ :: _ :: _ :: _ :: _ :: _ :: _ :: _ :: _ :: _ :: _ :: _ :: _ :: _ :: _ :: _ :: _ :: _ :: _ :: []).toArray, defers := [] }) (fun _ => undef) rfl (by kernel_rfl) (fun _ _ _ _ h _ => h) ?step ?fin
  case step =>
    intro ix o ho
    match ix, ho with
    | 0, ho =>
        obtain rfl := Option.some.inj ho
        intro vs W K hB hD hK
        have HK := Lib.hid hK
        clear hK hD ho
        dsimp only
        go_simp
        have h := HK.out _ _ (Below.refl _ _) rfl
        simp only [upd, Nat.reduceEqDiff, reduceIte] at h
        exact h
    | 1, ho =>
        obtain rfl := Option.some.inj ho
        intro vs W K hB hD hK
        have HK := Lib.hid hK
        have e0 : vs 0 = vl := dep_of hD 0 (by rfl)
        clear hK hD ho
        dsimp only
        go_simp
        refine (HS.out W (HB1.out W hB)).mono ?_
        rintro e W' ⟨rfl, hb⟩
        have h := HK.out _ _ hb rfl
        simp only [upd, Nat.reduceEqDiff, reduceIte, e0] at h
        exact h
    | 2, ho =>
        obtain rfl := Option.some.inj ho
        intro vs W K hB hD hK
        have HK := Lib.hid hK
        have e1 : vs 1 = .bool true := dep_of hD 1 (by rfl)
        clear hK hD ho
        dsimp only
        go_simp
        have h := HK.out _ _ (Below.refl _ _) rfl
        simp only [upd, Nat.reduceEqDiff, reduceIte, e1] at h
        exact h
    | 3, ho =>
        obtain rfl := Option.some.inj ho
        intro vs W K hB hD hK
        have HK := Lib.hid hK
        have e2 : vs 2 = .bool false := dep_of hD 2 (by rfl)
        clear hK hD ho
        dsimp only
        go_simp
        have h := HK.out _ _ (Below.refl _ _) rfl
        simp only [upd, Nat.reduceEqDiff, reduceIte, e2] at h
        exact h
    | 4, ho =>
        obtain rfl := Option.some.inj ho
        intro vs W K hB hD hK
        have HK := Lib.hid hK
        have e3 : vs 3 = .bool false := dep_of hD 3 (by rfl)
        obtain ⟨d0, d1, d2, d3⟩ := HPA.out W hB
        clear hK hD ho
        dsimp only
        go_simp
        have h := HK.out _ _ (Below.refl _ _) rfl
        simp only [upd, Nat.reduceEqDiff, reduceIte, e3] at h
        exact h
    | 5, ho =>
        obtain rfl := Option.some.inj ho
        intro vs W K hB hD hK
        have HK := Lib.hid hK
        have e3 : vs 3 = .bool false := dep_of hD 3 (by rfl)
        have e4 : vs 4 = .agg #[.int .i64 a.letters, .int .i64 a.start, .slice ao2 n2 cap2, .slice ao3 n3 cap3] := dep_of hD 4 (by rfl)
        clear hK hD ho
        dsimp only
        go_simp
        refine (HA.out W (HB1.out W hB)).mono ?_
        rintro e W' ⟨rfl, hb⟩
        have h := HK.out _ _ hb rfl
        simp only [upd, Nat.reduceEqDiff, reduceIte, e3, e4] at h
        exact h
    | 6, ho =>
        obtain rfl := Option.some.inj ho
        intro vs W K hB hD hK
        have HK := Lib.hid hK
        have e3 : vs 3 = .bool false := dep_of hD 3 (by rfl)
        have e5 : vs 5 = .bool true := dep_of hD 5 (by rfl)
        clear hK hD ho
        dsimp only
        go_simp
        have h := HK.out _ _ (Below.refl _ _) rfl
        simp only [upd, Nat.reduceEqDiff, reduceIte, e3, e5] at h
        exact h
    | 7, ho =>
        obtain rfl := Option.some.inj ho
        intro vs W K hB hD hK
        have HK := Lib.hid hK
        have e3 : vs 3 = .bool false := dep_of hD 3 (by rfl)
        have e6 : vs 6 = .bool false := dep_of hD 6 (by rfl)
        clear hK hD ho
        dsimp only
        go_simp
        have h := HK.out _ _ (Below.refl _ _) rfl
        simp only [upd, Nat.reduceEqDiff, reduceIte, e3, e6] at h
        exact h
    | 8, ho =>
        obtain rfl := Option.some.inj ho
        intro vs W K hB hD hK
        have HK := Lib.hid hK
        have e7 : vs 7 = .bool false := dep_of hD 7 (by rfl)
        clear hK hD ho
        dsimp only
        go_simp
        have h := HK.out _ _ (Below.refl _ _) rfl
        simp only [upd, Nat.reduceEqDiff, reduceIte, e7] at h
        exact h
    | 9, ho =>
        obtain rfl := Option.some.inj ho
        intro vs W K hB hD hK
        have HK := Lib.hid hK
        have e8 : vs 8 = .bool false := dep_of hD 8 (by rfl)
        clear hK hD ho
        dsimp only
        go_simp
        have h := HK.out _ _ (Below.refl _ _) rfl
        simp only [upd, Nat.reduceEqDiff, reduceIte, e8] at h
        exact h
    | 10, ho =>
        obtain rfl := Option.some.inj ho
        intro vs W K hB hD hK
        have HK := Lib.hid hK
        have e8 : vs 8 = .bool false := dep_of hD 8 (by rfl)
        have e9 : vs 9 = .pointer (some ⟨w.heap.size, 0, none⟩) := dep_of hD 9 (by rfl)
        obtain ⟨d0, d1, d2, d3⟩ := HPA.out W hB
        clear hK hD ho
        dsimp only
        go_simp
        have h := HK.out _ _ (Below.refl _ _) rfl
        simp only [upd, Nat.reduceEqDiff, reduceIte, e8, e9] at h
        exact h
    | 11, ho =>
        obtain rfl := Option.some.inj ho
        intro vs W K hB hD hK
        have HK := Lib.hid hK
        have e8 : vs 8 = .bool false := dep_of hD 8 (by rfl)
        clear hK hD ho
        dsimp only
        go_simp
        have h := HK.out _ _ (Below.refl _ _) rfl
        simp only [upd, Nat.reduceEqDiff, reduceIte, e8] at h
        exact h
    | 12, ho =>
        obtain rfl := Option.some.inj ho
        intro vs W K hB hD hK
        have HK := Lib.hid hK
        have e8 : vs 8 = .bool false := dep_of hD 8 (by rfl)
        have e11 : vs 11 = vl := dep_of hD 11 (by rfl)
        clear hK hD ho
        dsimp only
        go_simp
        refine (HLt.out W (HB1.out W hB)).mono ?_
        rintro e W' ⟨rfl, hb⟩
        have h := HK.out _ _ hb rfl
        simp only [upd, Nat.reduceEqDiff, reduceIte, e8, e11] at h
        exact h
    | 13, ho =>
        obtain rfl := Option.some.inj ho
        intro vs W K hB hD hK
        have HK := Lib.hid hK
        have e8 : vs 8 = .bool false := dep_of hD 8 (by rfl)
        have e10 : vs 10 = .int .i64 a.letters := dep_of hD 10 (by rfl)
        have e12 : vs 12 = .int .i64 (lettersI l) := dep_of hD 12 (by rfl)
        clear hK hD ho
        dsimp only
        go_simp
        have h := HK.out _ _ (Below.refl _ _) rfl
        simp only [upd, Nat.reduceEqDiff, reduceIte, e8, e10, e12] at h
        exact h
    | 14, ho =>
        obtain rfl := Option.some.inj ho
        intro vs W K hB hD hK
        have HK := Lib.hid hK
        have e8 : vs 8 = .bool false := dep_of hD 8 (by rfl)
        have e13 : vs 13 = .bool false := dep_of hD 13 (by rfl)
        clear hK hD ho
        dsimp only
        go_simp
        have h := HK.out _ _ (Below.refl _ _) rfl
        simp only [upd, Nat.reduceEqDiff, reduceIte, e8, e13] at h
        exact h
    | 15, ho =>
        obtain rfl := Option.some.inj ho
        intro vs W K hB hD hK
        have HK := Lib.hid hK
        have e14 : vs 14 = .bool false := dep_of hD 14 (by rfl)
        clear hK hD ho
        dsimp only
        go_simp
        have h := HK.out _ _ (Below.refl _ _) rfl
        simp only [upd, Nat.reduceEqDiff, reduceIte, e14] at h
        exact h
    | 16, ho =>
        obtain rfl := Option.some.inj ho
        intro vs W K hB hD hK
        have HK := Lib.hid hK
        have e15 : vs 15 = .bool false := dep_of hD 15 (by rfl)
        have d5 := HPM.out W hB
        clear hK hD ho
        dsimp only
        go_simp
        have h := HK.out _ _ (Below.refl _ _) rfl
        simp only [upd, Nat.reduceEqDiff, reduceIte, e15] at h
        exact h
    | 17, ho =>
        obtain rfl := Option.some.inj ho
        intro vs W K hB hD hK
        have HK := Lib.hid hK
        have e15 : vs 15 = .bool false := dep_of hD 15 (by rfl)
        have e16 : vs 16 = .int .i64 most := dep_of hD 16 (by rfl)
        clear hK hD ho
        dsimp only
        go_simp
        have h := HK.out _ _ (Below.refl _ _) rfl
        simp only [upd, Nat.reduceEqDiff, reduceIte, e15, e16] at h
        exact h
    | 18, ho =>
        obtain rfl := Option.some.inj ho
        intro vs W K hB hD hK
        have HK := Lib.hid hK
        have e15 : vs 15 = .bool false := dep_of hD 15 (by rfl)
        have e17 : vs 17 = .bool false := dep_of hD 17 (by rfl)
        clear hK hD ho
        dsimp only
        go_simp
        have h := HK.out _ _ (Below.refl _ _) rfl
        simp only [upd, Nat.reduceEqDiff, reduceIte, e15, e17] at h
        exact h
    | 19, ho =>
        obtain rfl := Option.some.inj ho
        intro vs W K hB hD hK
        have HK := Lib.hid hK
        have e18 : vs 18 = .bool false := dep_of hD 18 (by rfl)
        clear hK hD ho
        dsimp only
        go_simp
        have h := HK.out _ _ (Below.refl _ _) rfl
        simp only [upd, Nat.reduceEqDiff, reduceIte, e18] at h
        exact h
    | 20, ho =>
        obtain rfl := Option.some.inj ho
        intro vs W K hB hD hK
        have HK := Lib.hid hK
        have e19 : vs 19 = .bool false := dep_of hD 19 (by rfl)
        have d5 := HPM.out W hB
        clear hK hD ho
        dsimp only
        go_simp
        have h := HK.out _ _ (Below.refl _ _) rfl
        simp only [upd, Nat.reduceEqDiff, reduceIte, e19] at h
        exact h
    | 21, ho =>
        obtain rfl := Option.some.inj ho
        intro vs W K hB hD hK
        have HK := Lib.hid hK
        have e19 : vs 19 = .bool false := dep_of hD 19 (by rfl)
        have e20 : vs 20 = .int .i64 most := dep_of hD 20 (by rfl)
        clear hK hD ho
        dsimp only
        go_simp
        have h := HK.out _ _ (Below.refl _ _) rfl
        simp only [upd, Nat.reduceEqDiff, reduceIte, e19, e20] at h
        exact h
    | 22, ho =>
        obtain rfl := Option.some.inj ho
        intro vs W K hB hD hK
        have HK := Lib.hid hK
        have e19 : vs 19 = .bool false := dep_of hD 19 (by rfl)
        have e21 : vs 21 = .bool true := dep_of hD 21 (by rfl)
        clear hK hD ho
        dsimp only
        go_simp
        have h := HK.out _ _ (Below.refl _ _) rfl
        simp only [upd, Nat.reduceEqDiff, reduceIte, e19, e21] at h
        exact h
    | q + 23, ho => exact absurd ho (by simp)
  case fin =>
    intro vs W hB hall
    have e22 : vs 22 = .bool true := hall 22 (by decide)
    obtain ⟨g1, g2, g3⟩ := HPG.out W hB
    have hB5 := HB1.out W hB
    clear hall hB
    rw [e22]
    clear e22
    have c0 : W.cell? ⟨w.heap.size + 1 + 1, 0, none⟩ = some (.slice none 0 0) := cell_of_row _ _ 0 _ _ _ g1
    have c1 : W.cell? ⟨w.heap.size + 1 + 1, 1, none⟩ = some (.slice none 0 0) := cell_of_row _ _ 1 _ _ _ g1
    have c2 : W.cell? ⟨w.heap.size + 1 + 1, 2, none⟩ = some (.slice none 0 0) := cell_of_row _ _ 2 _ _ _ g1
    have c3 : W.cell? ⟨w.heap.size + 1 + 1 + 1, 0, none⟩ = some (.slice none 0 0) := cell_of_row _ _ 0 _ _ _ g2
    have c4 : W.cell? ⟨w.heap.size + 1 + 1 + 1 + 1, 0, none⟩ = some (.int .i64 0) := cell_of_row _ _ 0 _ _ _ g3
    have f0 := frozen_of_row _ _ 0 _ _ g1
    have f1 := frozen_of_row _ _ 1 _ _ g1
    have f2 := frozen_of_row _ _ 2 _ _ g1
    have f3 := frozen_of_row _ _ 0 _ _ g2
    have f4 := frozen_of_row _ _ 0 _ _ g3
    go_wp2
    have s1 : (((((W.setCell ⟨w.heap.size + 1 + 1, 0, none⟩ (.slice none 0 0)).setCell ⟨w.heap.size + 1 + 1, 1, none⟩ (.slice none 0 0)).setCell ⟨w.heap.size + 1 + 1, 2, none⟩ (.slice none 0 0)).setCell ⟨w.heap.size + 1 + 1 + 1, 0, none⟩ (.slice none 0 0)).setCell ⟨w.heap.size + 1 + 1 + 1 + 1, 0, none⟩ (.int .i64 1)).heap[w.heap.size + 1 + 1]? = some (.cells #[.slice none 0 0, .slice none 0 0, .slice none 0 0] 28 (0, 0)) :=
      (heap_setCell_other _ ⟨w.heap.size + 1 + 1 + 1 + 1, 0, none⟩ _ _ (by simp)).trans ((heap_setCell_other _ ⟨w.heap.size + 1 + 1 + 1, 0, none⟩ _ _ (by simp)).trans (three_set g1))
    have s2 : (((((W.setCell ⟨w.heap.size + 1 + 1, 0, none⟩ (.slice none 0 0)).setCell ⟨w.heap.size + 1 + 1, 1, none⟩ (.slice none 0 0)).setCell ⟨w.heap.size + 1 + 1, 2, none⟩ (.slice none 0 0)).setCell ⟨w.heap.size + 1 + 1 + 1, 0, none⟩ (.slice none 0 0)).setCell ⟨w.heap.size + 1 + 1 + 1 + 1, 0, none⟩ (.int .i64 1)).cell? ⟨w.heap.size + 1 + 1 + 1, 0, none⟩ = some (.slice none 0 0) := by
      first
        | go_simp
        | simp [go_sem, c3]
    have s3 : (((((W.setCell ⟨w.heap.size + 1 + 1, 0, none⟩ (.slice none 0 0)).setCell ⟨w.heap.size + 1 + 1, 1, none⟩ (.slice none 0 0)).setCell ⟨w.heap.size + 1 + 1, 2, none⟩ (.slice none 0 0)).setCell ⟨w.heap.size + 1 + 1 + 1, 0, none⟩ (.slice none 0 0)).setCell ⟨w.heap.size + 1 + 1 + 1 + 1, 0, none⟩ (.int .i64 1)).cell? ⟨w.heap.size + 1 + 1 + 1 + 1, 0, none⟩ = some (.int .i64 1) := by
      first
        | go_simp
        | simp [go_sem, c4]
    have s4 : Below w.heap.size w (((((W.setCell ⟨w.heap.size + 1 + 1, 0, none⟩ (.slice none 0 0)).setCell ⟨w.heap.size + 1 + 1, 1, none⟩ (.slice none 0 0)).setCell ⟨w.heap.size + 1 + 1, 2, none⟩ (.slice none 0 0)).setCell ⟨w.heap.size + 1 + 1 + 1, 0, none⟩ (.slice none 0 0)).setCell ⟨w.heap.size + 1 + 1 + 1 + 1, 0, none⟩ (.int .i64 1)) := ((((hB5.setCell (p := ⟨w.heap.size + 1 + 1, 0, none⟩) (by simp; omega) _).setCell (p := ⟨w.heap.size + 1 + 1, 1, none⟩) (by simp; omega) _).setCell (p := ⟨w.heap.size + 1 + 1, 2, none⟩) (by simp; omega) _).setCell (p := ⟨w.heap.size + 1 + 1 + 1, 0, none⟩) (by simp; omega) _).setCell (p := ⟨w.heap.size + 1 + 1 + 1 + 1, 0, none⟩) (by simp; omega) _
    clear c0 c1 c2 c3 c4 f0 f1 f2 f3 f4 g1 g2 g3
    generalize (((((W.setCell ⟨w.heap.size + 1 + 1, 0, none⟩ (.slice none 0 0)).setCell ⟨w.heap.size + 1 + 1, 1, none⟩ (.slice none 0 0)).setCell ⟨w.heap.size + 1 + 1, 2, none⟩ (.slice none 0 0)).setCell ⟨w.heap.size + 1 + 1 + 1, 0, none⟩ (.slice none 0 0)).setCell ⟨w.heap.size + 1 + 1 + 1 + 1, 0, none⟩ (.int .i64 1)) = w9 at *
    refine bodyPost_ret (results_cell3 (by rfl) _ _ ⟨w.heap.size + 1 + 1, 0, none⟩ ⟨w.heap.size + 1 + 1 + 1, 0, none⟩ ⟨w.heap.size + 1 + 1 + 1 + 1, 0, none⟩ (.agg #[.slice none 0 0, .slice none 0 0, .slice none 0 0]) (.slice none 0 0) (.int .i64 1) rfl rfl rfl (run_loadVar_row w9 _ _ _ _ _ _ s1 Tryd.underlying28 (by rfl) (by rfl)) (by go_simp) (by go_simp)) rfl ?_
    exact ⟨rfl, s4⟩

end Go.Proofs.YtjadeffdcbchnaaDoor
