/- The fixed examples of chapter 2: head. -/
import Derived.Test.YtgjpdnaeldpdeaaWdHd
import Derived.Test.YtgjpdnaeldpdeaaWd37
namespace Go.Proofs.Ytgjpdnaeldpdeaa
open Go.RowKit

/-- What the operations of head's second statement leave. -/
def R2 (i : Nat) (v : Value) (W : World) : Prop :=
  match i with
  | 0 => SL [1, 2] v W
  | 1 => SL [3, 2, 3, 2] v W
  | 2 => LV ⟨[1, 2], [3, 2, 3, 2]⟩ v W
  | 3 => LV exW v W
  | 4 => LV exW v W
  | 7 => LV exW v W
  | 8 => LV ⟨[], [3, 2]⟩ v W
  | 9 => SL [3, 2] v W
  | 10 => LV ⟨[], [3, 2]⟩ v W
  | 14 => SL [2, 3] v W
  | 15 => SL [2, 3] v W
  | 16 => LV ⟨[], [2, 3]⟩ v W
  | 17 => LV ⟨[], [2, 3]⟩ v W
  | 18 => SL [2, 3] v W
  | 19 => LV ⟨[], [2, 3]⟩ v W
  | 23 => LV exW v W
  | 24 => v = .int .i64 (3)
  | 28 => LV exW v W
  | 29 => v = .int .i64 (-1)
  | _ => v = .bool true

theorem R2.mono (i : Nat) (v : Value) (W W' : World) (h : R2 i v W) (hb : Below W.heap.size W W') : R2 i v W' := by
  unfold R2 at *
  split at h <;> first | exact SL.below h hb | exact LV.below h hb | exact h

/-- What the operations of head's fourth statement leave. -/
def R4 (i : Nat) (v : Value) (W : World) : Prop :=
  match i with
  | 0 => LV exZ v W
  | 1 => SL [0, 1, 1, 1, 0, 0] v W
  | 2 => LV ⟨[], [0, 1, 1, 1, 0, 0]⟩ v W
  | 5 => SL [0] v W
  | 6 => LV ⟨[], [0]⟩ v W
  | 7 => SL [1] v W
  | 8 => LV ⟨[], [1]⟩ v W
  | 9 => SL [0] v W
  | 10 => RV [[0]] v W
  | 11 => LV ⟨[], []⟩ v W
  | 12 => SZ v
  | 13 => v = .int .i64 0
  | 17 => LV exW v W
  | 18 => SL [1, 2, 3] v W
  | 19 => SL [2, 3] v W
  | 20 => LV ⟨[1, 2, 3], [2, 3]⟩ v W
  | 24 => LV exW v W
  | 25 => SL [2, 3] v W
  | 26 => LV ⟨[], [2, 3]⟩ v W
  | 27 => v = .bool false
  | 31 => LV ⟨[], []⟩ v W
  | 32 => LV ⟨[], []⟩ v W
  | 33 => v = .bool false
  | _ => v = .bool true

theorem R4.mono (i : Nat) (v : Value) (W W' : World) (h : R4 i v W) (hb : Below W.heap.size W W') : R4 i v W' := by
  unfold R4 at *
  split at h <;> first | exact SL.below h hb | exact LV.below h hb | exact RV.below h hb | exact h

/-- The first zip of head, on words made for it. -/
theorem hd_zip1 (hZ : ZipC) (w4 : World) (z1 z2 : Value) (h1 : LV ⟨[], [0, 1]⟩ z1 w4) (h2 : LV ⟨[], [0, 0, 1]⟩ z2 w4) :
    Calls Try.prog 28 #[z1, z2, .slice (some ⟨w4.heap.size + 1 + 1, 0, none⟩) 2 2]
      (((w4.alloc (.cells #[.int .i64 0, .int .i64 1] 3)).alloc (.cells #[.int .i64 1, .int .i64 0] 3)).alloc (.cells #[.slice (some ⟨w4.heap.size, 0, none⟩) 2 2, .slice (some ⟨w4.heap.size + 1, 0, none⟩) 2 2] 22)) (GiveL exZ w4) := by
  have hn1 : SL [0, 1] (.slice (some ⟨w4.heap.size, 0, none⟩) 2 2) (w4.alloc (.cells #[.int .i64 0, .int .i64 1] 3)) := SL.new w4 [0, 1] (by simp) (by simp [I64])
  have hn2 := SL.new (w4.alloc (.cells #[.int .i64 0, .int .i64 1] 3)) [1, 0] (by simp) (by simp [I64])
  rw [World.size_alloc] at hn2
  have hn2' : SL [1, 0] (.slice (some ⟨w4.heap.size + 1, 0, none⟩) 2 2) ((w4.alloc (.cells #[.int .i64 0, .int .i64 1] 3)).alloc (.cells #[.int .i64 1, .int .i64 0] 3)) := hn2
  have hn1' := hn1.below (bel_box (.cells #[.int .i64 1, .int .i64 0] 3))
  have hrw := rows_two _ _ _ _ _ 22 hn1'.is hn2'.is
  rw [World.size_alloc, World.size_alloc] at hrw
  have hsx : Below w4.heap.size w4 (((w4.alloc (.cells #[.int .i64 0, .int .i64 1] 3)).alloc (.cells #[.int .i64 1, .int .i64 0] 3)).alloc (.cells #[.slice (some ⟨w4.heap.size, 0, none⟩) 2 2, .slice (some ⟨w4.heap.size + 1, 0, none⟩) 2 2] 22)) := belA (belA (bel_box _) _) _
  refine (hd_zip hZ _ (h1.below hsx) (h2.below hsx) hrw ex_zip1).mono ?_
  rintro e w5 ⟨v, rfl, hv, hb⟩
  exact ⟨v, rfl, hv, hsx.trans (hb.mono (by simp; omega))⟩

set_option maxRecDepth 100000 in
set_option maxHeartbeats 8000000 in
theorem head_c0 (hZ : ZipC) (w : World) : Calls Try.prog 10 #[] w (Calm (.bool true) w) := by
  have HZ := Lib.hid hZ
  clear hZ
  have hmx : Try.prog.follows .mixedOrders = true := by kernel_rfl
  go_enter Try.func10, Try.ntmps10
  go_wp2_with (go_at_call 33; refine (lasso_c _ _ _ _ _ _ _).mono ?_; rintro e w1 ⟨rfl, hb1⟩)
  have hB1 : Below w.heap.size w w1 := (belA (bel_box _) _).trans (hb1.mono (by simp; omega))
  have hS0 : IsInts w1 (.slice (some ⟨w.heap.size, 0, none⟩) 1 1) [1] := by
    have h := SL.new w [1] (by simp) (by simp [I64])
    obtain ⟨ao, cap, e, h⟩ := (h.below (bel_box _)).below hb1
    cases e; exact h
  have hS1 : IsInts w1 (.slice (some ⟨w.heap.size + 1, 0, none⟩) 2 2) [2, 3] := by
    have h := SL.new (w.alloc (.cells #[.int .i64 1] 3)) [2, 3] (by simp) (by simp [I64])
    obtain ⟨ao, cap, e, h⟩ := h.below hb1
    rw [World.size_alloc] at e
    cases e; exact h
  have hb2 := bel_box (w := w1) (Obj.cells #[.slice (some ⟨w.heap.size, 0, none⟩) 1 1, .slice (some ⟨w.heap.size + 1, 0, none⟩) 2 2] 24)
  have hrow := heap_alloc_new w1 (Obj.cells #[.slice (some ⟨w.heap.size, 0, none⟩) 1 1, .slice (some ⟨w.heap.size + 1, 0, none⟩) 2 2] 24)
  have HB2 : Hid (Below w.heap.size w (w1.alloc (Obj.cells #[.slice (some ⟨w.heap.size, 0, none⟩) 1 1, .slice (some ⟨w.heap.size + 1, 0, none⟩) 2 2] 24))) := hB1.trans (hb2.mono hB1.size)
  have HLs : Hid (IsLs (w1.alloc (Obj.cells #[.slice (some ⟨w.heap.size, 0, none⟩) 1 1, .slice (some ⟨w.heap.size + 1, 0, none⟩) 2 2] 24)) (.agg #[.slice (some ⟨w.heap.size, 0, none⟩) 1 1, .slice (some ⟨w.heap.size + 1, 0, none⟩) 2 2]) exW) := IsLs.mk (hS0.below hb2) (hS1.below hb2)
  have HRow := Lib.hid hrow
  clear hrow hb2 hS0 hS1 hB1 hb1
  generalize (w1.alloc (Obj.cells #[.slice (some ⟨w.heap.size, 0, none⟩) 1 1, .slice (some ⟨w.heap.size + 1, 0, none⟩) 2 2] 24)) = w2 at *
  generalize w1.heap.size = bx at *
  have HLd : Hid (∀ W, Below w2.heap.size w2 W → W.cell? ⟨bx, 0, none⟩ = some (.slice (some ⟨w.heap.size, 0, none⟩) 1 1) ∧ W.cell? ⟨bx, 1, none⟩ = some (.slice (some ⟨w.heap.size + 1, 0, none⟩) 2 2) ∧ LV exW (.agg #[.slice (some ⟨w.heap.size, 0, none⟩) 1 1, .slice (some ⟨w.heap.size + 1, 0, none⟩) 2 2]) W) := fun W hW => by
    have hr := (hW.block _ (Array.getElem?_eq_some_iff.1 HRow.out).1).trans HRow.out
    exact ⟨cell_of_row _ _ 0 _ _ _ hr, cell_of_row _ _ 1 _ _ _ hr, LV.of (HLs.out.below hW)⟩
  clear HRow HLs
  refine region_stable hmx R2 (fun vs => { tmps := (_ :: _ :: vs 32 :: _ :: _ :: _ :: _ :: _ :: vs 0 :: vs 1 :: vs 2 :: vs 3 :: vs 4 :: vs 5 :: vs 6 :: vs 7 :: vs 8 :: vs 9 :: vs 10 :: vs 11 :: vs 12 :: vs 13 :: vs 14 :: vs 15 :: vs 16 :: vs 17 :: vs 18 :: vs 19 :: vs 20 :: vs 21 :: vs 22 :: vs 23 :: vs 24 :: vs 25 :: vs 26 :: vs 27 :: vs 28 :: vs 29 :: vs 30 :: vs 31 :: _ :: _ :: _ :: _ :: _ :: _ :: _ :: _ :: _ :: _ :: _ :: _ :: _ :: _ :: _ :: _ :: _ :: _ :: _ :: _ :: _ :: _ :: _ :: _ :: _ :: _ :: _ :: _ :: _ :: _ :: _ :: _ :: _ :: _ :: _ :: _ :: _ :: _ :: _ :: _ :: _ :: _ :: _ :: _ :: _ :: _ :: _ :: _ :: _ :: _ :: _ :: _ :: _ :: _ :: _ :: _ :: _ :: _ :: _ :: _ :: _ :: _ :: _ :: _ :: _ :: _ :: _ :: _ :: _ :: _ :: _ :: _ :: _ :: _ :: _ :: []).toArray, defers := [] }) (fun _ => undef) rfl (by kernel_rfl) R2.mono ?step ?fin
  case step =>
    intro i o ho
    match i, ho with
    | 0, ho =>
      obtain rfl := Option.some.inj ho
      intro vs W K hB hD hK
      have HK := Lib.hid hK
      clear hK hD ho
      dsimp only
      go_simp
      have h := HK.out _ _ (bel_box _) (SL.new W [1, 2] (by simp) (by simp [I64]))
      simp only [upd, Nat.reduceEqDiff, reduceIte] at h
      exact h
    | 1, ho =>
      obtain rfl := Option.some.inj ho
      intro vs W K hB hD hK
      have HK := Lib.hid hK
      clear hK hD ho
      dsimp only
      go_simp
      have h := HK.out _ _ (bel_box _) (SL.new W [3, 2, 3, 2] (by simp) (by simp [I64]))
      simp only [upd, Nat.reduceEqDiff, reduceIte] at h
      exact h
    | 2, ho =>
      obtain rfl := Option.some.inj ho
      intro vs W K hB hD hK
      have HK := Lib.hid hK
      have d0 := dep_of hD 0 (by rfl)
      have d1 := dep_of hD 1 (by rfl)
      clear hK hD ho
      dsimp only
      go_simp
      refine (hd_lasso W d0 d1).mono ?_
      rintro e W' ⟨v, rfl, hv, hb⟩
      have h := HK.out _ _ hb hv
      simp only [upd, Nat.reduceEqDiff, reduceIte] at h
      exact h
    | 3, ho =>
      obtain rfl := Option.some.inj ho
      intro vs W K hB hD hK
      have HK := Lib.hid hK
      have d2 := dep_of hD 2 (by rfl)
      clear hK hD ho
      dsimp only
      go_simp
      refine (hd_normal W d2 ex_normal).mono ?_
      rintro e W' ⟨v, rfl, hv, hb⟩
      have h := HK.out _ _ hb hv
      simp only [upd, Nat.reduceEqDiff, reduceIte] at h
      exact h
    | 4, ho =>
      obtain rfl := Option.some.inj ho
      intro vs W K hB hD hK
      have HK := Lib.hid hK
      obtain ⟨k0, k1, hld⟩ := HLd.out W ((Below.drew (Below.refl _ _)).trans hB)
      clear hK hD ho
      dsimp only
      go_simp
      have h := HK.out _ _ (Below.refl _ _) hld
      simp only [upd, Nat.reduceEqDiff, reduceIte] at h
      exact h
    | 5, ho =>
      obtain rfl := Option.some.inj ho
      intro vs W K hB hD hK
      have HK := Lib.hid hK
      have d3 := dep_of hD 3 (by rfl)
      have d4 := dep_of hD 4 (by rfl)
      clear hK hD ho
      dsimp only
      go_simp
      refine (hd_eq W d3 d4).mono ?_
      rintro e W' ⟨rfl, hb⟩
      have h := HK.out _ _ hb rfl
      simp only [upd, Nat.reduceEqDiff, reduceIte] at h
      exact h
    | 6, ho =>
      obtain rfl := Option.some.inj ho
      intro vs W K hB hD hK
      have HK := Lib.hid hK
      have e5 : vs 5 = .bool true := dep_of hD 5 (by rfl)
      clear hK hD ho
      dsimp only
      go_simp
      have h := HK.out _ _ (Below.refl _ _) rfl
      simp only [upd, Nat.reduceEqDiff, reduceIte, e5] at h
      exact h
    | 7, ho =>
      obtain rfl := Option.some.inj ho
      intro vs W K hB hD hK
      have HK := Lib.hid hK
      have e6 : vs 6 = .bool true := dep_of hD 6 (by rfl)
      obtain ⟨k0, k1, hld⟩ := HLd.out W ((Below.drew (Below.refl _ _)).trans hB)
      clear hK hD ho
      dsimp only
      go_simp
      have h := HK.out _ _ (Below.refl _ _) hld
      simp only [upd, Nat.reduceEqDiff, reduceIte, e6] at h
      exact h
    | 8, ho =>
      obtain rfl := Option.some.inj ho
      intro vs W K hB hD hK
      have HK := Lib.hid hK
      have e6 : vs 6 = .bool true := dep_of hD 6 (by rfl)
      have d7 := dep_of hD 7 (by rfl)
      clear hK hD ho
      dsimp only
      go_simp
      refine (hd_suffix W d7 (by unfold I64; omega) ex_suffix).mono ?_
      rintro e W' ⟨v, rfl, hv, hb⟩
      have h := HK.out _ _ hb hv
      simp only [upd, Nat.reduceEqDiff, reduceIte, e6] at h
      exact h
    | 9, ho =>
      obtain rfl := Option.some.inj ho
      intro vs W K hB hD hK
      have HK := Lib.hid hK
      have e6 : vs 6 = .bool true := dep_of hD 6 (by rfl)
      clear hK hD ho
      dsimp only
      go_simp
      have h := HK.out _ _ (bel_box _) (SL.new W [3, 2] (by simp) (by simp [I64]))
      simp only [upd, Nat.reduceEqDiff, reduceIte, e6] at h
      exact h
    | 10, ho =>
      obtain rfl := Option.some.inj ho
      intro vs W K hB hD hK
      have HK := Lib.hid hK
      have e6 : vs 6 = .bool true := dep_of hD 6 (by rfl)
      have d9 := dep_of hD 9 (by rfl)
      clear hK hD ho
      dsimp only
      go_simp
      refine (hd_lasso W (SL.nil W) d9).mono ?_
      rintro e W' ⟨v, rfl, hv, hb⟩
      have h := HK.out _ _ hb hv
      simp only [upd, Nat.reduceEqDiff, reduceIte, e6] at h
      exact h
    | 11, ho =>
      obtain rfl := Option.some.inj ho
      intro vs W K hB hD hK
      have HK := Lib.hid hK
      have e6 : vs 6 = .bool true := dep_of hD 6 (by rfl)
      have d8 := dep_of hD 8 (by rfl)
      have d10 := dep_of hD 10 (by rfl)
      clear hK hD ho
      dsimp only
      go_simp
      refine (hd_eq W d8 d10).mono ?_
      rintro e W' ⟨rfl, hb⟩
      have h := HK.out _ _ hb rfl
      simp only [upd, Nat.reduceEqDiff, reduceIte, e6] at h
      exact h
    | 12, ho =>
      obtain rfl := Option.some.inj ho
      intro vs W K hB hD hK
      have HK := Lib.hid hK
      have e6 : vs 6 = .bool true := dep_of hD 6 (by rfl)
      have e11 : vs 11 = .bool true := dep_of hD 11 (by rfl)
      clear hK hD ho
      dsimp only
      go_simp
      have h := HK.out _ _ (Below.refl _ _) rfl
      simp only [upd, Nat.reduceEqDiff, reduceIte, e6, e11] at h
      exact h
    | 13, ho =>
      obtain rfl := Option.some.inj ho
      intro vs W K hB hD hK
      have HK := Lib.hid hK
      have e12 : vs 12 = .bool true := dep_of hD 12 (by rfl)
      clear hK hD ho
      dsimp only
      go_simp
      have h := HK.out _ _ (Below.refl _ _) rfl
      simp only [upd, Nat.reduceEqDiff, reduceIte, e12] at h
      exact h
    | 14, ho =>
      obtain rfl := Option.some.inj ho
      intro vs W K hB hD hK
      have HK := Lib.hid hK
      have e13 : vs 13 = .bool true := dep_of hD 13 (by rfl)
      clear hK hD ho
      dsimp only
      go_simp
      have h := HK.out _ _ (bel_box _) (SL.new W [2, 3] (by simp) (by simp [I64]))
      simp only [upd, Nat.reduceEqDiff, reduceIte, e13] at h
      exact h
    | 15, ho =>
      obtain rfl := Option.some.inj ho
      intro vs W K hB hD hK
      have HK := Lib.hid hK
      have e13 : vs 13 = .bool true := dep_of hD 13 (by rfl)
      clear hK hD ho
      dsimp only
      go_simp
      have h := HK.out _ _ (bel_box _) (SL.new W [2, 3] (by simp) (by simp [I64]))
      simp only [upd, Nat.reduceEqDiff, reduceIte, e13] at h
      exact h
    | 16, ho =>
      obtain rfl := Option.some.inj ho
      intro vs W K hB hD hK
      have HK := Lib.hid hK
      have e13 : vs 13 = .bool true := dep_of hD 13 (by rfl)
      have d15 := dep_of hD 15 (by rfl)
      clear hK hD ho
      dsimp only
      go_simp
      refine (hd_lasso W (SL.nil W) d15).mono ?_
      rintro e W' ⟨v, rfl, hv, hb⟩
      have h := HK.out _ _ hb hv
      simp only [upd, Nat.reduceEqDiff, reduceIte, e13] at h
      exact h
    | 17, ho =>
      obtain rfl := Option.some.inj ho
      intro vs W K hB hD hK
      have HK := Lib.hid hK
      have e13 : vs 13 = .bool true := dep_of hD 13 (by rfl)
      have d14 := dep_of hD 14 (by rfl)
      have d16 := dep_of hD 16 (by rfl)
      clear hK hD ho
      dsimp only
      go_simp
      refine (hd_push W d14 d16 (by simp) ex_push).mono ?_
      rintro e W' ⟨v, rfl, hv, hb⟩
      have h := HK.out _ _ hb hv
      simp only [upd, Nat.reduceEqDiff, reduceIte, e13] at h
      exact h
    | 18, ho =>
      obtain rfl := Option.some.inj ho
      intro vs W K hB hD hK
      have HK := Lib.hid hK
      have e13 : vs 13 = .bool true := dep_of hD 13 (by rfl)
      clear hK hD ho
      dsimp only
      go_simp
      have h := HK.out _ _ (bel_box _) (SL.new W [2, 3] (by simp) (by simp [I64]))
      simp only [upd, Nat.reduceEqDiff, reduceIte, e13] at h
      exact h
    | 19, ho =>
      obtain rfl := Option.some.inj ho
      intro vs W K hB hD hK
      have HK := Lib.hid hK
      have e13 : vs 13 = .bool true := dep_of hD 13 (by rfl)
      have d18 := dep_of hD 18 (by rfl)
      clear hK hD ho
      dsimp only
      go_simp
      refine (hd_lasso W (SL.nil W) d18).mono ?_
      rintro e W' ⟨v, rfl, hv, hb⟩
      have h := HK.out _ _ hb hv
      simp only [upd, Nat.reduceEqDiff, reduceIte, e13] at h
      exact h
    | 20, ho =>
      obtain rfl := Option.some.inj ho
      intro vs W K hB hD hK
      have HK := Lib.hid hK
      have e13 : vs 13 = .bool true := dep_of hD 13 (by rfl)
      have d17 := dep_of hD 17 (by rfl)
      have d19 := dep_of hD 19 (by rfl)
      clear hK hD ho
      dsimp only
      go_simp
      refine (hd_eq W d17 d19).mono ?_
      rintro e W' ⟨rfl, hb⟩
      have h := HK.out _ _ hb rfl
      simp only [upd, Nat.reduceEqDiff, reduceIte, e13] at h
      exact h
    | 21, ho =>
      obtain rfl := Option.some.inj ho
      intro vs W K hB hD hK
      have HK := Lib.hid hK
      have e13 : vs 13 = .bool true := dep_of hD 13 (by rfl)
      have e20 : vs 20 = .bool true := dep_of hD 20 (by rfl)
      clear hK hD ho
      dsimp only
      go_simp
      have h := HK.out _ _ (Below.refl _ _) rfl
      simp only [upd, Nat.reduceEqDiff, reduceIte, e13, e20] at h
      exact h
    | 22, ho =>
      obtain rfl := Option.some.inj ho
      intro vs W K hB hD hK
      have HK := Lib.hid hK
      have e21 : vs 21 = .bool true := dep_of hD 21 (by rfl)
      clear hK hD ho
      dsimp only
      go_simp
      have h := HK.out _ _ (Below.refl _ _) rfl
      simp only [upd, Nat.reduceEqDiff, reduceIte, e21] at h
      exact h
    | 23, ho =>
      obtain rfl := Option.some.inj ho
      intro vs W K hB hD hK
      have HK := Lib.hid hK
      have e22 : vs 22 = .bool true := dep_of hD 22 (by rfl)
      obtain ⟨k0, k1, hld⟩ := HLd.out W ((Below.drew (Below.refl _ _)).trans hB)
      clear hK hD ho
      dsimp only
      go_simp
      have h := HK.out _ _ (Below.refl _ _) hld
      simp only [upd, Nat.reduceEqDiff, reduceIte, e22] at h
      exact h
    | 24, ho =>
      obtain rfl := Option.some.inj ho
      intro vs W K hB hD hK
      have HK := Lib.hid hK
      have e22 : vs 22 = .bool true := dep_of hD 22 (by rfl)
      have d23 := dep_of hD 23 (by rfl)
      clear hK hD ho
      dsimp only
      go_simp
      refine (hd_at W d23 (by unfold I64; omega) ex_at1).mono ?_
      rintro e W' ⟨rfl, hb⟩
      have h := HK.out _ _ hb rfl
      simp only [upd, Nat.reduceEqDiff, reduceIte, e22] at h
      exact h
    | 25, ho =>
      obtain rfl := Option.some.inj ho
      intro vs W K hB hD hK
      have HK := Lib.hid hK
      have e22 : vs 22 = .bool true := dep_of hD 22 (by rfl)
      have e24 : vs 24 = .int .i64 (3) := dep_of hD 24 (by rfl)
      clear hK hD ho
      dsimp only
      go_simp
      have h := HK.out _ _ (Below.refl _ _) rfl
      simp only [upd, Nat.reduceEqDiff, reduceIte, e22, e24] at h
      exact h
    | 26, ho =>
      obtain rfl := Option.some.inj ho
      intro vs W K hB hD hK
      have HK := Lib.hid hK
      have e22 : vs 22 = .bool true := dep_of hD 22 (by rfl)
      have e25 : vs 25 = .bool true := dep_of hD 25 (by rfl)
      clear hK hD ho
      dsimp only
      go_simp
      have h := HK.out _ _ (Below.refl _ _) rfl
      simp only [upd, Nat.reduceEqDiff, reduceIte, e22, e25] at h
      exact h
    | 27, ho =>
      obtain rfl := Option.some.inj ho
      intro vs W K hB hD hK
      have HK := Lib.hid hK
      have e26 : vs 26 = .bool true := dep_of hD 26 (by rfl)
      clear hK hD ho
      dsimp only
      go_simp
      have h := HK.out _ _ (Below.refl _ _) rfl
      simp only [upd, Nat.reduceEqDiff, reduceIte, e26] at h
      exact h
    | 28, ho =>
      obtain rfl := Option.some.inj ho
      intro vs W K hB hD hK
      have HK := Lib.hid hK
      have e27 : vs 27 = .bool true := dep_of hD 27 (by rfl)
      obtain ⟨k0, k1, hld⟩ := HLd.out W ((Below.drew (Below.refl _ _)).trans hB)
      clear hK hD ho
      dsimp only
      go_simp
      have h := HK.out _ _ (Below.refl _ _) hld
      simp only [upd, Nat.reduceEqDiff, reduceIte, e27] at h
      exact h
    | 29, ho =>
      obtain rfl := Option.some.inj ho
      intro vs W K hB hD hK
      have HK := Lib.hid hK
      have e27 : vs 27 = .bool true := dep_of hD 27 (by rfl)
      have d28 := dep_of hD 28 (by rfl)
      clear hK hD ho
      dsimp only
      go_simp
      refine (hd_at W d28 (by unfold I64; omega) ex_at2).mono ?_
      rintro e W' ⟨rfl, hb⟩
      have h := HK.out _ _ hb rfl
      simp only [upd, Nat.reduceEqDiff, reduceIte, e27] at h
      exact h
    | 30, ho =>
      obtain rfl := Option.some.inj ho
      intro vs W K hB hD hK
      have HK := Lib.hid hK
      have e27 : vs 27 = .bool true := dep_of hD 27 (by rfl)
      have e29 : vs 29 = .int .i64 (-1) := dep_of hD 29 (by rfl)
      clear hK hD ho
      dsimp only
      go_simp
      have h := HK.out _ _ (Below.refl _ _) rfl
      simp only [upd, Nat.reduceEqDiff, reduceIte, e27, e29] at h
      exact h
    | 31, ho =>
      obtain rfl := Option.some.inj ho
      intro vs W K hB hD hK
      have HK := Lib.hid hK
      have e27 : vs 27 = .bool true := dep_of hD 27 (by rfl)
      have e30 : vs 30 = .bool true := dep_of hD 30 (by rfl)
      clear hK hD ho
      dsimp only
      go_simp
      have h := HK.out _ _ (Below.refl _ _) rfl
      simp only [upd, Nat.reduceEqDiff, reduceIte, e27, e30] at h
      exact h
    | 32, ho =>
      obtain rfl := Option.some.inj ho
      intro vs W K hB hD hK
      have HK := Lib.hid hK
      have e31 : vs 31 = .bool true := dep_of hD 31 (by rfl)
      clear hK hD ho
      dsimp only
      go_simp
      have h := HK.out _ _ (Below.refl _ _) rfl
      simp only [upd, Nat.reduceEqDiff, reduceIte, e31] at h
      exact h
    | n + 33, ho => simp at ho
  case fin =>
    intro vs W hB hall
    have e32 : vs 32 = .bool true := hall 32 (by decide)
    have hB2W : Below w2.heap.size w2 W := (Below.drew (Below.refl _ _)).trans hB
    have hBW := HB2.out.trans (hB2W.mono HB2.out.size)
    clear hall hB
    rw [e32]
    clear e32
    generalize vs 0 = q0
    generalize vs 1 = q1
    generalize vs 2 = q2
    generalize vs 3 = q3
    generalize vs 4 = q4
    generalize vs 5 = q5
    generalize vs 6 = q6
    generalize vs 7 = q7
    generalize vs 8 = q8
    generalize vs 9 = q9
    generalize vs 10 = q10
    generalize vs 11 = q11
    generalize vs 12 = q12
    generalize vs 13 = q13
    generalize vs 14 = q14
    generalize vs 15 = q15
    generalize vs 16 = q16
    generalize vs 17 = q17
    generalize vs 18 = q18
    generalize vs 19 = q19
    generalize vs 20 = q20
    generalize vs 21 = q21
    generalize vs 22 = q22
    generalize vs 23 = q23
    generalize vs 24 = q24
    generalize vs 25 = q25
    generalize vs 26 = q26
    generalize vs 27 = q27
    generalize vs 28 = q28
    generalize vs 29 = q29
    generalize vs 30 = q30
    generalize vs 31 = q31
    clear vs
    go_wp2_with fail
    refine (hd_lasso _ (SL.nil _) (SL.new W [0, 1] (by simp) (by simp [I64]))).mono ?_
    rintro e w3 ⟨z1, rfl, hz1, hb3⟩
    have hB3 : Below W.heap.size W w3 := (bel_box _).trans (hb3.mono (by simp))
    clear hb3
    go_wp2_with fail
    refine (hd_lasso _ (SL.nil _) (SL.new w3 [0, 0, 1] (by simp) (by simp [I64]))).mono ?_
    rintro e w4 ⟨z2, rfl, hz2, hb4⟩
    have hs4 : Below w3.heap.size w3 w4 := (bel_box _).trans (hb4.mono (by simp))
    have hB4 := hB3.trans (hs4.mono hB3.size)
    replace hz1 := hz1.below hs4
    clear hb4 hs4 hB3
    go_wp2_with fail
    refine (hd_zip1 HZ.out w4 z1 z2 hz1 hz2).mono ?_
    rintro e w5 ⟨z3, rfl, ⟨y0, n0, y1, n1, rfl, hz3⟩, hb5⟩
    have hB25 : Below w2.heap.size w2 w5 := hB2W.trans ((hB4.trans (hb5.mono hB4.size)).mono hB2W.size)
    have HLz0 : Hid (IsLs w5 (.agg #[.slice y0 0 n0, .slice y1 6 n1]) exZ) := hz3
    clear hz1 hz2 hz3 hb5 hB4 hB2W hBW
    go_upto_region 4 with (fail)
    have hrow := heap_alloc_new w5 (Obj.cells #[.slice y0 0 n0, .slice y1 6 n1] 24)
    have HB26 : Hid (Below w2.heap.size w2 (w5.alloc (Obj.cells #[.slice y0 0 n0, .slice y1 6 n1] 24))) := belA hB25 _
    have HLs : Hid (IsLs (w5.alloc (Obj.cells #[.slice y0 0 n0, .slice y1 6 n1] 24)) (.agg #[.slice y0 0 n0, .slice y1 6 n1]) exZ) := HLz0.out.below (bel_box _)
    have HRow := Lib.hid hrow
    simp only [show exZ.stem.length = 0 from rfl, show exZ.loop.length = 6 from rfl]
    clear hrow hB25 HLz0
    generalize (w5.alloc (Obj.cells #[.slice y0 0 n0, .slice y1 6 n1] 24)) = w6 at *
    generalize w5.heap.size = bz at *
    have HLz : Hid (∀ W, Below w6.heap.size w6 W → W.cell? ⟨bz, 0, none⟩ = some (.slice y0 0 n0) ∧ W.cell? ⟨bz, 1, none⟩ = some (.slice y1 6 n1) ∧ LV exZ (.agg #[.slice y0 0 n0, .slice y1 6 n1]) W) := fun W hW => by
      have hr := (hW.block _ (Array.getElem?_eq_some_iff.1 HRow.out).1).trans HRow.out
      exact ⟨cell_of_row _ _ 0 _ _ _ hr, cell_of_row _ _ 1 _ _ _ hr, LV.of (HLs.out.below hW)⟩
    clear HRow HLs
    refine region_stable hmx R4 (fun vs => { tmps := (_ :: _ :: _ :: _ :: vs 36 :: _ :: _ :: _ :: _ :: _ :: _ :: _ :: _ :: _ :: _ :: _ :: _ :: _ :: _ :: _ :: _ :: _ :: _ :: _ :: _ :: _ :: _ :: _ :: _ :: _ :: _ :: _ :: _ :: _ :: _ :: _ :: _ :: _ :: _ :: _ :: _ :: _ :: _ :: _ :: _ :: _ :: _ :: _ :: vs 0 :: vs 1 :: vs 2 :: vs 3 :: vs 4 :: vs 5 :: vs 6 :: vs 7 :: vs 8 :: vs 9 :: vs 10 :: vs 11 :: vs 12 :: vs 13 :: vs 14 :: vs 15 :: vs 16 :: vs 17 :: vs 18 :: vs 19 :: vs 20 :: vs 21 :: vs 22 :: vs 23 :: vs 24 :: vs 25 :: vs 26 :: vs 27 :: vs 28 :: vs 29 :: vs 30 :: vs 31 :: vs 32 :: vs 33 :: vs 34 :: vs 35 :: _ :: _ :: _ :: _ :: _ :: _ :: _ :: _ :: _ :: _ :: _ :: _ :: _ :: _ :: _ :: _ :: _ :: _ :: _ :: _ :: _ :: _ :: _ :: _ :: _ :: _ :: _ :: _ :: _ :: _ :: _ :: []).toArray, defers := [] }) (fun _ => undef) rfl (by kernel_rfl) R4.mono ?step4 ?fin4
    case step4 =>
      intro i o ho
      match i, ho with
      | 0, ho =>
        obtain rfl := Option.some.inj ho
        intro vs W K hB hD hK
        have HK := Lib.hid hK
        obtain ⟨k0, k1, hld⟩ := HLz.out W ((Below.drew (Below.refl _ _)).trans hB)
        clear hK hD ho
        dsimp only
        go_simp
        have h := HK.out _ _ (Below.refl _ _) hld
        simp only [upd, Nat.reduceEqDiff, reduceIte] at h
        exact h
      | 1, ho =>
        obtain rfl := Option.some.inj ho
        intro vs W K hB hD hK
        have HK := Lib.hid hK
        clear hK hD ho
        dsimp only
        go_simp
        have h := HK.out _ _ (bel_box _) (SL.new W [0, 1, 1, 1, 0, 0] (by simp) (by simp [I64]))
        simp only [upd, Nat.reduceEqDiff, reduceIte] at h
        exact h
      | 2, ho =>
        obtain rfl := Option.some.inj ho
        intro vs W K hB hD hK
        have HK := Lib.hid hK
        have d1 := dep_of hD 1 (by rfl)
        clear hK hD ho
        dsimp only
        go_simp
        refine (hd_lasso W (SL.nil W) d1).mono ?_
        rintro e W' ⟨v, rfl, hv, hb⟩
        have h := HK.out _ _ hb hv
        simp only [upd, Nat.reduceEqDiff, reduceIte] at h
        exact h
      | 3, ho =>
        obtain rfl := Option.some.inj ho
        intro vs W K hB hD hK
        have HK := Lib.hid hK
        have d0 := dep_of hD 0 (by rfl)
        have d2 := dep_of hD 2 (by rfl)
        clear hK hD ho
        dsimp only
        go_simp
        refine (hd_eq W d0 d2).mono ?_
        rintro e W' ⟨rfl, hb⟩
        have h := HK.out _ _ hb rfl
        simp only [upd, Nat.reduceEqDiff, reduceIte] at h
        exact h
      | 4, ho =>
        obtain rfl := Option.some.inj ho
        intro vs W K hB hD hK
        have HK := Lib.hid hK
        have e3 : vs 3 = .bool true := dep_of hD 3 (by rfl)
        clear hK hD ho
        dsimp only
        go_simp
        have h := HK.out _ _ (Below.refl _ _) rfl
        simp only [upd, Nat.reduceEqDiff, reduceIte, e3] at h
        exact h
      | 5, ho =>
        obtain rfl := Option.some.inj ho
        intro vs W K hB hD hK
        have HK := Lib.hid hK
        have e4 : vs 4 = .bool true := dep_of hD 4 (by rfl)
        clear hK hD ho
        dsimp only
        go_simp
        have h := HK.out _ _ (bel_box _) (SL.new W [0] (by simp) (by simp [I64]))
        simp only [upd, Nat.reduceEqDiff, reduceIte, e4] at h
        exact h
      | 6, ho =>
        obtain rfl := Option.some.inj ho
        intro vs W K hB hD hK
        have HK := Lib.hid hK
        have e4 : vs 4 = .bool true := dep_of hD 4 (by rfl)
        have d5 := dep_of hD 5 (by rfl)
        clear hK hD ho
        dsimp only
        go_simp
        refine (hd_lasso W (SL.nil W) d5).mono ?_
        rintro e W' ⟨v, rfl, hv, hb⟩
        have h := HK.out _ _ hb hv
        simp only [upd, Nat.reduceEqDiff, reduceIte, e4] at h
        exact h
      | 7, ho =>
        obtain rfl := Option.some.inj ho
        intro vs W K hB hD hK
        have HK := Lib.hid hK
        have e4 : vs 4 = .bool true := dep_of hD 4 (by rfl)
        clear hK hD ho
        dsimp only
        go_simp
        have h := HK.out _ _ (bel_box _) (SL.new W [1] (by simp) (by simp [I64]))
        simp only [upd, Nat.reduceEqDiff, reduceIte, e4] at h
        exact h
      | 8, ho =>
        obtain rfl := Option.some.inj ho
        intro vs W K hB hD hK
        have HK := Lib.hid hK
        have e4 : vs 4 = .bool true := dep_of hD 4 (by rfl)
        have d7 := dep_of hD 7 (by rfl)
        clear hK hD ho
        dsimp only
        go_simp
        refine (hd_lasso W (SL.nil W) d7).mono ?_
        rintro e W' ⟨v, rfl, hv, hb⟩
        have h := HK.out _ _ hb hv
        simp only [upd, Nat.reduceEqDiff, reduceIte, e4] at h
        exact h
      | 9, ho =>
        obtain rfl := Option.some.inj ho
        intro vs W K hB hD hK
        have HK := Lib.hid hK
        have e4 : vs 4 = .bool true := dep_of hD 4 (by rfl)
        clear hK hD ho
        dsimp only
        go_simp
        have h := HK.out _ _ (bel_box _) (SL.new W [0] (by simp) (by simp [I64]))
        simp only [upd, Nat.reduceEqDiff, reduceIte, e4] at h
        exact h
      | 10, ho =>
        obtain rfl := Option.some.inj ho
        intro vs W K hB hD hK
        have HK := Lib.hid hK
        have e4 : vs 4 = .bool true := dep_of hD 4 (by rfl)
        obtain ⟨ao9, cap9, e9, h9⟩ : SL [0] (vs 9) W := dep_of hD 9 (by rfl)
        simp only [List.length_cons, List.length_nil, Nat.zero_add] at e9 h9
        clear hK hD ho
        dsimp only
        go_simp
        have h := HK.out _ _ (bel_box _) (rows_one W _ _ 22 h9)
        simp only [upd, Nat.reduceEqDiff, reduceIte, e4, e9] at h
        exact h
      | 11, ho =>
        obtain rfl := Option.some.inj ho
        intro vs W K hB hD hK
        have HK := Lib.hid hK
        have e4 : vs 4 = .bool true := dep_of hD 4 (by rfl)
        have d6 := dep_of hD 6 (by rfl)
        have d8 := dep_of hD 8 (by rfl)
        have d10 := dep_of hD 10 (by rfl)
        clear hK hD ho
        dsimp only
        go_simp
        refine (hd_zip HZ.out W d6 d8 d10 ex_zip2).mono ?_
        rintro e W' ⟨v, rfl, hv, hb⟩
        have h := HK.out _ _ hb hv
        simp only [upd, Nat.reduceEqDiff, reduceIte, e4] at h
        exact h
      | 12, ho =>
        obtain rfl := Option.some.inj ho
        intro vs W K hB hD hK
        have HK := Lib.hid hK
        have e4 : vs 4 = .bool true := dep_of hD 4 (by rfl)
        obtain ⟨a, b, c, d, e11, -⟩ : LV ⟨[], []⟩ (vs 11) W := dep_of hD 11 (by rfl)
        clear hK hD ho
        dsimp only
        go_simp
        have h := HK.out (.slice c 0 d) W (Below.refl _ _) ⟨c, d, rfl⟩
        simp only [upd, Nat.reduceEqDiff, reduceIte, e4, e11] at h
        exact h
      | 13, ho =>
        obtain rfl := Option.some.inj ho
        intro vs W K hB hD hK
        have HK := Lib.hid hK
        have e4 : vs 4 = .bool true := dep_of hD 4 (by rfl)
        obtain ⟨c, d, e12⟩ : SZ (vs 12) := dep_of hD 12 (by rfl)
        clear hK hD ho
        dsimp only
        go_simp
        have h := HK.out _ _ (Below.refl _ _) rfl
        simp only [upd, Nat.reduceEqDiff, reduceIte, e4, e12] at h
        exact h
      | 14, ho =>
        obtain rfl := Option.some.inj ho
        intro vs W K hB hD hK
        have HK := Lib.hid hK
        have e4 : vs 4 = .bool true := dep_of hD 4 (by rfl)
        have e13 : vs 13 = .int .i64 0 := dep_of hD 13 (by rfl)
        clear hK hD ho
        dsimp only
        go_simp
        have h := HK.out _ _ (Below.refl _ _) rfl
        simp only [upd, Nat.reduceEqDiff, reduceIte, e4, e13] at h
        exact h
      | 15, ho =>
        obtain rfl := Option.some.inj ho
        intro vs W K hB hD hK
        have HK := Lib.hid hK
        have e4 : vs 4 = .bool true := dep_of hD 4 (by rfl)
        have e14 : vs 14 = .bool true := dep_of hD 14 (by rfl)
        clear hK hD ho
        dsimp only
        go_simp
        have h := HK.out _ _ (Below.refl _ _) rfl
        simp only [upd, Nat.reduceEqDiff, reduceIte, e4, e14] at h
        exact h
      | 16, ho =>
        obtain rfl := Option.some.inj ho
        intro vs W K hB hD hK
        have HK := Lib.hid hK
        have e15 : vs 15 = .bool true := dep_of hD 15 (by rfl)
        clear hK hD ho
        dsimp only
        go_simp
        have h := HK.out _ _ (Below.refl _ _) rfl
        simp only [upd, Nat.reduceEqDiff, reduceIte, e15] at h
        exact h
      | 17, ho =>
        obtain rfl := Option.some.inj ho
        intro vs W K hB hD hK
        have HK := Lib.hid hK
        have e16 : vs 16 = .bool true := dep_of hD 16 (by rfl)
        obtain ⟨k0, k1, hld⟩ := HLd.out W (HB26.out.trans (((Below.drew (Below.refl _ _)).trans hB).mono HB26.out.size))
        clear hK hD ho
        dsimp only
        go_simp
        have h := HK.out _ _ (Below.refl _ _) hld
        simp only [upd, Nat.reduceEqDiff, reduceIte, e16] at h
        exact h
      | 18, ho =>
        obtain rfl := Option.some.inj ho
        intro vs W K hB hD hK
        have HK := Lib.hid hK
        have e16 : vs 16 = .bool true := dep_of hD 16 (by rfl)
        clear hK hD ho
        dsimp only
        go_simp
        have h := HK.out _ _ (bel_box _) (SL.new W [1, 2, 3] (by simp) (by simp [I64]))
        simp only [upd, Nat.reduceEqDiff, reduceIte, e16] at h
        exact h
      | 19, ho =>
        obtain rfl := Option.some.inj ho
        intro vs W K hB hD hK
        have HK := Lib.hid hK
        have e16 : vs 16 = .bool true := dep_of hD 16 (by rfl)
        clear hK hD ho
        dsimp only
        go_simp
        have h := HK.out _ _ (bel_box _) (SL.new W [2, 3] (by simp) (by simp [I64]))
        simp only [upd, Nat.reduceEqDiff, reduceIte, e16] at h
        exact h
      | 20, ho =>
        obtain rfl := Option.some.inj ho
        intro vs W K hB hD hK
        have HK := Lib.hid hK
        have e16 : vs 16 = .bool true := dep_of hD 16 (by rfl)
        have d18 := dep_of hD 18 (by rfl)
        have d19 := dep_of hD 19 (by rfl)
        clear hK hD ho
        dsimp only
        go_simp
        refine (hd_lasso W d18 d19).mono ?_
        rintro e W' ⟨v, rfl, hv, hb⟩
        have h := HK.out _ _ hb hv
        simp only [upd, Nat.reduceEqDiff, reduceIte, e16] at h
        exact h
      | 21, ho =>
        obtain rfl := Option.some.inj ho
        intro vs W K hB hD hK
        have HK := Lib.hid hK
        have e16 : vs 16 = .bool true := dep_of hD 16 (by rfl)
        have d17 := dep_of hD 17 (by rfl)
        have d20 := dep_of hD 20 (by rfl)
        clear hK hD ho
        dsimp only
        go_simp
        refine (hd_same W d17 d20 ex_same1).mono ?_
        rintro e W' ⟨rfl, hb⟩
        have h := HK.out _ _ hb rfl
        simp only [upd, Nat.reduceEqDiff, reduceIte, e16] at h
        exact h
      | 22, ho =>
        obtain rfl := Option.some.inj ho
        intro vs W K hB hD hK
        have HK := Lib.hid hK
        have e16 : vs 16 = .bool true := dep_of hD 16 (by rfl)
        have e21 : vs 21 = .bool true := dep_of hD 21 (by rfl)
        clear hK hD ho
        dsimp only
        go_simp
        have h := HK.out _ _ (Below.refl _ _) rfl
        simp only [upd, Nat.reduceEqDiff, reduceIte, e16, e21] at h
        exact h
      | 23, ho =>
        obtain rfl := Option.some.inj ho
        intro vs W K hB hD hK
        have HK := Lib.hid hK
        have e22 : vs 22 = .bool true := dep_of hD 22 (by rfl)
        clear hK hD ho
        dsimp only
        go_simp
        have h := HK.out _ _ (Below.refl _ _) rfl
        simp only [upd, Nat.reduceEqDiff, reduceIte, e22] at h
        exact h
      | 24, ho =>
        obtain rfl := Option.some.inj ho
        intro vs W K hB hD hK
        have HK := Lib.hid hK
        have e23 : vs 23 = .bool true := dep_of hD 23 (by rfl)
        obtain ⟨k0, k1, hld⟩ := HLd.out W (HB26.out.trans (((Below.drew (Below.refl _ _)).trans hB).mono HB26.out.size))
        clear hK hD ho
        dsimp only
        go_simp
        have h := HK.out _ _ (Below.refl _ _) hld
        simp only [upd, Nat.reduceEqDiff, reduceIte, e23] at h
        exact h
      | 25, ho =>
        obtain rfl := Option.some.inj ho
        intro vs W K hB hD hK
        have HK := Lib.hid hK
        have e23 : vs 23 = .bool true := dep_of hD 23 (by rfl)
        clear hK hD ho
        dsimp only
        go_simp
        have h := HK.out _ _ (bel_box _) (SL.new W [2, 3] (by simp) (by simp [I64]))
        simp only [upd, Nat.reduceEqDiff, reduceIte, e23] at h
        exact h
      | 26, ho =>
        obtain rfl := Option.some.inj ho
        intro vs W K hB hD hK
        have HK := Lib.hid hK
        have e23 : vs 23 = .bool true := dep_of hD 23 (by rfl)
        have d25 := dep_of hD 25 (by rfl)
        clear hK hD ho
        dsimp only
        go_simp
        refine (hd_lasso W (SL.nil W) d25).mono ?_
        rintro e W' ⟨v, rfl, hv, hb⟩
        have h := HK.out _ _ hb hv
        simp only [upd, Nat.reduceEqDiff, reduceIte, e23] at h
        exact h
      | 27, ho =>
        obtain rfl := Option.some.inj ho
        intro vs W K hB hD hK
        have HK := Lib.hid hK
        have e23 : vs 23 = .bool true := dep_of hD 23 (by rfl)
        have d24 := dep_of hD 24 (by rfl)
        have d26 := dep_of hD 26 (by rfl)
        clear hK hD ho
        dsimp only
        go_simp
        refine (hd_same W d24 d26 ex_same2).mono ?_
        rintro e W' ⟨rfl, hb⟩
        have h := HK.out _ _ hb rfl
        simp only [upd, Nat.reduceEqDiff, reduceIte, e23] at h
        exact h
      | 28, ho =>
        obtain rfl := Option.some.inj ho
        intro vs W K hB hD hK
        have HK := Lib.hid hK
        have e23 : vs 23 = .bool true := dep_of hD 23 (by rfl)
        have e27 : vs 27 = .bool false := dep_of hD 27 (by rfl)
        clear hK hD ho
        dsimp only
        go_simp
        have h := HK.out _ _ (Below.refl _ _) rfl
        simp only [upd, Nat.reduceEqDiff, reduceIte, e23, e27] at h
        exact h
      | 29, ho =>
        obtain rfl := Option.some.inj ho
        intro vs W K hB hD hK
        have HK := Lib.hid hK
        have e23 : vs 23 = .bool true := dep_of hD 23 (by rfl)
        have e28 : vs 28 = .bool true := dep_of hD 28 (by rfl)
        clear hK hD ho
        dsimp only
        go_simp
        have h := HK.out _ _ (Below.refl _ _) rfl
        simp only [upd, Nat.reduceEqDiff, reduceIte, e23, e28] at h
        exact h
      | 30, ho =>
        obtain rfl := Option.some.inj ho
        intro vs W K hB hD hK
        have HK := Lib.hid hK
        have e29 : vs 29 = .bool true := dep_of hD 29 (by rfl)
        clear hK hD ho
        dsimp only
        go_simp
        have h := HK.out _ _ (Below.refl _ _) rfl
        simp only [upd, Nat.reduceEqDiff, reduceIte, e29] at h
        exact h
      | 31, ho =>
        obtain rfl := Option.some.inj ho
        intro vs W K hB hD hK
        have HK := Lib.hid hK
        have e30 : vs 30 = .bool true := dep_of hD 30 (by rfl)
        clear hK hD ho
        dsimp only
        go_simp
        have h := HK.out _ _ (Below.refl _ _) (LV.of (IsLs.mk (ints_nil _) (ints_nil _)))
        simp only [upd, Nat.reduceEqDiff, reduceIte, e30] at h
        exact h
      | 32, ho =>
        obtain rfl := Option.some.inj ho
        intro vs W K hB hD hK
        have HK := Lib.hid hK
        have e30 : vs 30 = .bool true := dep_of hD 30 (by rfl)
        clear hK hD ho
        dsimp only
        go_simp
        have h := HK.out _ _ (Below.refl _ _) (LV.of (IsLs.mk (ints_nil _) (ints_nil _)))
        simp only [upd, Nat.reduceEqDiff, reduceIte, e30] at h
        exact h
      | 33, ho =>
        obtain rfl := Option.some.inj ho
        intro vs W K hB hD hK
        have HK := Lib.hid hK
        have e30 : vs 30 = .bool true := dep_of hD 30 (by rfl)
        have d31 := dep_of hD 31 (by rfl)
        have d32 := dep_of hD 32 (by rfl)
        clear hK hD ho
        dsimp only
        go_simp
        refine (hd_same W d31 d32 ex_same3).mono ?_
        rintro e W' ⟨rfl, hb⟩
        have h := HK.out _ _ hb rfl
        simp only [upd, Nat.reduceEqDiff, reduceIte, e30] at h
        exact h
      | 34, ho =>
        obtain rfl := Option.some.inj ho
        intro vs W K hB hD hK
        have HK := Lib.hid hK
        have e30 : vs 30 = .bool true := dep_of hD 30 (by rfl)
        have e33 : vs 33 = .bool false := dep_of hD 33 (by rfl)
        clear hK hD ho
        dsimp only
        go_simp
        have h := HK.out _ _ (Below.refl _ _) rfl
        simp only [upd, Nat.reduceEqDiff, reduceIte, e30, e33] at h
        exact h
      | 35, ho =>
        obtain rfl := Option.some.inj ho
        intro vs W K hB hD hK
        have HK := Lib.hid hK
        have e30 : vs 30 = .bool true := dep_of hD 30 (by rfl)
        have e34 : vs 34 = .bool true := dep_of hD 34 (by rfl)
        clear hK hD ho
        dsimp only
        go_simp
        have h := HK.out _ _ (Below.refl _ _) rfl
        simp only [upd, Nat.reduceEqDiff, reduceIte, e30, e34] at h
        exact h
      | 36, ho =>
        obtain rfl := Option.some.inj ho
        intro vs W K hB hD hK
        have HK := Lib.hid hK
        have e35 : vs 35 = .bool true := dep_of hD 35 (by rfl)
        clear hK hD ho
        dsimp only
        go_simp
        have h := HK.out _ _ (Below.refl _ _) rfl
        simp only [upd, Nat.reduceEqDiff, reduceIte, e35] at h
        exact h
      | n + 37, ho => simp at ho
    case fin4 =>
      intro vs W hB hall
      have e36 : vs 36 = .bool true := hall 36 (by decide)
      have hB2W : Below w2.heap.size w2 W := HB26.out.trans (((Below.drew (Below.refl _ _)).trans hB).mono HB26.out.size)
      clear hall hB HLz
      rw [e36]
      clear e36
      generalize vs 0 = r0
      generalize vs 1 = r1
      generalize vs 2 = r2
      generalize vs 3 = r3
      generalize vs 4 = r4
      generalize vs 5 = r5
      generalize vs 6 = r6
      generalize vs 7 = r7
      generalize vs 8 = r8
      generalize vs 9 = r9
      generalize vs 10 = r10
      generalize vs 11 = r11
      generalize vs 12 = r12
      generalize vs 13 = r13
      generalize vs 14 = r14
      generalize vs 15 = r15
      generalize vs 16 = r16
      generalize vs 17 = r17
      generalize vs 18 = r18
      generalize vs 19 = r19
      generalize vs 20 = r20
      generalize vs 21 = r21
      generalize vs 22 = r22
      generalize vs 23 = r23
      generalize vs 24 = r24
      generalize vs 25 = r25
      generalize vs 26 = r26
      generalize vs 27 = r27
      generalize vs 28 = r28
      generalize vs 29 = r29
      generalize vs 30 = r30
      generalize vs 31 = r31
      generalize vs 32 = r32
      generalize vs 33 = r33
      generalize vs 34 = r34
      generalize vs 35 = r35
      clear vs
      obtain ⟨k0, k1, hl⟩ := HLd.out W hB2W
      go_wp2_with fail
      refine (hd_valid W hl ex_valid1).mono ?_
      rintro e x1 ⟨rfl, b1⟩
      have hx1 := hB2W.trans (b1.mono hB2W.size)
      clear hB2W b1 hl k0 k1
      obtain ⟨k0, k1, hl⟩ := HLd.out x1 hx1
      go_wp2_with fail
      refine (hd_valid x1 hl ex_valid2).mono ?_
      rintro e x2 ⟨rfl, b2⟩
      have hx2 := hx1.trans (b2.mono hx1.size)
      clear hx1 b2 hl k0 k1
      go_wp2_with fail
      refine (hd_lasso _ (SL.new x2 [1] (by simp) (by simp [I64])) (SL.nil _)).mono ?_
      rintro e x3 ⟨z5, rfl, hz5, b3⟩
      have hs3 : Below x2.heap.size x2 x3 := (bel_box _).trans (b3.mono (by simp))
      have hx3 := hx2.trans (hs3.mono hx2.size)
      clear hx2 b3 hs3
      go_wp2_with fail
      refine (hd_valid x3 hz5 ex_valid3).mono ?_
      rintro e x4 ⟨rfl, b4⟩
      have hx4 := hx3.trans (b4.mono hx3.size)
      clear hx3 b4 hz5
      obtain ⟨k0, k1, hl⟩ := HLd.out x4 hx4
      go_wp2_with fail
      refine (hd_prefix x4 hl ex_prefix1).mono ?_
      rintro e x5 ⟨z6, rfl, hz6, b5⟩
      have hx5 := hx4.trans (b5.mono hx4.size)
      clear hx4 b5 hl k0 k1
      go_wp2_with fail
      have hs5 := bel_box (w := x5) (Obj.cells #[.int .i64 1, .int .i64 2, .int .i64 3, .int .i64 2] 3)
      refine (hd_ints _ (hz6.below hs5) (SL.new x5 [1, 2, 3, 2] (by simp) (by simp [I64]))).mono ?_
      rintro e x6 ⟨rfl, b6⟩
      have hx6 := (hx5.trans (hs5.mono hx5.size)).trans (b6.mono (by have := hx5.size; simp; omega))
      clear hx5 hs5 b6 hz6
      obtain ⟨k0, k1, hl⟩ := HLd.out x6 hx6
      go_wp2_with fail
      refine (hd_prefix x6 hl ex_prefix2).mono ?_
      rintro e x7 ⟨z7, rfl, ⟨y2, n2, rfl, -⟩, b7⟩
      have hx7 := hx6.trans (b7.mono hx6.size)
      clear hx6 b7 hl k0 k1
      go_wp2_with fail
      have hF := HB2.out.trans (hx7.mono HB2.out.size)
      exact bodyPost_ret (v := .bool true) (by simp [results, Try.results10, go_sem]) rfl ⟨rfl, hF⟩

theorem head_c (w : World) : Calls Try.prog 10 #[] w (Calm (.bool true) w) := head_c0 Zip_c w

end Go.Proofs.Ytgjpdnaeldpdeaa
