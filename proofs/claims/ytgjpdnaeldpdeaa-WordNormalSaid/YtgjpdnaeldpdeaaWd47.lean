/- The walk of WordNormal. -/
import Derived.Test.YtgjpdnaeldpdeaaWd45
namespace Go.Proofs.Ytgjpdnaeldpdeaa
open Go.RowKit

theorem norm_facts {a : Ls} (h : formB a = true) : formB (normalI a) = true ∧ agreeB a (normalI a) 200 = true ∧ (normalI a).stem.length ≤ a.stem.length ∧ (normalI a).loop.length ≤ a.loop.length ∧ normalI (normalI a) = normalI a ∧ NormalL (normalI a) := by
  have hl := form_pos h
  obtain ⟨h1, h2, h3, h4⟩ := normL_spec hl
  have hf := norm_formed h
  rw [normalI_form h]
  refine ⟨hf, agreeB_iff.2 fun i _ => ?_, h3, h4, ?_, h1⟩
  · rw [atI_form h, atI_form hf, h2]
  · rw [normalI_form hf, normL_idem hl]
theorem norm_last {n : Ls} (h : NormalL n) : n.stem.length = 0 ∨ n.stem.getD (n.stem.length - 1) 0 ≠ n.loop.getD (n.loop.length - 1) 0 := by
  rcases h.ends with e | e
  · exact .inl (by rw [e]; rfl)
  · by_cases hs : n.stem = []
    · exact .inl (by rw [hs]; rfl)
    · refine .inr fun e2 => e ?_
      rw [getLast_getD _ hs, getLast_getD _ (List.length_pos_iff.1 h.pos), e2]
theorem normalI_bad {a : Ls} (h : formB a = false) : normalI a = ⟨[], []⟩ := by unfold normalI; rw [if_neg (by rw [h]; simp)]; rfl

/-- Repeated as far as the loop has looked. -/
def repP (l : List Int) (k j : Nat) : Bool := decide (l.length % k = 0) && (List.range j).all fun i => l.getD (k + i) 0 == l.getD i 0
theorem repP_succ (l : List Int) (k j : Nat) : repP l k (j + 1) = (repP l k j && (l.getD (k + j) 0 == l.getD j 0)) := by
  unfold repP
  rw [List.range_succ, List.all_append, Bool.and_assoc]
  simp
theorem repP_zero (l : List Int) (k : Nat) : repP l k 0 = decide (l.length % k = 0) := by simp [repP]
theorem repP_next {l : List Int} {k j : Nat} (h : k ≤ j) : repP l k (j + 1 - k) = (repP l k (j - k) && (l.getD j 0 == l.getD (j - k) 0)) := by
  rw [show j + 1 - k = (j - k) + 1 by omega, repP_succ, show k + (j - k) = j by omega]

/-- What the operations of a drawn statement leave. -/
def RNf (w : World) (a nl : Ls) (bs : Nat) (a0 a1 x0 x1 : Option Addr) (c0 c1 y0 y1 : Nat) (ix : Nat) (v : Value) (W : World) : Prop :=
  match ix with
  | 0 => LV (nl) v W
  | 1 => v = .bool true
  | 2 => v = .bool false
  | 3 => v = .bool false
  | 4 => LV (a) v W
  | 5 => LV (nl) v W
  | 6 => v = .bool true
  | 7 => v = .bool false
  | 8 => v = .bool false
  | 9 => v = .bool false
  | 10 => v = .pointer (some ⟨bs, 0, none⟩)
  | 11 => v = .slice x0 nl.stem.length y0
  | 12 => v = .int .i64 (nl.stem.length : Int)
  | 13 => v = .pointer (some ⟨w.heap.size, 0, none⟩)
  | 14 => v = .slice a0 a.stem.length c0
  | 15 => v = .int .i64 (a.stem.length : Int)
  | 16 => v = .bool false
  | 17 => v = .bool false
  | 18 => v = .bool false
  | 19 => v = .pointer (some ⟨bs, 1, none⟩)
  | 20 => v = .slice x1 nl.loop.length y1
  | 21 => v = .int .i64 (nl.loop.length : Int)
  | 22 => v = .pointer (some ⟨w.heap.size, 1, none⟩)
  | 23 => v = .slice a1 a.loop.length c1
  | 24 => v = .int .i64 (a.loop.length : Int)
  | 25 => v = .bool false
  | 26 => v = .bool false
  | 27 => v = .bool false
  | 28 => LV (nl) v W
  | 29 => LV (nl) v W
  | 30 => LV (nl) v W
  | 31 => v = .bool true
  | 32 => v = .bool false
  | 33 => v = .bool false
  | _ => True
theorem RNf.mono (w : World) (a nl : Ls) (bs : Nat) (a0 a1 x0 x1 : Option Addr) (c0 c1 y0 y1 : Nat) (ix : Nat) (v : Value) (W W' : World) (h : RNf w a nl bs a0 a1 x0 x1 c0 c1 y0 y1 ix v W) (hb : Below W.heap.size W W') : RNf w a nl bs a0 a1 x0 x1 c0 c1 y0 y1 ix v W' := by
  unfold RNf at *
  split at h <;> first | exact h | exact SL.below h hb | exact LV.below h hb | exact RV.below h hb

set_option maxRecDepth 100000 in
set_option maxHeartbeats 8000000 in
theorem Normal_w (w : World) (va : Value) (a : Ls) (ha : IsLs w va a) :
    Calls Try.prog 4 #[va] w (Calm (.bool true) w) := by
  have hmx : Try.prog.follows .mixedOrders = true := by kernel_rfl
  obtain ⟨v0, v1, rfl, h0, h1⟩ := ha
  obtain ⟨b0, hB⟩ := boxOne (IsLs.mk h0 h1)
  have HA := Lib.hid b0
  obtain ⟨⟨a0, c0, -, -, rfl, -⟩, -⟩ := h0
  obtain ⟨⟨a1, c1, -, -, rfl, -⟩, -⟩ := h1
  have HB0 := Lib.hid hB
  go_enter Try.func4, Try.ntmps4
  go_upto_region 1 with (fail)
  generalize (w.alloc (Obj.cells #[Value.slice a0 a.stem.length c0, Value.slice a1 a.loop.length c1] 24)) = w2 at *
  clear b0 hB
  go_wp2_with fail
  refine (head_c w2).mono ?_
  rintro e w3 ⟨rfl, hW⟩
  obtain ⟨k0, k1, hld⟩ := HA.out w3 hW
  go_wp2_with fail
  obtain ⟨nl, hnl⟩ : ∃ nl, normalI a = nl := ⟨_, rfl⟩
  refine (hd_normal w3 hld hnl).mono ?_
  rintro e w4 ⟨v, rfl, ⟨x0, y0, x1, y1, rfl, hs⟩, hb4⟩
  replace hW := hW.trans (hb4.mono hW.size)
  clear hb4 hld k0 k1
  go_upto_region 3 with (fail)
  have hx := bel_box (w := w4) (Obj.cells #[Value.slice x0 nl.stem.length y0, Value.slice x1 nl.loop.length y1] 24)
  have HN : Hid (BoxL w4.heap.size (Value.slice x0 nl.stem.length y0) (Value.slice x1 nl.loop.length y1) nl (w4.alloc (Obj.cells #[Value.slice x0 nl.stem.length y0, Value.slice x1 nl.loop.length y1] 24))) := BoxL.of (heap_alloc_new w4 _) (hs.below hx)
  have hW5 := hW.trans (hx.mono hW.size)
  have HS := Lib.hid (hs.below hx)
  clear hs hW hx
  generalize (w4.alloc (Obj.cells #[Value.slice x0 nl.stem.length y0, Value.slice x1 nl.loop.length y1] 24)) = w5 at *
  generalize w4.heap.size = bs at *
  obtain ⟨k0, k1, hld⟩ := HA.out w5 hW5
  cases hfa : formB a with
  | false =>
    rw [normalI_bad hfa] at hnl
    subst hnl
    go_wp2_with fail
    refine (hr_formed w5 hld hfa).mono ?_
    rintro e w6 ⟨rfl, hb4⟩
    have hF := HB0.out.trans ((hW5.trans (hb4.mono hW5.size)).mono HB0.out.size)
    obtain ⟨m0, m1, -⟩ := HN.out w6 hb4
    clear hb4 hld k0 k1 hW5
    simp only [List.length_nil] at m0 m1
    have hz : IntKind.i64.wrap (((0 : Nat) : Int) + ((0 : Nat) : Int)) = ((0 : Nat) : Int) := by decide
    go_wp2
    go_ret
    exact ⟨ret_bool rfl, hF⟩
  | true =>
    have hfn := norm_facts hfa
    rw [hnl] at hfn
    obtain ⟨q1, q2, q3, q4, q5, q6⟩ := hfn
    have HQ1 := Lib.hid q1
    have HQ2 := Lib.hid q2
    have HQ5 := Lib.hid q5
    have HLast := Lib.hid (norm_last q6)
    have HMin := Lib.hid (fun k h0 h1 => normal_reps q6 (k := k) h0 h1)
    obtain ⟨hl0, hl1, hl2⟩ := formB_short q1
    have q3i : decide (a.stem.length < nl.stem.length) = false := decide_eq_false (by omega)
    have q4i : decide (a.loop.length < nl.loop.length) = false := decide_eq_false (by omega)
    clear q1 q2 q5 q6 q3 q4 hnl
    go_wp2_with fail
    refine (hr_formed w5 hld hfa).mono ?_
    rintro e w6 ⟨rfl, hb4⟩
    have HA6 := Lib.hid (HA.out.below (hW5.trans (hb4.mono hW5.size)))
    have HN6 := Lib.hid (HN.out.below hb4)
    have HS6 := Lib.hid (HS.out.below hb4)
    have HB6 := Lib.hid (HB0.out.trans ((hW5.trans (hb4.mono hW5.size)).mono HB0.out.size))
    clear hb4 hld k0 k1 hW5 HA HN HS HB0 hfa
    go_upto_region 5 with (fail)
    refine region_stable hmx (RNf w a nl bs a0 a1 x0 x1 c0 c1 y0 y1) (fun vs => { tmps := (_ :: _ :: _ :: _ :: _ :: _ :: _ :: _ :: _ :: _ :: _ :: _ :: _ :: _ :: _ :: _ :: _ :: _ :: _ :: _ :: _ :: _ :: _ :: _ :: _ :: vs 0 :: vs 1 :: vs 2 :: vs 3 :: vs 4 :: vs 5 :: vs 6 :: vs 7 :: vs 8 :: vs 9 :: vs 10 :: vs 11 :: vs 12 :: vs 13 :: vs 14 :: vs 15 :: vs 16 :: vs 17 :: vs 18 :: vs 19 :: vs 20 :: vs 21 :: vs 22 :: vs 23 :: vs 24 :: vs 25 :: vs 26 :: vs 27 :: vs 28 :: vs 29 :: vs 30 :: vs 31 :: vs 32 :: vs 33 :: _ :: _ :: _ :: _ :: _ :: _ :: _ :: _ :: _ :: _ :: _ :: _ :: _ :: _ :: _ :: _ :: _ :: _ :: _ :: _ :: _ :: _ :: _ :: _ :: _ :: _ :: _ :: _ :: _ :: _ :: _ :: _ :: _ :: _ :: _ :: _ :: _ :: _ :: _ :: _ :: _ :: _ :: _ :: _ :: _ :: _ :: _ :: _ :: _ :: _ :: _ :: _ :: _ :: _ :: _ :: _ :: _ :: _ :: _ :: _ :: _ :: _ :: _ :: _ :: []).toArray, defers := [] }) (fun _ => undef) rfl (by kernel_rfl) (RNf.mono w a nl bs a0 a1 x0 x1 c0 c1 y0 y1) ?step ?fin
    case step =>
      intro ix o ho
      match ix, ho with
      | 0, ho =>
        obtain rfl := Option.some.inj ho
        intro vs W K hB hD hK
        have HK := Lib.hid hK
        have hc := ((Below.drew (Below.refl _ _)).trans hB)
        obtain ⟨k0, k1, hld⟩ := HN6.out W hc
        clear hK hD ho
        dsimp only
        go_simp
        have h := HK.out _ _ (Below.refl _ _) hld
        simp only [upd, Nat.reduceEqDiff, reduceIte] at h
        exact h
      | 1, ho =>
        obtain rfl := Option.some.inj ho
        intro vs W K hB hD hK
        have HK := Lib.hid hK
        have d0 := dep_of hD 0 (by rfl)
        clear hK hD ho
        dsimp only
        go_simp
        refine (hr_formed W d0 HQ1.out).mono ?_
        rintro e W' ⟨rfl, hb⟩
        have h := HK.out _ _ hb rfl
        simp only [upd, Nat.reduceEqDiff, reduceIte] at h
        exact h
      | 2, ho =>
        obtain rfl := Option.some.inj ho
        intro vs W K hB hD hK
        have HK := Lib.hid hK
        have e1 : vs 1 = .bool true := dep_of hD 1 (by rfl)
        clear hK hD ho
        dsimp only
        go_simp
        have h := HK.out _ _ (Below.refl _ _) rfl
        simp only [upd, Nat.reduceEqDiff, reduceIte, e1] at h
        exact h
      | 3, ho =>
        obtain rfl := Option.some.inj ho
        intro vs W K hB hD hK
        have HK := Lib.hid hK
        have e2 : vs 2 = .bool false := dep_of hD 2 (by rfl)
        clear hK hD ho
        dsimp only
        go_simp
        have h := HK.out _ _ (Below.refl _ _) rfl
        simp only [upd, Nat.reduceEqDiff, reduceIte, e2] at h
        exact h
      | 4, ho =>
        obtain rfl := Option.some.inj ho
        intro vs W K hB hD hK
        have HK := Lib.hid hK
        have e3 : vs 3 = .bool false := dep_of hD 3 (by rfl)
        have hc := ((Below.drew (Below.refl _ _)).trans hB)
        obtain ⟨k0, k1, hld⟩ := HA6.out W hc
        clear hK hD ho
        dsimp only
        go_simp
        have h := HK.out _ _ (Below.refl _ _) hld
        simp only [upd, Nat.reduceEqDiff, reduceIte, e3] at h
        exact h
      | 5, ho =>
        obtain rfl := Option.some.inj ho
        intro vs W K hB hD hK
        have HK := Lib.hid hK
        have e3 : vs 3 = .bool false := dep_of hD 3 (by rfl)
        have hc := ((Below.drew (Below.refl _ _)).trans hB)
        obtain ⟨k0, k1, hld⟩ := HN6.out W hc
        clear hK hD ho
        dsimp only
        go_simp
        have h := HK.out _ _ (Below.refl _ _) hld
        simp only [upd, Nat.reduceEqDiff, reduceIte, e3] at h
        exact h
      | 6, ho =>
        obtain rfl := Option.some.inj ho
        intro vs W K hB hD hK
        have HK := Lib.hid hK
        have e3 : vs 3 = .bool false := dep_of hD 3 (by rfl)
        have d4 := dep_of hD 4 (by rfl)
        have d5 := dep_of hD 5 (by rfl)
        clear hK hD ho
        dsimp only
        go_simp
        refine (hd_agree W d4 d5 (n := 200) (by omega) HQ2.out).mono ?_
        rintro e W' ⟨rfl, hb⟩
        have h := HK.out _ _ hb rfl
        simp only [upd, Nat.reduceEqDiff, reduceIte, e3] at h
        exact h
      | 7, ho =>
        obtain rfl := Option.some.inj ho
        intro vs W K hB hD hK
        have HK := Lib.hid hK
        have e3 : vs 3 = .bool false := dep_of hD 3 (by rfl)
        have e6 : vs 6 = .bool true := dep_of hD 6 (by rfl)
        clear hK hD ho
        dsimp only
        go_simp
        have h := HK.out _ _ (Below.refl _ _) rfl
        simp only [upd, Nat.reduceEqDiff, reduceIte, e3, e6] at h
        exact h
      | 8, ho =>
        obtain rfl := Option.some.inj ho
        intro vs W K hB hD hK
        have HK := Lib.hid hK
        have e3 : vs 3 = .bool false := dep_of hD 3 (by rfl)
        have e7 : vs 7 = .bool false := dep_of hD 7 (by rfl)
        clear hK hD ho
        dsimp only
        go_simp
        have h := HK.out _ _ (Below.refl _ _) rfl
        simp only [upd, Nat.reduceEqDiff, reduceIte, e3, e7] at h
        exact h
      | 9, ho =>
        obtain rfl := Option.some.inj ho
        intro vs W K hB hD hK
        have HK := Lib.hid hK
        have e8 : vs 8 = .bool false := dep_of hD 8 (by rfl)
        clear hK hD ho
        dsimp only
        go_simp
        have h := HK.out _ _ (Below.refl _ _) rfl
        simp only [upd, Nat.reduceEqDiff, reduceIte, e8] at h
        exact h
      | 10, ho =>
        obtain rfl := Option.some.inj ho
        intro vs W K hB hD hK
        have HK := Lib.hid hK
        have e9 : vs 9 = .bool false := dep_of hD 9 (by rfl)
        clear hK hD ho
        dsimp only
        go_simp
        have h := HK.out _ _ (Below.refl _ _) rfl
        simp only [upd, Nat.reduceEqDiff, reduceIte, e9] at h
        exact h
      | 11, ho =>
        obtain rfl := Option.some.inj ho
        intro vs W K hB hD hK
        have HK := Lib.hid hK
        have e9 : vs 9 = .bool false := dep_of hD 9 (by rfl)
        have e10 : vs 10 = .pointer (some ⟨bs, 0, none⟩) := dep_of hD 10 (by rfl)
        have hc := ((Below.drew (Below.refl _ _)).trans hB)
        have hld := (HN6.out W hc).1
        clear hK hD ho
        dsimp only
        go_simp
        have h := HK.out _ _ (Below.refl _ _) rfl
        simp only [upd, Nat.reduceEqDiff, reduceIte, e9, e10] at h
        exact h
      | 12, ho =>
        obtain rfl := Option.some.inj ho
        intro vs W K hB hD hK
        have HK := Lib.hid hK
        have e9 : vs 9 = .bool false := dep_of hD 9 (by rfl)
        have e11 : vs 11 = .slice x0 nl.stem.length y0 := dep_of hD 11 (by rfl)
        clear hK hD ho
        dsimp only
        go_simp
        have h := HK.out _ _ (Below.refl _ _) rfl
        simp only [upd, Nat.reduceEqDiff, reduceIte, e9, e11] at h
        exact h
      | 13, ho =>
        obtain rfl := Option.some.inj ho
        intro vs W K hB hD hK
        have HK := Lib.hid hK
        have e9 : vs 9 = .bool false := dep_of hD 9 (by rfl)
        clear hK hD ho
        dsimp only
        go_simp
        have h := HK.out _ _ (Below.refl _ _) rfl
        simp only [upd, Nat.reduceEqDiff, reduceIte, e9] at h
        exact h
      | 14, ho =>
        obtain rfl := Option.some.inj ho
        intro vs W K hB hD hK
        have HK := Lib.hid hK
        have e9 : vs 9 = .bool false := dep_of hD 9 (by rfl)
        have e13 : vs 13 = .pointer (some ⟨w.heap.size, 0, none⟩) := dep_of hD 13 (by rfl)
        have hc := ((Below.drew (Below.refl _ _)).trans hB)
        have hld := (HA6.out W hc).1
        clear hK hD ho
        dsimp only
        go_simp
        have h := HK.out _ _ (Below.refl _ _) rfl
        simp only [upd, Nat.reduceEqDiff, reduceIte, e9, e13] at h
        exact h
      | 15, ho =>
        obtain rfl := Option.some.inj ho
        intro vs W K hB hD hK
        have HK := Lib.hid hK
        have e9 : vs 9 = .bool false := dep_of hD 9 (by rfl)
        have e14 : vs 14 = .slice a0 a.stem.length c0 := dep_of hD 14 (by rfl)
        clear hK hD ho
        dsimp only
        go_simp
        have h := HK.out _ _ (Below.refl _ _) rfl
        simp only [upd, Nat.reduceEqDiff, reduceIte, e9, e14] at h
        exact h
      | 16, ho =>
        obtain rfl := Option.some.inj ho
        intro vs W K hB hD hK
        have HK := Lib.hid hK
        have e9 : vs 9 = .bool false := dep_of hD 9 (by rfl)
        have e12 : vs 12 = .int .i64 (nl.stem.length : Int) := dep_of hD 12 (by rfl)
        have e15 : vs 15 = .int .i64 (a.stem.length : Int) := dep_of hD 15 (by rfl)
        clear hK hD ho
        dsimp only
        go_simp
        have h := HK.out _ _ (Below.refl _ _) rfl
        simp only [upd, Nat.reduceEqDiff, reduceIte, e9, e12, e15] at h
        exact h
      | 17, ho =>
        obtain rfl := Option.some.inj ho
        intro vs W K hB hD hK
        have HK := Lib.hid hK
        have e9 : vs 9 = .bool false := dep_of hD 9 (by rfl)
        have e16 : vs 16 = .bool false := dep_of hD 16 (by rfl)
        clear hK hD ho
        dsimp only
        go_simp
        have h := HK.out _ _ (Below.refl _ _) rfl
        simp only [upd, Nat.reduceEqDiff, reduceIte, e9, e16] at h
        exact h
      | 18, ho =>
        obtain rfl := Option.some.inj ho
        intro vs W K hB hD hK
        have HK := Lib.hid hK
        have e17 : vs 17 = .bool false := dep_of hD 17 (by rfl)
        clear hK hD ho
        dsimp only
        go_simp
        have h := HK.out _ _ (Below.refl _ _) rfl
        simp only [upd, Nat.reduceEqDiff, reduceIte, e17] at h
        exact h
      | 19, ho =>
        obtain rfl := Option.some.inj ho
        intro vs W K hB hD hK
        have HK := Lib.hid hK
        have e18 : vs 18 = .bool false := dep_of hD 18 (by rfl)
        clear hK hD ho
        dsimp only
        go_simp
        have h := HK.out _ _ (Below.refl _ _) rfl
        simp only [upd, Nat.reduceEqDiff, reduceIte, e18] at h
        exact h
      | 20, ho =>
        obtain rfl := Option.some.inj ho
        intro vs W K hB hD hK
        have HK := Lib.hid hK
        have e18 : vs 18 = .bool false := dep_of hD 18 (by rfl)
        have e19 : vs 19 = .pointer (some ⟨bs, 1, none⟩) := dep_of hD 19 (by rfl)
        have hc := ((Below.drew (Below.refl _ _)).trans hB)
        have hld := (HN6.out W hc).2.1
        clear hK hD ho
        dsimp only
        go_simp
        have h := HK.out _ _ (Below.refl _ _) rfl
        simp only [upd, Nat.reduceEqDiff, reduceIte, e18, e19] at h
        exact h
      | 21, ho =>
        obtain rfl := Option.some.inj ho
        intro vs W K hB hD hK
        have HK := Lib.hid hK
        have e18 : vs 18 = .bool false := dep_of hD 18 (by rfl)
        have e20 : vs 20 = .slice x1 nl.loop.length y1 := dep_of hD 20 (by rfl)
        clear hK hD ho
        dsimp only
        go_simp
        have h := HK.out _ _ (Below.refl _ _) rfl
        simp only [upd, Nat.reduceEqDiff, reduceIte, e18, e20] at h
        exact h
      | 22, ho =>
        obtain rfl := Option.some.inj ho
        intro vs W K hB hD hK
        have HK := Lib.hid hK
        have e18 : vs 18 = .bool false := dep_of hD 18 (by rfl)
        clear hK hD ho
        dsimp only
        go_simp
        have h := HK.out _ _ (Below.refl _ _) rfl
        simp only [upd, Nat.reduceEqDiff, reduceIte, e18] at h
        exact h
      | 23, ho =>
        obtain rfl := Option.some.inj ho
        intro vs W K hB hD hK
        have HK := Lib.hid hK
        have e18 : vs 18 = .bool false := dep_of hD 18 (by rfl)
        have e22 : vs 22 = .pointer (some ⟨w.heap.size, 1, none⟩) := dep_of hD 22 (by rfl)
        have hc := ((Below.drew (Below.refl _ _)).trans hB)
        have hld := (HA6.out W hc).2.1
        clear hK hD ho
        dsimp only
        go_simp
        have h := HK.out _ _ (Below.refl _ _) rfl
        simp only [upd, Nat.reduceEqDiff, reduceIte, e18, e22] at h
        exact h
      | 24, ho =>
        obtain rfl := Option.some.inj ho
        intro vs W K hB hD hK
        have HK := Lib.hid hK
        have e18 : vs 18 = .bool false := dep_of hD 18 (by rfl)
        have e23 : vs 23 = .slice a1 a.loop.length c1 := dep_of hD 23 (by rfl)
        clear hK hD ho
        dsimp only
        go_simp
        have h := HK.out _ _ (Below.refl _ _) rfl
        simp only [upd, Nat.reduceEqDiff, reduceIte, e18, e23] at h
        exact h
      | 25, ho =>
        obtain rfl := Option.some.inj ho
        intro vs W K hB hD hK
        have HK := Lib.hid hK
        have e18 : vs 18 = .bool false := dep_of hD 18 (by rfl)
        have e21 : vs 21 = .int .i64 (nl.loop.length : Int) := dep_of hD 21 (by rfl)
        have e24 : vs 24 = .int .i64 (a.loop.length : Int) := dep_of hD 24 (by rfl)
        clear hK hD ho
        dsimp only
        go_simp
        have h := HK.out _ _ (Below.refl _ _) rfl
        simp only [upd, Nat.reduceEqDiff, reduceIte, e18, e21, e24] at h
        exact h
      | 26, ho =>
        obtain rfl := Option.some.inj ho
        intro vs W K hB hD hK
        have HK := Lib.hid hK
        have e18 : vs 18 = .bool false := dep_of hD 18 (by rfl)
        have e25 : vs 25 = .bool false := dep_of hD 25 (by rfl)
        clear hK hD ho
        dsimp only
        go_simp
        have h := HK.out _ _ (Below.refl _ _) rfl
        simp only [upd, Nat.reduceEqDiff, reduceIte, e18, e25] at h
        exact h
      | 27, ho =>
        obtain rfl := Option.some.inj ho
        intro vs W K hB hD hK
        have HK := Lib.hid hK
        have e26 : vs 26 = .bool false := dep_of hD 26 (by rfl)
        clear hK hD ho
        dsimp only
        go_simp
        have h := HK.out _ _ (Below.refl _ _) rfl
        simp only [upd, Nat.reduceEqDiff, reduceIte, e26] at h
        exact h
      | 28, ho =>
        obtain rfl := Option.some.inj ho
        intro vs W K hB hD hK
        have HK := Lib.hid hK
        have e27 : vs 27 = .bool false := dep_of hD 27 (by rfl)
        have hc := ((Below.drew (Below.refl _ _)).trans hB)
        obtain ⟨k0, k1, hld⟩ := HN6.out W hc
        clear hK hD ho
        dsimp only
        go_simp
        have h := HK.out _ _ (Below.refl _ _) hld
        simp only [upd, Nat.reduceEqDiff, reduceIte, e27] at h
        exact h
      | 29, ho =>
        obtain rfl := Option.some.inj ho
        intro vs W K hB hD hK
        have HK := Lib.hid hK
        have e27 : vs 27 = .bool false := dep_of hD 27 (by rfl)
        have d28 := dep_of hD 28 (by rfl)
        clear hK hD ho
        dsimp only
        go_simp
        refine (hd_normal W d28 HQ5.out).mono ?_
        rintro e W' ⟨v, rfl, hv, hb⟩
        have h := HK.out _ _ hb hv
        simp only [upd, Nat.reduceEqDiff, reduceIte, e27] at h
        exact h
      | 30, ho =>
        obtain rfl := Option.some.inj ho
        intro vs W K hB hD hK
        have HK := Lib.hid hK
        have e27 : vs 27 = .bool false := dep_of hD 27 (by rfl)
        have hc := ((Below.drew (Below.refl _ _)).trans hB)
        obtain ⟨k0, k1, hld⟩ := HN6.out W hc
        clear hK hD ho
        dsimp only
        go_simp
        have h := HK.out _ _ (Below.refl _ _) hld
        simp only [upd, Nat.reduceEqDiff, reduceIte, e27] at h
        exact h
      | 31, ho =>
        obtain rfl := Option.some.inj ho
        intro vs W K hB hD hK
        have HK := Lib.hid hK
        have e27 : vs 27 = .bool false := dep_of hD 27 (by rfl)
        have d29 := dep_of hD 29 (by rfl)
        have d30 := dep_of hD 30 (by rfl)
        clear hK hD ho
        dsimp only
        go_simp
        refine (hd_eq W d29 d30).mono ?_
        rintro e W' ⟨rfl, hb⟩
        have h := HK.out _ _ hb rfl
        simp only [upd, Nat.reduceEqDiff, reduceIte, e27] at h
        exact h
      | 32, ho =>
        obtain rfl := Option.some.inj ho
        intro vs W K hB hD hK
        have HK := Lib.hid hK
        have e27 : vs 27 = .bool false := dep_of hD 27 (by rfl)
        have e31 : vs 31 = .bool true := dep_of hD 31 (by rfl)
        clear hK hD ho
        dsimp only
        go_simp
        have h := HK.out _ _ (Below.refl _ _) rfl
        simp only [upd, Nat.reduceEqDiff, reduceIte, e27, e31] at h
        exact h
      | 33, ho =>
        obtain rfl := Option.some.inj ho
        intro vs W K hB hD hK
        have HK := Lib.hid hK
        have e27 : vs 27 = .bool false := dep_of hD 27 (by rfl)
        have e32 : vs 32 = .bool false := dep_of hD 32 (by rfl)
        clear hK hD ho
        dsimp only
        go_simp
        have h := HK.out _ _ (Below.refl _ _) rfl
        simp only [upd, Nat.reduceEqDiff, reduceIte, e27, e32] at h
        exact h
      | n + 34, ho => simp at ho
    case fin =>
      intro vs W3 hB hall
      have e : vs 33 = .bool false := hall 33 (by decide)
      have hW := ((Below.drew (Below.refl _ _)).trans hB)
      clear hall hB
      rw [e]
      clear e
      generalize vs 0 = q0
      generalize vs 1 = q1
      generalize vs 2 = q2
      generalize vs 3 = q3
      generalize vs 4 = q4
      generalize vs 5 = q5
      generalize vs 6 = q6
      generalize vs 7 = q7
      generalize vs 8 = q8
      generalize vs 9 = q9
      generalize vs 10 = q10
      generalize vs 11 = q11
      generalize vs 12 = q12
      generalize vs 13 = q13
      generalize vs 14 = q14
      generalize vs 15 = q15
      generalize vs 16 = q16
      generalize vs 17 = q17
      generalize vs 18 = q18
      generalize vs 19 = q19
      generalize vs 20 = q20
      generalize vs 21 = q21
      generalize vs 22 = q22
      generalize vs 23 = q23
      generalize vs 24 = q24
      generalize vs 25 = q25
      generalize vs 26 = q26
      generalize vs 27 = q27
      generalize vs 28 = q28
      generalize vs 29 = q29
      generalize vs 30 = q30
      generalize vs 31 = q31
      generalize vs 32 = q32
      clear vs
      obtain ⟨v0, v1, hv, h0, h1⟩ := HS6.out
      obtain ⟨rfl, rfl⟩ : Value.slice x0 nl.stem.length y0 = v0 ∧ Value.slice x1 nl.loop.length y1 = v1 := by simpa using hv
      obtain ⟨⟨xo0, yo0, bp0, op0, hv0, g0⟩, -⟩ := h0
      obtain ⟨⟨xo1, yo1, bp1, op1, hv1, g1⟩, -⟩ := h1
      obtain ⟨rfl, rfl⟩ : x0 = xo0 ∧ y0 = yo0 := by simpa using hv0
      obtain ⟨rfl, rfl⟩ : x1 = xo1 ∧ y1 = yo1 := by simpa using hv1
      obtain rfl := g1.ad (by omega)
      have HAd := Lib.hid g0.ad
      have HG0 := Lib.hid g0.el
      have HG1 := Lib.hid g1.el
      clear HS6 hv hv0 hv1 g0 g1 HA6 q3i q4i
      obtain ⟨w7, rfl⟩ : ∃ w7 : World, w7 = W3 := ⟨_, rfl⟩
      go_wp2
      go_loopg [5, 6, 7] (nl.loop.length - 1) (fun gh i _ _ wr => ∃ k : Nat, gh = nl.loop.length - k ∧ i = .int .i64 k ∧ 1 ≤ k ∧ k ≤ nl.loop.length ∧ Below w6.heap.size w6 wr)
      case atStart => exact ⟨1, by omega, rfl, by omega, by omega, hW⟩
      case round =>
        clear hW
        obtain ⟨k, rfl, rfl, hk1, hk, hW⟩ := hrel
        obtain ⟨-, d1, -⟩ := HN6.out wr hW
        by_cases hlt : k < nl.loop.length
        · have hki : (k : Int) < nl.loop.length := by omega
          have hk0 : ¬ (k : Int) = 0 := by omega
          have hk0n : ¬ k = 0 := by omega
          have htm : (nl.loop.length : Int).tmod (k : Int) = ((nl.loop.length % k : Nat) : Int) := (Int.ofNat_tmod ..).symm
          have hm9 := Nat.mod_lt nl.loop.length (show 0 < k by omega)
          have hwm : IntKind.i64.wrap ((nl.loop.length % k : Nat) : Int) = ((nl.loop.length % k : Nat) : Int) := IntWalk.i64_in _ ⟨by omega, by omega⟩
          have HM : Hid (decide (nl.loop.length % k = 0) = repP nl.loop k 0) := (repP_zero _ _).symm
          have HMk : Hid (repP nl.loop k (nl.loop.length - k) = false) := HMin.out k (by omega) hlt
          generalize nl.loop.length % k = mm at *
          go_wp2
          obtain ⟨wo, rfl⟩ : ∃ wo : World, wo = wr := ⟨_, rfl⟩
          go_loopg [6, 7] (nl.loop.length - k) (fun gh rep i wx => ∃ (j : Nat) (q : Bool), gh = nl.loop.length - j ∧ i = .int .i64 j ∧ k ≤ j ∧ j ≤ nl.loop.length ∧ rep = .bool q ∧ Hid (q = repP nl.loop k (j - k)) ∧ Below w6.heap.size w6 wx)
          case atStart => exact ⟨k, _, by omega, rfl, by omega, by omega, rfl, by show _ = _; rw [Nat.sub_self, ← HM.out]; simp [Bool.beq_eq_decide_eq], hW⟩
          case round =>
            clear hW d1
            obtain ⟨j, q, rfl, rfl, hkj, hj, rfl, HR, hW⟩ := hrel
            obtain ⟨-, d1, -⟩ := HN6.out wr hW
            by_cases hjl : j < nl.loop.length
            · have hji : (j : Int) < nl.loop.length := by omega
              have e0 := cellB hW (HG1.out j (by omega))
              have e1 := cellB hW (HG1.out (j - k) (by omega))
              unfold ivF at e0 e1
              have HR2 : Hid (repP nl.loop k (j + 1 - k) = (q && (nl.loop.getD j 0 == nl.loop.getD (j - k) 0))) := by show _ = _; rw [repP_next hkj, ← HR.out]
              have hs1 : IntKind.i64.wrap ((j : Int) - k) = (j : Int) - k := IntWalk.i64_in _ ⟨by omega, by omega⟩
              have hs2 : ((j : Int) - k).toNat = j - k := by omega
              have hs3 : 0 ≤ (j : Int) - k := by omega
              have hs4 : (j : Int) - k < nl.loop.length := by omega
              have hs5 : IntKind.i64.wrap ((j : Int) + 1) = (j : Int) + 1 := IntWalk.i64_in _ ⟨by omega, by omega⟩
              generalize nl.loop.getD j 0 = z0 at *
              generalize nl.loop.getD (j - k) 0 = z1 at *
              clear HR
              cases q with
              | true =>
                go_wp2
                refine wp_region_quiet_lit (by kernel_rfl) (by kernel_rfl) ?_
                ((repeat (go_big_quiet_step (fail))); refine wpQuiet_nil ?_; rintro _ ⟨nq, rfl⟩)
                go_wp2
                go_roundg (nl.loop.length - (j + 1))
                case rel => exact ⟨j + 1, _, rfl, by go_num, by omega, by omega, rfl, by show _ = _; rw [HR2.out]; simp, belD hW nq⟩
                case measure => omega
              | false =>
                go_wp2
                refine wp_region_quiet_lit (by kernel_rfl) (by kernel_rfl) ?_
                ((repeat (go_big_quiet_step (fail))); refine wpQuiet_nil ?_; rintro _ ⟨nq, rfl⟩)
                go_wp2
                go_roundg (nl.loop.length - (j + 1))
                case rel => exact ⟨j + 1, _, rfl, by go_num, by omega, by omega, rfl, by show _ = _; rw [HR2.out]; simp, belD hW nq⟩
                case measure => omega
            · obtain rfl : nl.loop.length = j := by omega
              obtain rfl : q = false := HR.out.trans HMk.out
              go_wp2
              go_roundg (nl.loop.length - (k + 1))
              case rel => exact ⟨k + 1, rfl, by go_num, by omega, by omega, hW⟩
              case measure => omega
        · have hkl : k = nl.loop.length := by omega
          have hki : ¬ (k : Int) < nl.loop.length := by omega
          obtain ⟨d0, -, -⟩ := HN6.out wr hW
          have e1 := cellB hW (HG1.out (nl.loop.length - 1) (by omega))
          unfold ivF at e1
          have hs1 : IntKind.i64.wrap ((nl.loop.length : Int) - 1) = (nl.loop.length : Int) - 1 := IntWalk.i64_in _ ⟨by omega, by omega⟩
          have hs2 : ((nl.loop.length : Int) - 1).toNat = nl.loop.length - 1 := by omega
          have hs3 : 0 ≤ (nl.loop.length : Int) - 1 := by omega
          have hs4 : (nl.loop.length : Int) - 1 < nl.loop.length := by omega
          have hF := HB6.out.trans (hW.mono HB6.out.size)
          clear hkl
          by_cases hst : nl.stem.length = 0
          · have hsti : (nl.stem.length : Int) = 0 := by omega
            clear HLast
            go_wp2
            refine wp_region_quiet_lit (by kernel_rfl) (by kernel_rfl) ?_
            ((repeat (go_big_quiet_step (fail))); refine wpQuiet_nil ?_; rintro _ ⟨nq, rfl⟩)
            go_wp2
            go_ret
            exact ⟨ret_bool rfl, belD hF nq⟩
          · have hstb : ((nl.stem.length : Int) == 0) = false := beq_eq_false_iff_ne.2 (by omega)
            have hne := HLast.out.resolve_left hst
            obtain rfl := HAd.out (by omega)
            have e0 := cellB hW (HG0.out (nl.stem.length - 1) (by omega))
            unfold ivF at e0
            have hs5 : IntKind.i64.wrap ((nl.stem.length : Int) - 1) = (nl.stem.length : Int) - 1 := IntWalk.i64_in _ ⟨by omega, by omega⟩
            have hs6 : ((nl.stem.length : Int) - 1).toNat = nl.stem.length - 1 := by omega
            have hs7 : 0 ≤ (nl.stem.length : Int) - 1 := by omega
            have hs8 : (nl.stem.length : Int) - 1 < nl.stem.length := by omega
            generalize nl.stem.getD (nl.stem.length - 1) 0 = z0 at *
            generalize nl.loop.getD (nl.loop.length - 1) 0 = z1 at *
            have hzb : (z0 != z1) = true := by simpa using hne
            go_wp2
            refine wp_region_quiet_lit (by kernel_rfl) (by kernel_rfl) ?_
            ((repeat (go_big_quiet_step (fail))); refine wpQuiet_nil ?_; rintro _ ⟨nq, rfl⟩)
            go_wp2
            go_ret
            exact ⟨ret_bool rfl, belD hF nq⟩

end Go.Proofs.Ytgjpdnaeldpdeaa
