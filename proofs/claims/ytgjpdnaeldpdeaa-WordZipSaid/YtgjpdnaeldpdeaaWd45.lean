/- The walk of WordSuffix. -/
import Derived.Test.YtgjpdnaeldpdeaaWd44
namespace Go.Proofs.Ytgjpdnaeldpdeaa
open Go.RowKit

theorem suffixI_form {a : Ls} (h : formB a = true) (n : Nat) : suffixI a n = suffixL a n := by
  unfold suffixI
  rw [if_pos ⟨by omega, h⟩]
  simp
theorem suffix_at {a : Ls} (h : formB a = true) (n k : Nat) : atI (suffixI a n) k = atI a ((n : Int) + (k : Int)) := by
  rw [suffixI_form h, atI_form (suffix_formed h n), suffix_word (form_pos h)]
  have := atI_form h (n + k)
  rw [← this]
  congr 1
theorem suffix_sum {a : Ls} (h : formB a = true) (n m : Nat) : suffixI (suffixI a n) m = suffixI a ((n : Int) + (m : Int)) := by
  rw [suffixI_form h, suffixI_form (suffix_formed h n), suffix_suffix (form_pos h)]
  rw [← suffixI_form h (n + m)]
  congr 1
theorem suffix_zero {a : Ls} (h : formB a = true) : sameI (suffixI a 0) a = true := by
  have h0 : suffixI a 0 = suffixL a 0 := suffixI_form h 0
  rw [h0, same_agree (suffix_formed h 0) h]
  intro i _
  rw [suffix_word (form_pos h), Nat.zero_add]
theorem suffix_neg {a : Ls} {n : Int} (h : n < 0) : suffixI a n = ⟨[], []⟩ := by
  unfold suffixI; rw [if_neg (by omega)]; rfl
theorem suffix_bad {a : Ls} {n : Int} (h : formB a = false) : suffixI a n = ⟨[], []⟩ := by
  unfold suffixI; rw [if_neg (by rw [h]; simp)]; rfl

/-- One lasso given is boxed. -/
theorem boxOne {w : World} {x0 x1 : Value} {a : Ls} (ha : IsLs w (.agg #[x0, x1]) a) :
    BoxL w.heap.size x0 x1 a (w.alloc (Obj.cells #[x0, x1] 24)) ∧ Below w.heap.size w (w.alloc (Obj.cells #[x0, x1] 24)) :=
  ⟨BoxL.of (heap_alloc_new w _) (ha.below (bel_box _)), bel_box _⟩

/-- What the operations of a drawn statement leave. -/
def RSf (a : Ls) (n k : Nat) (ix : Nat) (v : Value) (W : World) : Prop :=
  match ix with
  | 0 => LV (suffixI a n) v W
  | 1 => v = .int .i64 (k : Int)
  | 2 => v = .int .i64 (atI a ((n : Int) + (k : Int)))
  | 3 => LV (a) v W
  | 4 => v = .int .i64 (n : Int)
  | 5 => v = .int .i64 (k : Int)
  | 6 => v = .int .i64 ((n : Int) + (k : Int))
  | 7 => v = .int .i64 (atI a ((n : Int) + (k : Int)))
  | 8 => v = .bool false
  | _ => True
theorem RSf.mono (a : Ls) (n k : Nat) (ix : Nat) (v : Value) (W W' : World) (h : RSf a n k ix v W) (hb : Below W.heap.size W W') : RSf a n k ix v W' := by
  unfold RSf at *
  split at h <;> first | exact h | exact SL.below h hb | exact LV.below h hb | exact RV.below h hb

/-- What the operations of a drawn statement leave. -/
def RSg (a : Ls) (n m : Nat) (ix : Nat) (v : Value) (W : World) : Prop :=
  match ix with
  | 0 => v = .bool true
  | 1 => v = .bool true
  | 2 => LV (suffixI a n) v W
  | 3 => v = .int .i64 (m : Int)
  | 4 => LV (suffixI a ((n : Int) + (m : Int))) v W
  | 5 => LV (a) v W
  | 6 => v = .int .i64 (n : Int)
  | 7 => v = .int .i64 (m : Int)
  | 8 => v = .int .i64 ((n : Int) + (m : Int))
  | 9 => LV (suffixI a ((n : Int) + (m : Int))) v W
  | 10 => v = .bool true
  | 11 => v = .bool true
  | 12 => v = .bool true
  | 13 => LV (a) v W
  | 14 => LV (suffixI a 0) v W
  | 15 => LV (a) v W
  | 16 => v = .bool true
  | 17 => v = .bool true
  | 18 => v = .bool true
  | _ => True
theorem RSg.mono (a : Ls) (n m : Nat) (ix : Nat) (v : Value) (W W' : World) (h : RSg a n m ix v W) (hb : Below W.heap.size W W') : RSg a n m ix v W' := by
  unfold RSg at *
  split at h <;> first | exact h | exact SL.below h hb | exact LV.below h hb | exact RV.below h hb

set_option maxRecDepth 100000 in
set_option maxHeartbeats 8000000 in
theorem Suffix_w (w : World) (va : Value) (a : Ls) (n m : Int) (ha : IsLs w va a) (hn : I64 n) (hm : I64 m) :
    Calls Try.prog 6 #[va, .int .i64 n, .int .i64 m] w (Calm (.bool true) w) := by
  have hmx : Try.prog.follows .mixedOrders = true := by kernel_rfl
  have HI := Lib.hid hn
  obtain ⟨v0, v1, rfl, h0, h1⟩ := ha
  obtain ⟨b0, hB⟩ := boxOne (IsLs.mk h0 h1)
  have HA := Lib.hid b0
  obtain ⟨⟨a0, c0, -, -, rfl, -⟩, -⟩ := h0
  obtain ⟨⟨a1, c1, -, -, rfl, -⟩, -⟩ := h1
  have HB0 := Lib.hid hB
  go_enter Try.func6, Try.ntmps6
  go_upto_region 1 with (fail)
  generalize (w.alloc (Obj.cells #[Value.slice a0 a.stem.length c0, Value.slice a1 a.loop.length c1] 24)) = w2 at *
  clear b0 hB hn
  go_wp2_with fail
  refine (head_c w2).mono ?_
  rintro e w3 ⟨rfl, hW⟩
  obtain ⟨k0, k1, hld⟩ := HA.out w3 hW
  go_wp2_with fail
  cases hfa : formB a with
  | false =>
    have hz := suffix_bad (n := n) hfa
    refine (hr_formed w3 hld hfa).mono ?_
    rintro e w4 ⟨rfl, hb4⟩
    replace hW := hW.trans (hb4.mono hW.size)
    clear hb4 hld k0 k1
    obtain ⟨k0, k1, hld⟩ := HA.out w4 hW
    by_cases h1 : n < 0
    · go_wp2_with fail
      refine (hd_suffix w4 hld HI.out hz).mono ?_
      rintro e w5 ⟨v, rfl, ⟨x0, y0, x1, y1, rfl, -⟩, hb4⟩
      have hF := HB0.out.trans ((hW.trans (hb4.mono hW.size)).mono HB0.out.size)
      clear hb4 hld k0 k1
      simp only [List.length_nil]
      have hfd : Sem.run Try.prog (Instr.field 24 (.agg #[.slice x0 0 y0, .slice x1 0 y1]) 1) w5 = .ok (.slice x1 0 y1) w5 := rfl
      go_wp2
      go_ret
      exact ⟨ret_bool rfl, hF⟩
    · go_wp2_with fail
      refine (hr_formed w4 hld hfa).mono ?_
      rintro e w4 ⟨rfl, hb4⟩
      replace hW := hW.trans (hb4.mono hW.size)
      clear hb4 hld k0 k1
      obtain ⟨k0, k1, hld⟩ := HA.out w4 hW
      go_wp2_with fail
      refine (hd_suffix w4 hld HI.out hz).mono ?_
      rintro e w5 ⟨v, rfl, ⟨x0, y0, x1, y1, rfl, -⟩, hb4⟩
      have hF := HB0.out.trans ((hW.trans (hb4.mono hW.size)).mono HB0.out.size)
      clear hb4 hld k0 k1
      simp only [List.length_nil]
      have hfd : Sem.run Try.prog (Instr.field 24 (.agg #[.slice x0 0 y0, .slice x1 0 y1]) 1) w5 = .ok (.slice x1 0 y1) w5 := rfl
      go_wp2
      go_ret
      exact ⟨ret_bool rfl, hF⟩
  | true =>
    refine (hr_formed w3 hld hfa).mono ?_
    rintro e w4 ⟨rfl, hb4⟩
    replace hW := hW.trans (hb4.mono hW.size)
    clear hb4 hld k0 k1
    obtain ⟨k0, k1, hld⟩ := HA.out w4 hW
    by_cases h1 : n < 0
    case pos =>
      have hz := suffix_neg (a := a) h1
      go_wp2_with fail
      refine (hd_suffix w4 hld HI.out hz).mono ?_
      rintro e w5 ⟨v, rfl, ⟨x0, y0, x1, y1, rfl, -⟩, hb4⟩
      have hF := HB0.out.trans ((hW.trans (hb4.mono hW.size)).mono HB0.out.size)
      clear hb4 hld k0 k1
      simp only [List.length_nil]
      have hfd : Sem.run Try.prog (Instr.field 24 (.agg #[.slice x0 0 y0, .slice x1 0 y1]) 1) w5 = .ok (.slice x1 0 y1) w5 := rfl
      go_wp2
      go_ret
      exact ⟨ret_bool rfl, hF⟩
    by_cases h2 : m < 0
    case pos =>
      go_wp2_with fail
      refine (hr_formed w4 hld hfa).mono ?_
      rintro e w5 ⟨rfl, hb4⟩
      have hF := HB0.out.trans ((hW.trans (hb4.mono hW.size)).mono HB0.out.size)
      clear hb4 hld k0 k1
      go_wp2
      go_ret
      exact ⟨ret_bool rfl, hF⟩
    by_cases h3 : 1000 < n
    case pos =>
      go_wp2_with fail
      refine (hr_formed w4 hld hfa).mono ?_
      rintro e w5 ⟨rfl, hb4⟩
      have hF := HB0.out.trans ((hW.trans (hb4.mono hW.size)).mono HB0.out.size)
      clear hb4 hld k0 k1
      go_wp2
      go_ret
      exact ⟨ret_bool rfl, hF⟩
    by_cases h4 : 1000 < m
    case pos =>
      go_wp2_with fail
      refine (hr_formed w4 hld hfa).mono ?_
      rintro e w5 ⟨rfl, hb4⟩
      have hF := HB0.out.trans ((hW.trans (hb4.mono hW.size)).mono HB0.out.size)
      clear hb4 hld k0 k1
      go_wp2
      go_ret
      exact ⟨ret_bool rfl, hF⟩
    obtain ⟨n, rfl⟩ : ∃ k : Nat, n = k := ⟨n.toNat, by omega⟩
    obtain ⟨m, rfl⟩ : ∃ k : Nat, m = k := ⟨m.toNat, by omega⟩
    have HQ := Lib.hid (fun k : Nat => suffix_at hfa n k)
    have HU := Lib.hid (suffix_sum hfa n m)
    have HZ := Lib.hid (suffix_zero hfa)
    have HIm := Lib.hid hm
    clear hfa hm
    go_wp2_with fail
    refine (hd_suffix w4 hld HI.out rfl).mono ?_
    rintro e w5 ⟨v, rfl, ⟨x0, y0, x1, y1, rfl, hs⟩, hb4⟩
    have hW5 := hW.trans (hb4.mono hW.size)
    clear hb4 hld k0 k1 hW
    go_upto_region 6 with (fail)
    have hx := bel_box (w := w5) (Obj.cells #[Value.slice x0 (suffixI a n).stem.length y0, Value.slice x1 (suffixI a n).loop.length y1] 24)
    have HS : Hid (BoxL w5.heap.size (Value.slice x0 (suffixI a n).stem.length y0) (Value.slice x1 (suffixI a n).loop.length y1) (suffixI a n) (w5.alloc (Obj.cells #[Value.slice x0 (suffixI a n).stem.length y0, Value.slice x1 (suffixI a n).loop.length y1] 24))) := BoxL.of (heap_alloc_new w5 _) (hs.below hx)
    have hW6 := hW5.trans (hx.mono hW5.size)
    have HA6 := Lib.hid (HA.out.below hW6)
    have HB6 := Lib.hid (HB0.out.trans (hW6.mono HB0.out.size))
    clear hs hx hW5 hW6 HA HB0
    generalize (w5.alloc (Obj.cells #[Value.slice x0 (suffixI a n).stem.length y0, Value.slice x1 (suffixI a n).loop.length y1] 24)) = w6 at *
    generalize w5.heap.size = bs at *
    go_loopg [9] 120 (fun gh i wr => ∃ k : Nat, gh = 120 - k ∧ i = .int .i64 k ∧ k ≤ 120 ∧ Below w6.heap.size w6 wr)
    case atStart => exact ⟨0, by omega, rfl, by omega, Below.refl _ _⟩
    case round =>
      obtain ⟨k, rfl, rfl, hk, hW⟩ := hrel
      by_cases hlt : k < 120
      · have hki : (k : Int) < 120 := by omega
        have HIk := Lib.hid (show I64 (k : Int) by unfold I64; omega)
        have hwk : IntKind.i64.wrap ((n : Int) + (k : Int)) = (n : Int) + (k : Int) := IntWalk.i64_in _ ⟨by omega, by omega⟩
        go_upto_region 8 with (fail)
        refine region_stable hmx (RSf a n k) (fun vs => { tmps := (_ :: _ :: _ :: _ :: _ :: _ :: _ :: _ :: _ :: _ :: _ :: _ :: _ :: _ :: _ :: _ :: _ :: _ :: _ :: _ :: _ :: _ :: _ :: _ :: _ :: _ :: _ :: _ :: _ :: _ :: _ :: _ :: _ :: _ :: _ :: _ :: _ :: _ :: _ :: _ :: _ :: _ :: _ :: _ :: _ :: _ :: _ :: _ :: _ :: _ :: _ :: _ :: _ :: _ :: vs 0 :: vs 1 :: vs 2 :: vs 3 :: vs 4 :: vs 5 :: vs 6 :: vs 7 :: vs 8 :: _ :: _ :: _ :: _ :: _ :: _ :: _ :: _ :: _ :: _ :: _ :: _ :: _ :: _ :: _ :: _ :: _ :: _ :: []).toArray, defers := [] }) (fun n => [u54, u55, u56, u57, u58, u59, u60, u61, u62].getD n undef) rfl (by kernel_rfl) (RSf.mono a n k) ?step8 ?fin8
        case step8 =>
          intro ix o ho
          match ix, ho with
          | 0, ho =>
            obtain rfl := Option.some.inj ho
            intro vs W K hB hD hK
            have HK := Lib.hid hK
            have hc := hW.trans (((Below.drew (Below.refl _ _)).trans hB).mono hW.size)
            obtain ⟨k0, k1, hld⟩ := HS.out W hc
            clear hK hD ho
            dsimp only
            go_simp
            have h := HK.out _ _ (Below.refl _ _) hld
            simp only [upd, Nat.reduceEqDiff, reduceIte] at h
            exact h
          | 1, ho =>
            obtain rfl := Option.some.inj ho
            intro vs W K hB hD hK
            have HK := Lib.hid hK
            clear hK hD ho
            dsimp only
            go_simp
            have h := HK.out _ _ (Below.refl _ _) rfl
            simp only [upd, Nat.reduceEqDiff, reduceIte] at h
            exact h
          | 2, ho =>
            obtain rfl := Option.some.inj ho
            intro vs W K hB hD hK
            have HK := Lib.hid hK
            have d0 := dep_of hD 0 (by rfl)
            have e1 : vs 1 = .int .i64 (k : Int) := dep_of hD 1 (by rfl)
            clear hK hD ho
            dsimp only
            go_simp
            refine (hd_at W d0 HIk.out (HQ.out k)).mono ?_
            rintro e W' ⟨rfl, hb⟩
            have h := HK.out _ _ hb rfl
            simp only [upd, Nat.reduceEqDiff, reduceIte, e1] at h
            exact h
          | 3, ho =>
            obtain rfl := Option.some.inj ho
            intro vs W K hB hD hK
            have HK := Lib.hid hK
            have hc := hW.trans (((Below.drew (Below.refl _ _)).trans hB).mono hW.size)
            obtain ⟨k0, k1, hld⟩ := HA6.out W hc
            clear hK hD ho
            dsimp only
            go_simp
            have h := HK.out _ _ (Below.refl _ _) hld
            simp only [upd, Nat.reduceEqDiff, reduceIte] at h
            exact h
          | 4, ho =>
            obtain rfl := Option.some.inj ho
            intro vs W K hB hD hK
            have HK := Lib.hid hK
            clear hK hD ho
            dsimp only
            go_simp
            have h := HK.out _ _ (Below.refl _ _) rfl
            simp only [upd, Nat.reduceEqDiff, reduceIte] at h
            exact h
          | 5, ho =>
            obtain rfl := Option.some.inj ho
            intro vs W K hB hD hK
            have HK := Lib.hid hK
            clear hK hD ho
            dsimp only
            go_simp
            have h := HK.out _ _ (Below.refl _ _) rfl
            simp only [upd, Nat.reduceEqDiff, reduceIte] at h
            exact h
          | 6, ho =>
            obtain rfl := Option.some.inj ho
            intro vs W K hB hD hK
            have HK := Lib.hid hK
            have e4 : vs 4 = .int .i64 (n : Int) := dep_of hD 4 (by rfl)
            have e5 : vs 5 = .int .i64 (k : Int) := dep_of hD 5 (by rfl)
            clear hK hD ho
            dsimp only
            go_simp
            have h := HK.out _ _ (Below.refl _ _) rfl
            simp only [upd, Nat.reduceEqDiff, reduceIte, e4, e5] at h
            exact h
          | 7, ho =>
            obtain rfl := Option.some.inj ho
            intro vs W K hB hD hK
            have HK := Lib.hid hK
            have d3 := dep_of hD 3 (by rfl)
            have e6 : vs 6 = .int .i64 ((n : Int) + (k : Int)) := dep_of hD 6 (by rfl)
            clear hK hD ho
            dsimp only
            go_simp
            refine (hd_at W d3 (by unfold I64; omega) rfl).mono ?_
            rintro e W' ⟨rfl, hb⟩
            have h := HK.out _ _ hb rfl
            simp only [upd, Nat.reduceEqDiff, reduceIte, e6] at h
            exact h
          | 8, ho =>
            obtain rfl := Option.some.inj ho
            intro vs W K hB hD hK
            have HK := Lib.hid hK
            have e2 : vs 2 = .int .i64 (atI a ((n : Int) + (k : Int))) := dep_of hD 2 (by rfl)
            have e7 : vs 7 = .int .i64 (atI a ((n : Int) + (k : Int))) := dep_of hD 7 (by rfl)
            clear hK hD ho
            dsimp only
            go_simp
            have h := HK.out _ _ (Below.refl _ _) rfl
            simp only [upd, Nat.reduceEqDiff, reduceIte, e2, e7] at h
            exact h
          | n + 9, ho => simp at ho
        case fin8 =>
          intro vs W3 hB hall
          have e : vs 8 = .bool false := hall 8 (by decide)
          have hW7 := hW.trans (((Below.drew (Below.refl _ _)).trans hB).mono hW.size)
          clear hall hB hW
          rw [e]
          clear e
          generalize vs 0 = q0
          generalize vs 1 = q1
          generalize vs 2 = q2
          generalize vs 3 = q3
          generalize vs 4 = q4
          generalize vs 5 = q5
          generalize vs 6 = q6
          generalize vs 7 = q7
          clear vs
          go_wp2
          go_roundg (120 - (k + 1))
          case rel => exact ⟨k + 1, rfl, by go_num, by omega, hW7⟩
          case measure => omega
      · obtain rfl : k = 120 := by omega
        have hwm : IntKind.i64.wrap ((n : Int) + (m : Int)) = (n : Int) + (m : Int) := IntWalk.i64_in _ ⟨by omega, by omega⟩
        go_upto_region 10 with (fail)
        refine region_stable hmx (RSg a n m) (fun vs => { tmps := (_ :: _ :: _ :: _ :: _ :: _ :: vs 18 :: _ :: _ :: _ :: _ :: _ :: _ :: _ :: _ :: _ :: _ :: _ :: _ :: _ :: _ :: _ :: _ :: _ :: _ :: _ :: _ :: _ :: _ :: _ :: _ :: _ :: _ :: _ :: _ :: _ :: _ :: _ :: _ :: _ :: _ :: _ :: _ :: _ :: _ :: _ :: _ :: _ :: _ :: _ :: _ :: _ :: _ :: _ :: _ :: _ :: _ :: _ :: _ :: _ :: _ :: _ :: _ :: vs 0 :: vs 1 :: vs 2 :: vs 3 :: vs 4 :: vs 5 :: vs 6 :: vs 7 :: vs 8 :: vs 9 :: vs 10 :: vs 11 :: vs 12 :: vs 13 :: vs 14 :: vs 15 :: vs 16 :: vs 17 :: []).toArray, defers := [] }) (fun n => [undef, undef, undef, undef, undef, undef, undef, undef, undef, undef, undef, undef, undef, undef, undef, undef, undef, undef, u6].getD n undef) rfl (by kernel_rfl) (RSg.mono a n m) ?step ?fin
        case step =>
          intro ix o ho
          match ix, ho with
          | 0, ho =>
            obtain rfl := Option.some.inj ho
            intro vs W K hB hD hK
            have HK := Lib.hid hK
            clear hK hD ho
            dsimp only
            go_simp
            have h := HK.out _ _ (Below.refl _ _) rfl
            simp only [upd, Nat.reduceEqDiff, reduceIte] at h
            exact h
          | 1, ho =>
            obtain rfl := Option.some.inj ho
            intro vs W K hB hD hK
            have HK := Lib.hid hK
            have e0 : vs 0 = .bool true := dep_of hD 0 (by rfl)
            clear hK hD ho
            dsimp only
            go_simp
            have h := HK.out _ _ (Below.refl _ _) rfl
            simp only [upd, Nat.reduceEqDiff, reduceIte, e0] at h
            exact h
          | 2, ho =>
            obtain rfl := Option.some.inj ho
            intro vs W K hB hD hK
            have HK := Lib.hid hK
            have e1 : vs 1 = .bool true := dep_of hD 1 (by rfl)
            have hc := hW.trans (((Below.drew (Below.refl _ _)).trans hB).mono hW.size)
            obtain ⟨k0, k1, hld⟩ := HS.out W hc
            clear hK hD ho
            dsimp only
            go_simp
            have h := HK.out _ _ (Below.refl _ _) hld
            simp only [upd, Nat.reduceEqDiff, reduceIte, e1] at h
            exact h
          | 3, ho =>
            obtain rfl := Option.some.inj ho
            intro vs W K hB hD hK
            have HK := Lib.hid hK
            have e1 : vs 1 = .bool true := dep_of hD 1 (by rfl)
            clear hK hD ho
            dsimp only
            go_simp
            have h := HK.out _ _ (Below.refl _ _) rfl
            simp only [upd, Nat.reduceEqDiff, reduceIte, e1] at h
            exact h
          | 4, ho =>
            obtain rfl := Option.some.inj ho
            intro vs W K hB hD hK
            have HK := Lib.hid hK
            have e1 : vs 1 = .bool true := dep_of hD 1 (by rfl)
            have d2 := dep_of hD 2 (by rfl)
            have e3 : vs 3 = .int .i64 (m : Int) := dep_of hD 3 (by rfl)
            clear hK hD ho
            dsimp only
            go_simp
            refine (hd_suffix W d2 HIm.out HU.out).mono ?_
            rintro e W' ⟨v, rfl, hv, hb⟩
            have h := HK.out _ _ hb hv
            simp only [upd, Nat.reduceEqDiff, reduceIte, e1, e3] at h
            exact h
          | 5, ho =>
            obtain rfl := Option.some.inj ho
            intro vs W K hB hD hK
            have HK := Lib.hid hK
            have e1 : vs 1 = .bool true := dep_of hD 1 (by rfl)
            have hc := hW.trans (((Below.drew (Below.refl _ _)).trans hB).mono hW.size)
            obtain ⟨k0, k1, hld⟩ := HA6.out W hc
            clear hK hD ho
            dsimp only
            go_simp
            have h := HK.out _ _ (Below.refl _ _) hld
            simp only [upd, Nat.reduceEqDiff, reduceIte, e1] at h
            exact h
          | 6, ho =>
            obtain rfl := Option.some.inj ho
            intro vs W K hB hD hK
            have HK := Lib.hid hK
            have e1 : vs 1 = .bool true := dep_of hD 1 (by rfl)
            clear hK hD ho
            dsimp only
            go_simp
            have h := HK.out _ _ (Below.refl _ _) rfl
            simp only [upd, Nat.reduceEqDiff, reduceIte, e1] at h
            exact h
          | 7, ho =>
            obtain rfl := Option.some.inj ho
            intro vs W K hB hD hK
            have HK := Lib.hid hK
            have e1 : vs 1 = .bool true := dep_of hD 1 (by rfl)
            clear hK hD ho
            dsimp only
            go_simp
            have h := HK.out _ _ (Below.refl _ _) rfl
            simp only [upd, Nat.reduceEqDiff, reduceIte, e1] at h
            exact h
          | 8, ho =>
            obtain rfl := Option.some.inj ho
            intro vs W K hB hD hK
            have HK := Lib.hid hK
            have e1 : vs 1 = .bool true := dep_of hD 1 (by rfl)
            have e6 : vs 6 = .int .i64 (n : Int) := dep_of hD 6 (by rfl)
            have e7 : vs 7 = .int .i64 (m : Int) := dep_of hD 7 (by rfl)
            clear hK hD ho
            dsimp only
            go_simp
            have h := HK.out _ _ (Below.refl _ _) rfl
            simp only [upd, Nat.reduceEqDiff, reduceIte, e1, e6, e7] at h
            exact h
          | 9, ho =>
            obtain rfl := Option.some.inj ho
            intro vs W K hB hD hK
            have HK := Lib.hid hK
            have e1 : vs 1 = .bool true := dep_of hD 1 (by rfl)
            have d5 := dep_of hD 5 (by rfl)
            have e8 : vs 8 = .int .i64 ((n : Int) + (m : Int)) := dep_of hD 8 (by rfl)
            clear hK hD ho
            dsimp only
            go_simp
            refine (hd_suffix W d5 (by unfold I64; omega) rfl).mono ?_
            rintro e W' ⟨v, rfl, hv, hb⟩
            have h := HK.out _ _ hb hv
            simp only [upd, Nat.reduceEqDiff, reduceIte, e1, e8] at h
            exact h
          | 10, ho =>
            obtain rfl := Option.some.inj ho
            intro vs W K hB hD hK
            have HK := Lib.hid hK
            have e1 : vs 1 = .bool true := dep_of hD 1 (by rfl)
            have d4 := dep_of hD 4 (by rfl)
            have d9 := dep_of hD 9 (by rfl)
            clear hK hD ho
            dsimp only
            go_simp
            refine (hd_eq W d4 d9).mono ?_
            rintro e W' ⟨rfl, hb⟩
            have h := HK.out _ _ hb rfl
            simp only [upd, Nat.reduceEqDiff, reduceIte, e1] at h
            exact h
          | 11, ho =>
            obtain rfl := Option.some.inj ho
            intro vs W K hB hD hK
            have HK := Lib.hid hK
            have e1 : vs 1 = .bool true := dep_of hD 1 (by rfl)
            have e10 : vs 10 = .bool true := dep_of hD 10 (by rfl)
            clear hK hD ho
            dsimp only
            go_simp
            have h := HK.out _ _ (Below.refl _ _) rfl
            simp only [upd, Nat.reduceEqDiff, reduceIte, e1, e10] at h
            exact h
          | 12, ho =>
            obtain rfl := Option.some.inj ho
            intro vs W K hB hD hK
            have HK := Lib.hid hK
            have e11 : vs 11 = .bool true := dep_of hD 11 (by rfl)
            clear hK hD ho
            dsimp only
            go_simp
            have h := HK.out _ _ (Below.refl _ _) rfl
            simp only [upd, Nat.reduceEqDiff, reduceIte, e11] at h
            exact h
          | 13, ho =>
            obtain rfl := Option.some.inj ho
            intro vs W K hB hD hK
            have HK := Lib.hid hK
            have e12 : vs 12 = .bool true := dep_of hD 12 (by rfl)
            have hc := hW.trans (((Below.drew (Below.refl _ _)).trans hB).mono hW.size)
            obtain ⟨k0, k1, hld⟩ := HA6.out W hc
            clear hK hD ho
            dsimp only
            go_simp
            have h := HK.out _ _ (Below.refl _ _) hld
            simp only [upd, Nat.reduceEqDiff, reduceIte, e12] at h
            exact h
          | 14, ho =>
            obtain rfl := Option.some.inj ho
            intro vs W K hB hD hK
            have HK := Lib.hid hK
            have e12 : vs 12 = .bool true := dep_of hD 12 (by rfl)
            have d13 := dep_of hD 13 (by rfl)
            clear hK hD ho
            dsimp only
            go_simp
            refine (hd_suffix W d13 (by unfold I64; omega) rfl).mono ?_
            rintro e W' ⟨v, rfl, hv, hb⟩
            have h := HK.out _ _ hb hv
            simp only [upd, Nat.reduceEqDiff, reduceIte, e12] at h
            exact h
          | 15, ho =>
            obtain rfl := Option.some.inj ho
            intro vs W K hB hD hK
            have HK := Lib.hid hK
            have e12 : vs 12 = .bool true := dep_of hD 12 (by rfl)
            have hc := hW.trans (((Below.drew (Below.refl _ _)).trans hB).mono hW.size)
            obtain ⟨k0, k1, hld⟩ := HA6.out W hc
            clear hK hD ho
            dsimp only
            go_simp
            have h := HK.out _ _ (Below.refl _ _) hld
            simp only [upd, Nat.reduceEqDiff, reduceIte, e12] at h
            exact h
          | 16, ho =>
            obtain rfl := Option.some.inj ho
            intro vs W K hB hD hK
            have HK := Lib.hid hK
            have e12 : vs 12 = .bool true := dep_of hD 12 (by rfl)
            have d14 := dep_of hD 14 (by rfl)
            have d15 := dep_of hD 15 (by rfl)
            clear hK hD ho
            dsimp only
            go_simp
            refine (hd_same W d14 d15 HZ.out).mono ?_
            rintro e W' ⟨rfl, hb⟩
            have h := HK.out _ _ hb rfl
            simp only [upd, Nat.reduceEqDiff, reduceIte, e12] at h
            exact h
          | 17, ho =>
            obtain rfl := Option.some.inj ho
            intro vs W K hB hD hK
            have HK := Lib.hid hK
            have e12 : vs 12 = .bool true := dep_of hD 12 (by rfl)
            have e16 : vs 16 = .bool true := dep_of hD 16 (by rfl)
            clear hK hD ho
            dsimp only
            go_simp
            have h := HK.out _ _ (Below.refl _ _) rfl
            simp only [upd, Nat.reduceEqDiff, reduceIte, e12, e16] at h
            exact h
          | 18, ho =>
            obtain rfl := Option.some.inj ho
            intro vs W K hB hD hK
            have HK := Lib.hid hK
            have e17 : vs 17 = .bool true := dep_of hD 17 (by rfl)
            clear hK hD ho
            dsimp only
            go_simp
            have h := HK.out _ _ (Below.refl _ _) rfl
            simp only [upd, Nat.reduceEqDiff, reduceIte, e17] at h
            exact h
          | n + 19, ho => simp at ho
        case fin =>
          intro vs W3 hB hall
          have e : vs 18 = .bool true := hall 18 (by decide)
          have hF := HB6.out.trans ((hW.trans (((Below.drew (Below.refl _ _)).trans hB).mono hW.size)).mono HB6.out.size)
          clear hall hB hW
          rw [e]
          clear e
          generalize vs 0 = q0
          generalize vs 1 = q1
          generalize vs 2 = q2
          generalize vs 3 = q3
          generalize vs 4 = q4
          generalize vs 5 = q5
          generalize vs 6 = q6
          generalize vs 7 = q7
          generalize vs 8 = q8
          generalize vs 9 = q9
          generalize vs 10 = q10
          generalize vs 11 = q11
          generalize vs 12 = q12
          generalize vs 13 = q13
          generalize vs 14 = q14
          generalize vs 15 = q15
          generalize vs 16 = q16
          generalize vs 17 = q17
          clear vs
          go_wp2
          go_ret
          exact ⟨ret_bool rfl, hF⟩

end Go.Proofs.Ytgjpdnaeldpdeaa
