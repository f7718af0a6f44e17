/- The law ReduceWords: its walk. -/
import Derived.Test.YtdkpdpcecjcmcaaRdH2
import Derived.Test.YtdkpdpcecjcmcaaRdH3
namespace Go.Proofs.Ytdkpdpcecjcmcaa
open Go.RowKit

def RL2 (a : Au) (x : Bool) (p2 p3 s0 s1 : Option Addr) (q2 q3 n0 n1 t0 t1 : Nat) (ix : Nat) (u : Value) (W : World) : Prop :=
  match ix with
  | 0 => u = .bool true
  | 1 => u = .bool true
  | 2 => u = .agg #[.int .i64 a.letters, .int .i64 a.start, .slice p2 a.next.length q2, .slice p3 a.prio.length q3]
  | 3 => IsAuto W u (trimF a)
  | 4 => u = .agg #[.slice s0 n0 t0, .slice s1 n1 t1]
  | 5 => u = .bool x
  | 6 => u = .bool x
  | 7 => u = .bool true
  | 8 => u = .bool true
  | 9 => u = .bool true
  | 10 => u = .agg #[.int .i64 a.letters, .int .i64 a.start, .slice p2 a.next.length q2, .slice p3 a.prio.length q3]
  | 11 => IsAuto W u (priosF a)
  | 12 => u = .agg #[.slice s0 n0 t0, .slice s1 n1 t1]
  | 13 => u = .bool x
  | 14 => u = .bool x
  | 15 => u = .bool true
  | 16 => u = .bool true
  | 17 => u = .bool true
  | 18 => u = .agg #[.int .i64 a.letters, .int .i64 a.start, .slice p2 a.next.length q2, .slice p3 a.prio.length q3]
  | 19 => IsAuto W u (mergeF a)
  | 20 => u = .agg #[.slice s0 n0 t0, .slice s1 n1 t1]
  | 21 => u = .bool x
  | 22 => u = .bool x
  | 23 => u = .bool true
  | 24 => u = .bool true
  | 25 => u = .bool true
  | 26 => u = .agg #[.int .i64 a.letters, .int .i64 a.start, .slice p2 a.next.length q2, .slice p3 a.prio.length q3]
  | 27 => IsAuto W u (reduceF a)
  | 28 => u = .agg #[.slice s0 n0 t0, .slice s1 n1 t1]
  | 29 => u = .bool x
  | 30 => u = .bool x
  | 31 => u = .bool true
  | 32 => u = .bool true
  | 33 => u = .bool true
  | _ => True
theorem RL2.below {ix : Nat} {u : Value} {W W' : World} {a : Au} {x : Bool} {p2 p3 s0 s1 : Option Addr} {q2 q3 n0 n1 t0 t1 : Nat} (h : RL2 a x p2 p3 s0 s1 q2 q3 n0 n1 t0 t1 ix u W) (hb : Below W.heap.size W W') : RL2 a x p2 p3 s0 s1 q2 q3 n0 n1 t0 t1 ix u W' := by
  unfold RL2 at *
  split at h <;> first | exact h | trivial | exact IsAuto.below h hb

set_option maxRecDepth 100000 in
set_option maxHeartbeats 8000000 in
theorem Words_walk (w : World) (v vl : Value) (a : Au) (l : Ls) (ha : IsAuto w v a) (hl : IsLs w vl l) :
    Calls Try.prog 9 #[v, vl] w (Calm (.bool true) w) := by
  have hmx : Try.prog.follows .mixedOrders = true := by kernel_rfl
  obtain ⟨p2, q2, p3, q3, rfl⟩ := ha.shape
  obtain ⟨s0, t0, s1, t1, rfl⟩ := hl.shp
  go_enter Try.func9, Try.ntmps9
  go_upto_region 1 with (fail)
  obtain ⟨hx, hy, hB⟩ : ((w.alloc (.cells #[.int .i64 a.letters, .int .i64 a.start, .slice p2 a.next.length q2, .slice p3 a.prio.length q3] 24)).alloc (.cells #[.slice s0 l.stem.length t0, .slice s1 l.loop.length t1] 36)).heap[w.heap.size]? = some (.cells #[.int .i64 a.letters, .int .i64 a.start, .slice p2 a.next.length q2, .slice p3 a.prio.length q3] 24 (0, 0)) ∧ ((w.alloc (.cells #[.int .i64 a.letters, .int .i64 a.start, .slice p2 a.next.length q2, .slice p3 a.prio.length q3] 24)).alloc (.cells #[.slice s0 l.stem.length t0, .slice s1 l.loop.length t1] 36)).heap[w.heap.size + 1]? = some (.cells #[.slice s0 l.stem.length t0, .slice s1 l.loop.length t1] 36 (0, 0)) ∧ Below w.heap.size w ((w.alloc (.cells #[.int .i64 a.letters, .int .i64 a.start, .slice p2 a.next.length q2, .slice p3 a.prio.length q3] 24)).alloc (.cells #[.slice s0 l.stem.length t0, .slice s1 l.loop.length t1] 36)) := ⟨(by (repeat (rw [alloc_get]; first | rw [if_pos (by first | (simp; done) | (simp; omega))] | rw [if_neg (by first | (simp; done) | (simp; omega))])); (try rfl)), (by (repeat (rw [alloc_get]; first | rw [if_pos (by first | (simp; done) | (simp; omega))] | rw [if_neg (by first | (simp; done) | (simp; omega))])); (try rfl)), (by repeat (first | exact Below.refl _ _ | assumption | (refine belA ?_ _) | (refine belD ?_ _)))⟩
  replace ha := ha.below hB
  replace hl := hl.below hB
  generalize ((w.alloc (.cells #[.int .i64 a.letters, .int .i64 a.start, .slice p2 a.next.length q2, .slice p3 a.prio.length q3] 24)).alloc (.cells #[.slice s0 l.stem.length t0, .slice s1 l.loop.length t1] 36)) = w1 at *
  have HE : Hid (∀ W, Below w1.heap.size w1 W → Calm (.bool true) w (.returned (.bool true)) W) := fun W h => ⟨rfl, hB.trans (h.mono hB.size)⟩
  clear hB
  generalize w.heap.size + 1 = zhy at *
  generalize w.heap.size = zhx at *
  go_wp2_with fail
  refine (head_c _).mono ?_
  rintro e w2 ⟨rfl, hb⟩
  replace hx := (hb.block _ (Array.getElem?_eq_some_iff.1 hx).1).trans hx
  replace hy := (hb.block _ (Array.getElem?_eq_some_iff.1 hy).1).trans hy
  replace ha := ha.below hb
  replace hl := hl.below hb
  have k0 := cell_of_row _ _ 0 _ _ _ hx
  have k1 := cell_of_row _ _ 1 _ _ _ hx
  have k2 := cell_of_row _ _ 2 _ _ _ hx
  have k3 := cell_of_row _ _ 3 _ _ _ hx
  go_wp2_with fail
  refine (right_c _ _ a ha).mono ?_
  rintro e w3 ⟨rfl, hb3⟩
  replace hx := (hb3.block _ (Array.getElem?_eq_some_iff.1 hx).1).trans hx
  replace hy := (hb3.block _ (Array.getElem?_eq_some_iff.1 hy).1).trans hy
  replace ha := ha.below hb3
  replace hl := hl.below hb3
  replace hb := hb.trans (hb3.mono hb.size)
  clear hb3 k0 k1 k2 k3
  cases hR : rightA a
  · go_wp2_with fail
    go_ret
    exact HE.out _ hb
  have HV : Hid (AuV a a.letters.toNat ∧ a.next.length ≤ 14) := right_v hR
  clear hR
  have k0 := cell_of_row _ _ 0 _ _ _ hx
  have k1 := cell_of_row _ _ 1 _ _ _ hx
  have k2 := cell_of_row _ _ 2 _ _ _ hx
  have k3 := cell_of_row _ _ 3 _ _ _ hx
  have j0 := cell_of_row _ _ 0 _ _ _ hy
  have j1 := cell_of_row _ _ 1 _ _ _ hy
  have HI : I64 a.letters := HV.out.1.i64.1
  go_wp2_with fail
  refine (WRValid_c _ _ l a.letters hl).mono ?_
  rintro e w4 ⟨rfl, hb3⟩
  replace hx := (hb3.block _ (Array.getElem?_eq_some_iff.1 hx).1).trans hx
  replace hy := (hb3.block _ (Array.getElem?_eq_some_iff.1 hy).1).trans hy
  replace ha := ha.below hb3
  replace hl := hl.below hb3
  replace hb := hb.trans (hb3.mono hb.size)
  clear hb3 k0 k1 k2 k3 j0 j1 HI
  have j0 := cell_of_row _ _ 0 _ _ _ hy
  have j1 := cell_of_row _ _ 1 _ _ _ hy
  cases hW : validI a.letters l
  · go_wp2_with fail
    go_ret
    exact HE.out _ hb
  have HW := Lib.hid hW
  clear hW
  have HLs : Hid (l.stem.length ≤ 60 ∧ l.loop.length ≤ 40) := by
    have := HW.out
    simp only [validI, Bool.and_eq_true] at this
    have := (formB_iff l).1 this.1.1
    exact ⟨this.1, this.2.2.1⟩
  obtain ⟨n0, hn0⟩ : ∃ n, l.stem.length = n := ⟨_, rfl⟩
  obtain ⟨n1, hn1⟩ : ∃ n, l.loop.length = n := ⟨_, rfl⟩
  have hbd := HLs.out
  rw [hn0, hn1] at hbd hy hl
  rw [hn0] at j0
  rw [hn1] at j1
  rw [hn0, hn1]
  clear hn0 hn1 HLs
  by_cases hs : n0 + n1 ≤ 16
  case neg =>
    have hgt : decide ((16 : Int) < (n0 : Int) + (n1 : Int)) = true := decide_eq_true (by omega)
    have hgt2 : (16 : Int) < (n0 : Int) + (n1 : Int) := by omega
    go_wp2_with fail
    go_ret
    exact HE.out _ hb
  have hgt : decide ((16 : Int) < (n0 : Int) + (n1 : Int)) = false := decide_eq_false (by omega)
  have hgt2 : ¬ (16 : Int) < (n0 : Int) + (n1 : Int) := by omega
  clear hs
  have k0 := cell_of_row _ _ 0 _ _ _ hx
  have k1 := cell_of_row _ _ 1 _ _ _ hx
  have k2 := cell_of_row _ _ 2 _ _ _ hx
  have k3 := cell_of_row _ _ 3 _ _ _ hx
  go_wp2_with fail
  refine (Word_c _ _ _ a l ha hl HV.out.1.valid HW.out).mono ?_
  rintro e w5 ⟨x, rfl, hword, hb3⟩
  have HX := Lib.hid hword
  replace hx := (hb3.block _ (Array.getElem?_eq_some_iff.1 hx).1).trans hx
  replace hy := (hb3.block _ (Array.getElem?_eq_some_iff.1 hy).1).trans hy
  replace ha := ha.below hb3
  replace hl := hl.below hb3
  replace hb := hb.trans (hb3.mono hb.size)
  clear hb3 hword k0 k1 k2 k3 j0 j1 hgt hgt2
  go_upto_region 5 with (fail)
  have HB1 : Hid (∀ W, Below w5.drew.heap.size w5.drew W → Below w5.heap.size w5 W) := fun W h => (Below.drew (B := w5.heap.size) (Below.refl _ _)).trans h
  have HA : Hid (∀ W, Below w5.drew.heap.size w5.drew W → W.cell? ⟨zhx, 0, none⟩ = some (.int .i64 a.letters) ∧ W.cell? ⟨zhx, 1, none⟩ = some (.int .i64 a.start) ∧ W.cell? ⟨zhx, 2, none⟩ = some (.slice p2 a.next.length q2) ∧ W.cell? ⟨zhx, 3, none⟩ = some (.slice p3 a.prio.length q3)) := fun W h => by
    have k := ((HB1.out W h).block _ (Array.getElem?_eq_some_iff.1 hx).1).trans hx
    exact ⟨cell_of_row _ _ 0 _ _ _ k, cell_of_row _ _ 1 _ _ _ k, cell_of_row _ _ 2 _ _ _ k, cell_of_row _ _ 3 _ _ _ k⟩
  have HY : Hid (∀ W, Below w5.drew.heap.size w5.drew W → W.cell? ⟨zhy, 0, none⟩ = some (.slice s0 n0 t0) ∧ W.cell? ⟨zhy, 1, none⟩ = some (.slice s1 n1 t1)) := fun W h => by
    have k := ((HB1.out W h).block _ (Array.getElem?_eq_some_iff.1 hy).1).trans hy
    exact ⟨cell_of_row _ _ 0 _ _ _ k, cell_of_row _ _ 1 _ _ _ k⟩
  have HT : Hid (∀ W, Below w5.heap.size w5 W → Calls Try.prog 12 #[.agg #[.int .i64 a.letters, .int .i64 a.start, .slice p2 a.next.length q2, .slice p3 a.prio.length q3]] W (NewAuto (trimF a) W)) := fun W h => by
    exact Trim_c W _ a (ha.below h)
  have HP : Hid (∀ W, Below w5.heap.size w5 W → Calls Try.prog 13 #[.agg #[.int .i64 a.letters, .int .i64 a.start, .slice p2 a.next.length q2, .slice p3 a.prio.length q3]] W (NewAuto (priosF a) W)) := fun W h => by
    exact Prios_c W _ a (ha.below h) (by have := HV.out.2; omega)
  have HM : Hid (∀ W, Below w5.heap.size w5 W → Calls Try.prog 14 #[.agg #[.int .i64 a.letters, .int .i64 a.start, .slice p2 a.next.length q2, .slice p3 a.prio.length q3]] W (NewAuto (mergeF a) W)) := fun W h => by
    exact Merge_c W _ a (ha.below h)
  have HD : Hid (∀ W, Below w5.heap.size w5 W → Calls Try.prog 15 #[.agg #[.int .i64 a.letters, .int .i64 a.start, .slice p2 a.next.length q2, .slice p3 a.prio.length q3]] W (NewAuto (reduceF a) W)) := fun W h => by
    exact Reduce_c W _ a (ha.below h) (by have := HV.out.2; omega)
  have HWt : Hid (∀ W u, Below w5.heap.size w5 W → IsAuto W u (trimF a) → Calls Try.prog 31 #[u, .agg #[.slice s0 n0 t0, .slice s1 n1 t1]] W (Calm (.bool x) W)) := fun W u h hu => by
    have hA := HV.out.1
    obtain ⟨h1, h2, -⟩ := valid_let HW.out
    rw [hA.L] at h1 h2
    have ef : trimF a = trimA a := by unfold trimF; rw [if_pos hA.valid]
    have hB := AuV.trim hA
    rw [← ef] at hB
    refine (Word_c W u _ _ l hu (hl.below h) hB.valid (by rw [hB.L, ← hA.L]; exact HW.out)).mono ?_
    rintro e W' ⟨y, rfl, hx, hb⟩
    have e := (trim_bis hA).word h1 h2 (by rw [ef] at hx; exact hx) HX.out
    rw [← e]
    exact ⟨rfl, hb⟩
  have HWp : Hid (∀ W u, Below w5.heap.size w5 W → IsAuto W u (priosF a) → Calls Try.prog 31 #[u, .agg #[.slice s0 n0 t0, .slice s1 n1 t1]] W (Calm (.bool x) W)) := fun W u h hu => by
    have hA := HV.out.1
    obtain ⟨h1, h2, -⟩ := valid_let HW.out
    rw [hA.L] at h1 h2
    have ef : priosF a = priosA a := by unfold priosF; rw [if_pos hA.valid]
    have hB := AuV.prios hA
    rw [← ef] at hB
    refine (Word_c W u _ _ l hu (hl.below h) hB.valid (by rw [hB.L, ← hA.L]; exact HW.out)).mono ?_
    rintro e W' ⟨y, rfl, hx, hb⟩
    have e := (prios_word hA HW.out HX.out (by rw [ef] at hx; exact hx)).symm
    rw [← e]
    exact ⟨rfl, hb⟩
  have HWm : Hid (∀ W u, Below w5.heap.size w5 W → IsAuto W u (mergeF a) → Calls Try.prog 31 #[u, .agg #[.slice s0 n0 t0, .slice s1 n1 t1]] W (Calm (.bool x) W)) := fun W u h hu => by
    have hA := HV.out.1
    obtain ⟨h1, h2, -⟩ := valid_let HW.out
    rw [hA.L] at h1 h2
    have ef : mergeF a = mergeA a := by unfold mergeF; rw [if_pos hA.valid]
    have hB := AuV.merge hA
    rw [← ef] at hB
    refine (Word_c W u _ _ l hu (hl.below h) hB.valid (by rw [hB.L, ← hA.L]; exact HW.out)).mono ?_
    rintro e W' ⟨y, rfl, hx, hb⟩
    have e := ((merge_bis hA).word h1 h2 HX.out (by rw [ef] at hx; exact hx)).symm
    rw [← e]
    exact ⟨rfl, hb⟩
  have HWd : Hid (∀ W u, Below w5.heap.size w5 W → IsAuto W u (reduceF a) → Calls Try.prog 31 #[u, .agg #[.slice s0 n0 t0, .slice s1 n1 t1]] W (Calm (.bool x) W)) := fun W u h hu => by
    have hA := HV.out.1
    obtain ⟨h1, h2, -⟩ := valid_let HW.out
    rw [hA.L] at h1 h2
    have hB := (reduce_eq hA).2
    refine (Word_c W u _ _ l hu (hl.below h) hB.valid (by rw [hB.L, ← hA.L]; exact HW.out)).mono ?_
    rintro e W' ⟨y, rfl, hx, hb⟩
    have e := reduce_word hA HW.out HX.out hx
    rw [← e]
    exact ⟨rfl, hb⟩
  have hxx : (x == x) = true := by simp
  clear ha hl hx hy HV HW HX
  have HBT := Lib.hid hb
  clear hb hbd
  refine region_stable hmx (RL2 a x p2 p3 s0 s1 q2 q3 n0 n1 t0 t1) (fun vs => { tmps := (_ :: _ :: _ :: _ :: vs 33 :: _ :: _ :: _ :: _ :: _ :: _ :: _ :: _ :: _ :: _ :: _ :: _ :: _ :: _ :: _ :: _ :: _ :: _ :: _ :: _ :: _ :: _ :: _ :: _ :: _ :: _ :: _ :: vs 0 :: vs 1 :: vs 2 :: vs 3 :: vs 4 :: vs 5 :: vs 6 :: vs 7 :: vs 8 :: vs 9 :: vs 10 :: vs 11 :: vs 12 :: vs 13 :: vs 14 :: vs 15 :: vs 16 :: vs 17 :: vs 18 :: vs 19 :: vs 20 :: vs 21 :: vs 22 :: vs 23 :: vs 24 :: vs 25 :: vs 26 :: vs 27 :: vs 28 :: vs 29 :: vs 30 :: vs 31 :: vs 32 :: []).toArray, defers := _ }) (fun k => if k = 33 then .bool false else undef) rfl (by kernel_rfl) (fun _ _ _ _ h hb => h.below hb) ?step ?fin
  case step =>
    intro ix o ho
    match ix, ho with
    | 0, ho =>
      obtain rfl := Option.some.inj ho
      intro vs W K hB hD hK
      have HK := Lib.hid hK
      clear hK hD ho
      dsimp only
      go_simp
      have h := HK.out _ _ (Below.refl _ _) rfl
      simp only [upd, Nat.reduceEqDiff, reduceIte] at h
      exact h
    | 1, ho =>
      obtain rfl := Option.some.inj ho
      intro vs W K hB hD hK
      have HK := Lib.hid hK
      have e0 : vs 0 = .bool true := dep_of hD 0 (by rfl)
      clear hK hD ho
      dsimp only
      go_simp
      have h := HK.out _ _ (Below.refl _ _) rfl
      simp only [upd, Nat.reduceEqDiff, reduceIte, e0] at h
      exact h
    | 2, ho =>
      obtain rfl := Option.some.inj ho
      intro vs W K hB hD hK
      have HK := Lib.hid hK
      have e1 : vs 1 = .bool true := dep_of hD 1 (by rfl)
      obtain ⟨d0, d1, d2, d3⟩ := HA.out W hB
      clear hK hD ho
      dsimp only
      go_simp
      have h := HK.out _ _ (Below.refl _ _) rfl
      simp only [upd, Nat.reduceEqDiff, reduceIte, e1] at h
      exact h
    | 3, ho =>
      obtain rfl := Option.some.inj ho
      intro vs W K hB hD hK
      have HK := Lib.hid hK
      have e1 : vs 1 = .bool true := dep_of hD 1 (by rfl)
      have e2 : vs 2 = .agg #[.int .i64 a.letters, .int .i64 a.start, .slice p2 a.next.length q2, .slice p3 a.prio.length q3] := dep_of hD 2 (by rfl)
      clear hK hD ho
      dsimp only
      go_simp
      refine (HT.out W (HB1.out W hB)).mono ?_
      rintro e W' ⟨u', rfl, hK, hb⟩
      have h := HK.out _ _ hb (hK _ (Only.refl _ _))
      simp only [upd, Nat.reduceEqDiff, reduceIte, e1, e2] at h
      exact h
    | 4, ho =>
      obtain rfl := Option.some.inj ho
      intro vs W K hB hD hK
      have HK := Lib.hid hK
      have e1 : vs 1 = .bool true := dep_of hD 1 (by rfl)
      obtain ⟨d0, d1⟩ := HY.out W hB
      clear hK hD ho
      dsimp only
      go_simp
      have h := HK.out _ _ (Below.refl _ _) rfl
      simp only [upd, Nat.reduceEqDiff, reduceIte, e1] at h
      exact h
    | 5, ho =>
      obtain rfl := Option.some.inj ho
      intro vs W K hB hD hK
      have HK := Lib.hid hK
      have e1 : vs 1 = .bool true := dep_of hD 1 (by rfl)
      have i3 := dep_of (R := RL2 a x p2 p3 s0 s1 q2 q3 n0 n1 t0 t1) hD 3 (by rfl)
      have e4 : vs 4 = .agg #[.slice s0 n0 t0, .slice s1 n1 t1] := dep_of hD 4 (by rfl)
      clear hK hD ho
      dsimp only
      go_simp
      refine (HWt.out W (vs 3) (HB1.out W hB) i3).mono ?_
      rintro e W' ⟨rfl, hb⟩
      have h := HK.out _ _ hb rfl
      simp only [upd, Nat.reduceEqDiff, reduceIte, e1, e4] at h
      exact h
    | 6, ho =>
      obtain rfl := Option.some.inj ho
      intro vs W K hB hD hK
      have HK := Lib.hid hK
      have e1 : vs 1 = .bool true := dep_of hD 1 (by rfl)
      clear hK hD ho
      dsimp only
      go_simp
      have h := HK.out _ _ (Below.refl _ _) rfl
      simp only [upd, Nat.reduceEqDiff, reduceIte, e1] at h
      exact h
    | 7, ho =>
      obtain rfl := Option.some.inj ho
      intro vs W K hB hD hK
      have HK := Lib.hid hK
      have e1 : vs 1 = .bool true := dep_of hD 1 (by rfl)
      have e5 : vs 5 = .bool x := dep_of hD 5 (by rfl)
      have e6 : vs 6 = .bool x := dep_of hD 6 (by rfl)
      clear hK hD ho
      dsimp only
      go_simp
      have h := HK.out _ _ (Below.refl _ _) rfl
      simp only [upd, Nat.reduceEqDiff, reduceIte, e1, e5, e6] at h
      exact h
    | 8, ho =>
      obtain rfl := Option.some.inj ho
      intro vs W K hB hD hK
      have HK := Lib.hid hK
      have e1 : vs 1 = .bool true := dep_of hD 1 (by rfl)
      have e7 : vs 7 = .bool true := dep_of hD 7 (by rfl)
      clear hK hD ho
      dsimp only
      go_simp
      have h := HK.out _ _ (Below.refl _ _) rfl
      simp only [upd, Nat.reduceEqDiff, reduceIte, e1, e7] at h
      exact h
    | 9, ho =>
      obtain rfl := Option.some.inj ho
      intro vs W K hB hD hK
      have HK := Lib.hid hK
      have e8 : vs 8 = .bool true := dep_of hD 8 (by rfl)
      clear hK hD ho
      dsimp only
      go_simp
      have h := HK.out _ _ (Below.refl _ _) rfl
      simp only [upd, Nat.reduceEqDiff, reduceIte, e8] at h
      exact h
    | 10, ho =>
      obtain rfl := Option.some.inj ho
      intro vs W K hB hD hK
      have HK := Lib.hid hK
      have e9 : vs 9 = .bool true := dep_of hD 9 (by rfl)
      obtain ⟨d0, d1, d2, d3⟩ := HA.out W hB
      clear hK hD ho
      dsimp only
      go_simp
      have h := HK.out _ _ (Below.refl _ _) rfl
      simp only [upd, Nat.reduceEqDiff, reduceIte, e9] at h
      exact h
    | 11, ho =>
      obtain rfl := Option.some.inj ho
      intro vs W K hB hD hK
      have HK := Lib.hid hK
      have e9 : vs 9 = .bool true := dep_of hD 9 (by rfl)
      have e10 : vs 10 = .agg #[.int .i64 a.letters, .int .i64 a.start, .slice p2 a.next.length q2, .slice p3 a.prio.length q3] := dep_of hD 10 (by rfl)
      clear hK hD ho
      dsimp only
      go_simp
      refine (HP.out W (HB1.out W hB)).mono ?_
      rintro e W' ⟨u', rfl, hK, hb⟩
      have h := HK.out _ _ hb (hK _ (Only.refl _ _))
      simp only [upd, Nat.reduceEqDiff, reduceIte, e9, e10] at h
      exact h
    | 12, ho =>
      obtain rfl := Option.some.inj ho
      intro vs W K hB hD hK
      have HK := Lib.hid hK
      have e9 : vs 9 = .bool true := dep_of hD 9 (by rfl)
      obtain ⟨d0, d1⟩ := HY.out W hB
      clear hK hD ho
      dsimp only
      go_simp
      have h := HK.out _ _ (Below.refl _ _) rfl
      simp only [upd, Nat.reduceEqDiff, reduceIte, e9] at h
      exact h
    | 13, ho =>
      obtain rfl := Option.some.inj ho
      intro vs W K hB hD hK
      have HK := Lib.hid hK
      have e9 : vs 9 = .bool true := dep_of hD 9 (by rfl)
      have i11 := dep_of (R := RL2 a x p2 p3 s0 s1 q2 q3 n0 n1 t0 t1) hD 11 (by rfl)
      have e12 : vs 12 = .agg #[.slice s0 n0 t0, .slice s1 n1 t1] := dep_of hD 12 (by rfl)
      clear hK hD ho
      dsimp only
      go_simp
      refine (HWp.out W (vs 11) (HB1.out W hB) i11).mono ?_
      rintro e W' ⟨rfl, hb⟩
      have h := HK.out _ _ hb rfl
      simp only [upd, Nat.reduceEqDiff, reduceIte, e9, e12] at h
      exact h
    | 14, ho =>
      obtain rfl := Option.some.inj ho
      intro vs W K hB hD hK
      have HK := Lib.hid hK
      have e9 : vs 9 = .bool true := dep_of hD 9 (by rfl)
      clear hK hD ho
      dsimp only
      go_simp
      have h := HK.out _ _ (Below.refl _ _) rfl
      simp only [upd, Nat.reduceEqDiff, reduceIte, e9] at h
      exact h
    | 15, ho =>
      obtain rfl := Option.some.inj ho
      intro vs W K hB hD hK
      have HK := Lib.hid hK
      have e9 : vs 9 = .bool true := dep_of hD 9 (by rfl)
      have e13 : vs 13 = .bool x := dep_of hD 13 (by rfl)
      have e14 : vs 14 = .bool x := dep_of hD 14 (by rfl)
      clear hK hD ho
      dsimp only
      go_simp
      have h := HK.out _ _ (Below.refl _ _) rfl
      simp only [upd, Nat.reduceEqDiff, reduceIte, e9, e13, e14] at h
      exact h
    | 16, ho =>
      obtain rfl := Option.some.inj ho
      intro vs W K hB hD hK
      have HK := Lib.hid hK
      have e9 : vs 9 = .bool true := dep_of hD 9 (by rfl)
      have e15 : vs 15 = .bool true := dep_of hD 15 (by rfl)
      clear hK hD ho
      dsimp only
      go_simp
      have h := HK.out _ _ (Below.refl _ _) rfl
      simp only [upd, Nat.reduceEqDiff, reduceIte, e9, e15] at h
      exact h
    | 17, ho =>
      obtain rfl := Option.some.inj ho
      intro vs W K hB hD hK
      have HK := Lib.hid hK
      have e16 : vs 16 = .bool true := dep_of hD 16 (by rfl)
      clear hK hD ho
      dsimp only
      go_simp
      have h := HK.out _ _ (Below.refl _ _) rfl
      simp only [upd, Nat.reduceEqDiff, reduceIte, e16] at h
      exact h
    | 18, ho =>
      obtain rfl := Option.some.inj ho
      intro vs W K hB hD hK
      have HK := Lib.hid hK
      have e17 : vs 17 = .bool true := dep_of hD 17 (by rfl)
      obtain ⟨d0, d1, d2, d3⟩ := HA.out W hB
      clear hK hD ho
      dsimp only
      go_simp
      have h := HK.out _ _ (Below.refl _ _) rfl
      simp only [upd, Nat.reduceEqDiff, reduceIte, e17] at h
      exact h
    | 19, ho =>
      obtain rfl := Option.some.inj ho
      intro vs W K hB hD hK
      have HK := Lib.hid hK
      have e17 : vs 17 = .bool true := dep_of hD 17 (by rfl)
      have e18 : vs 18 = .agg #[.int .i64 a.letters, .int .i64 a.start, .slice p2 a.next.length q2, .slice p3 a.prio.length q3] := dep_of hD 18 (by rfl)
      clear hK hD ho
      dsimp only
      go_simp
      refine (HM.out W (HB1.out W hB)).mono ?_
      rintro e W' ⟨u', rfl, hK, hb⟩
      have h := HK.out _ _ hb (hK _ (Only.refl _ _))
      simp only [upd, Nat.reduceEqDiff, reduceIte, e17, e18] at h
      exact h
    | 20, ho =>
      obtain rfl := Option.some.inj ho
      intro vs W K hB hD hK
      have HK := Lib.hid hK
      have e17 : vs 17 = .bool true := dep_of hD 17 (by rfl)
      obtain ⟨d0, d1⟩ := HY.out W hB
      clear hK hD ho
      dsimp only
      go_simp
      have h := HK.out _ _ (Below.refl _ _) rfl
      simp only [upd, Nat.reduceEqDiff, reduceIte, e17] at h
      exact h
    | 21, ho =>
      obtain rfl := Option.some.inj ho
      intro vs W K hB hD hK
      have HK := Lib.hid hK
      have e17 : vs 17 = .bool true := dep_of hD 17 (by rfl)
      have i19 := dep_of (R := RL2 a x p2 p3 s0 s1 q2 q3 n0 n1 t0 t1) hD 19 (by rfl)
      have e20 : vs 20 = .agg #[.slice s0 n0 t0, .slice s1 n1 t1] := dep_of hD 20 (by rfl)
      clear hK hD ho
      dsimp only
      go_simp
      refine (HWm.out W (vs 19) (HB1.out W hB) i19).mono ?_
      rintro e W' ⟨rfl, hb⟩
      have h := HK.out _ _ hb rfl
      simp only [upd, Nat.reduceEqDiff, reduceIte, e17, e20] at h
      exact h
    | 22, ho =>
      obtain rfl := Option.some.inj ho
      intro vs W K hB hD hK
      have HK := Lib.hid hK
      have e17 : vs 17 = .bool true := dep_of hD 17 (by rfl)
      clear hK hD ho
      dsimp only
      go_simp
      have h := HK.out _ _ (Below.refl _ _) rfl
      simp only [upd, Nat.reduceEqDiff, reduceIte, e17] at h
      exact h
    | 23, ho =>
      obtain rfl := Option.some.inj ho
      intro vs W K hB hD hK
      have HK := Lib.hid hK
      have e17 : vs 17 = .bool true := dep_of hD 17 (by rfl)
      have e21 : vs 21 = .bool x := dep_of hD 21 (by rfl)
      have e22 : vs 22 = .bool x := dep_of hD 22 (by rfl)
      clear hK hD ho
      dsimp only
      go_simp
      have h := HK.out _ _ (Below.refl _ _) rfl
      simp only [upd, Nat.reduceEqDiff, reduceIte, e17, e21, e22] at h
      exact h
    | 24, ho =>
      obtain rfl := Option.some.inj ho
      intro vs W K hB hD hK
      have HK := Lib.hid hK
      have e17 : vs 17 = .bool true := dep_of hD 17 (by rfl)
      have e23 : vs 23 = .bool true := dep_of hD 23 (by rfl)
      clear hK hD ho
      dsimp only
      go_simp
      have h := HK.out _ _ (Below.refl _ _) rfl
      simp only [upd, Nat.reduceEqDiff, reduceIte, e17, e23] at h
      exact h
    | 25, ho =>
      obtain rfl := Option.some.inj ho
      intro vs W K hB hD hK
      have HK := Lib.hid hK
      have e24 : vs 24 = .bool true := dep_of hD 24 (by rfl)
      clear hK hD ho
      dsimp only
      go_simp
      have h := HK.out _ _ (Below.refl _ _) rfl
      simp only [upd, Nat.reduceEqDiff, reduceIte, e24] at h
      exact h
    | 26, ho =>
      obtain rfl := Option.some.inj ho
      intro vs W K hB hD hK
      have HK := Lib.hid hK
      have e25 : vs 25 = .bool true := dep_of hD 25 (by rfl)
      obtain ⟨d0, d1, d2, d3⟩ := HA.out W hB
      clear hK hD ho
      dsimp only
      go_simp
      have h := HK.out _ _ (Below.refl _ _) rfl
      simp only [upd, Nat.reduceEqDiff, reduceIte, e25] at h
      exact h
    | 27, ho =>
      obtain rfl := Option.some.inj ho
      intro vs W K hB hD hK
      have HK := Lib.hid hK
      have e25 : vs 25 = .bool true := dep_of hD 25 (by rfl)
      have e26 : vs 26 = .agg #[.int .i64 a.letters, .int .i64 a.start, .slice p2 a.next.length q2, .slice p3 a.prio.length q3] := dep_of hD 26 (by rfl)
      clear hK hD ho
      dsimp only
      go_simp
      refine (HD.out W (HB1.out W hB)).mono ?_
      rintro e W' ⟨u', rfl, hK, hb⟩
      have h := HK.out _ _ hb (hK _ (Only.refl _ _))
      simp only [upd, Nat.reduceEqDiff, reduceIte, e25, e26] at h
      exact h
    | 28, ho =>
      obtain rfl := Option.some.inj ho
      intro vs W K hB hD hK
      have HK := Lib.hid hK
      have e25 : vs 25 = .bool true := dep_of hD 25 (by rfl)
      obtain ⟨d0, d1⟩ := HY.out W hB
      clear hK hD ho
      dsimp only
      go_simp
      have h := HK.out _ _ (Below.refl _ _) rfl
      simp only [upd, Nat.reduceEqDiff, reduceIte, e25] at h
      exact h
    | 29, ho =>
      obtain rfl := Option.some.inj ho
      intro vs W K hB hD hK
      have HK := Lib.hid hK
      have e25 : vs 25 = .bool true := dep_of hD 25 (by rfl)
      have i27 := dep_of (R := RL2 a x p2 p3 s0 s1 q2 q3 n0 n1 t0 t1) hD 27 (by rfl)
      have e28 : vs 28 = .agg #[.slice s0 n0 t0, .slice s1 n1 t1] := dep_of hD 28 (by rfl)
      clear hK hD ho
      dsimp only
      go_simp
      refine (HWd.out W (vs 27) (HB1.out W hB) i27).mono ?_
      rintro e W' ⟨rfl, hb⟩
      have h := HK.out _ _ hb rfl
      simp only [upd, Nat.reduceEqDiff, reduceIte, e25, e28] at h
      exact h
    | 30, ho =>
      obtain rfl := Option.some.inj ho
      intro vs W K hB hD hK
      have HK := Lib.hid hK
      have e25 : vs 25 = .bool true := dep_of hD 25 (by rfl)
      clear hK hD ho
      dsimp only
      go_simp
      have h := HK.out _ _ (Below.refl _ _) rfl
      simp only [upd, Nat.reduceEqDiff, reduceIte, e25] at h
      exact h
    | 31, ho =>
      obtain rfl := Option.some.inj ho
      intro vs W K hB hD hK
      have HK := Lib.hid hK
      have e25 : vs 25 = .bool true := dep_of hD 25 (by rfl)
      have e29 : vs 29 = .bool x := dep_of hD 29 (by rfl)
      have e30 : vs 30 = .bool x := dep_of hD 30 (by rfl)
      clear hK hD ho
      dsimp only
      go_simp
      have h := HK.out _ _ (Below.refl _ _) rfl
      simp only [upd, Nat.reduceEqDiff, reduceIte, e25, e29, e30] at h
      exact h
    | 32, ho =>
      obtain rfl := Option.some.inj ho
      intro vs W K hB hD hK
      have HK := Lib.hid hK
      have e25 : vs 25 = .bool true := dep_of hD 25 (by rfl)
      have e31 : vs 31 = .bool true := dep_of hD 31 (by rfl)
      clear hK hD ho
      dsimp only
      go_simp
      have h := HK.out _ _ (Below.refl _ _) rfl
      simp only [upd, Nat.reduceEqDiff, reduceIte, e25, e31] at h
      exact h
    | 33, ho =>
      obtain rfl := Option.some.inj ho
      intro vs W K hB hD hK
      have HK := Lib.hid hK
      have e32 : vs 32 = .bool true := dep_of hD 32 (by rfl)
      clear hK hD ho
      dsimp only
      go_simp
      have h := HK.out _ _ (Below.refl _ _) rfl
      simp only [upd, Nat.reduceEqDiff, reduceIte, e32] at h
      exact h
    | q + 34, ho => exact absurd ho (by simp)
  case fin =>
    intro vs W hB hall
    have e50 : vs 33 = .bool true := hall 33 (by decide)
    have hB5 := HBT.out.trans ((HB1.out W hB).mono HBT.out.size)
    clear hall hB
    rw [e50]
    clear e50
    go_wp2
    go_ret
    exact HE.out _ hB5

end Go.Proofs.Ytdkpdpcecjcmcaa
