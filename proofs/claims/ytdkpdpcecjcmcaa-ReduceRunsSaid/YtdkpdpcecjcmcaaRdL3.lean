/- The law ReduceRuns: its walk. -/
import Derived.Test.YtdkpdpcecjcmcaaRdH2
import Derived.Test.YtdkpdpcecjcmcaaRdH4
namespace Go.Proofs.Ytdkpdpcecjcmcaa
open Go.RowKit

def RL3 (a t m : Au) (p2 a2 a3 c2 c3 : Option Addr) (q2 b2 b3 e2 e3 zxt zxm zhx : Nat) (ix : Nat) (u : Value) (W : World) : Prop :=
  match ix with
  | 0 => u = .agg #[.int .i64 t.letters, .int .i64 t.start, .slice a2 t.next.length b2, .slice a3 t.prio.length b3]
  | 1 => IsAuto W u t
  | 2 => u = .agg #[.int .i64 t.letters, .int .i64 t.start, .slice a2 t.next.length b2, .slice a3 t.prio.length b3]
  | 3 => u = .bool true
  | 4 => u = .bool false
  | 5 => u = .bool false
  | 6 => u = .agg #[.int .i64 m.letters, .int .i64 m.start, .slice c2 m.next.length e2, .slice c3 m.prio.length e3]
  | 7 => IsAuto W u m
  | 8 => u = .agg #[.int .i64 m.letters, .int .i64 m.start, .slice c2 m.next.length e2, .slice c3 m.prio.length e3]
  | 9 => u = .bool true
  | 10 => u = .bool false
  | 11 => u = .bool false
  | 12 => u = .bool false
  | 13 => u = .pointer (some ⟨zxt, 1, none⟩)
  | 14 => u = .int .i64 t.start
  | 15 => u = .bool false
  | 16 => u = .bool false
  | 17 => u = .bool false
  | 18 => u = .pointer (some ⟨zxt, 2, none⟩)
  | 19 => u = .slice a2 t.next.length b2
  | 20 => u = .int .i64 (t.next.length : Int)
  | 21 => u = .pointer (some ⟨zhx, 2, none⟩)
  | 22 => u = .slice p2 a.next.length q2
  | 23 => u = .int .i64 (a.next.length : Int)
  | 24 => u = .bool false
  | 25 => u = .bool false
  | 26 => u = .bool false
  | 27 => u = .pointer (some ⟨zxm, 2, none⟩)
  | 28 => u = .slice c2 m.next.length e2
  | 29 => u = .int .i64 (m.next.length : Int)
  | 30 => u = .pointer (some ⟨zhx, 2, none⟩)
  | 31 => u = .slice p2 a.next.length q2
  | 32 => u = .int .i64 (a.next.length : Int)
  | 33 => u = .bool false
  | 34 => u = .bool false
  | _ => True
theorem RL3.below {ix : Nat} {u : Value} {W W' : World} {a t m : Au} {p2 a2 a3 c2 c3 : Option Addr} {q2 b2 b3 e2 e3 zxt zxm zhx : Nat} (h : RL3 a t m p2 a2 a3 c2 c3 q2 b2 b3 e2 e3 zxt zxm zhx ix u W) (hb : Below W.heap.size W W') : RL3 a t m p2 a2 a3 c2 c3 q2 b2 b3 e2 e3 zxt zxm zhx ix u W' := by
  unfold RL3 at *
  split at h <;> first | exact h | trivial | exact IsAuto.below h hb

set_option maxRecDepth 100000 in
set_option maxHeartbeats 8000000 in
theorem Runs_walk (w : World) (v vl : Value) (a : Au) (ls : List Int) (ha : IsAuto w v a) (hl : IsInts w vl ls) :
    Calls Try.prog 4 #[v, vl] w (Calm (.bool true) w) := by
  have hmx : Try.prog.follows .mixedOrders = true := by kernel_rfl
  obtain ⟨pl, cl, rfl⟩ := hl.shp
  obtain ⟨p2, q2, p3, q3, rfl⟩ := ha.shape
  go_enter Try.func4, Try.ntmps4
  go_upto_region 1 with (fail)
  obtain ⟨hx, hb, hB⟩ := box_new (w0 := w) (Below.refl _ _) (Nat.le_refl _) #[.int .i64 a.letters, .int .i64 a.start, .slice p2 a.next.length q2, .slice p3 a.prio.length q3] 24
  replace ha := ha.below hb
  replace hl := hl.below hb
  generalize w.alloc (.cells #[.int .i64 a.letters, .int .i64 a.start, .slice p2 a.next.length q2, .slice p3 a.prio.length q3] 24) = w1 at *
  have HE : Hid (∀ W, Below w1.heap.size w1 W → Calm (.bool true) w (.returned (.bool true)) W) := fun W h => ⟨rfl, hB.trans (h.mono hB.size)⟩
  clear hb hB
  generalize w.heap.size = zhx at *
  go_wp2_with fail
  refine (head_c _).mono ?_
  rintro e w2 ⟨rfl, hb⟩
  replace hx := (hb.block _ (Array.getElem?_eq_some_iff.1 hx).1).trans hx
  replace ha := ha.below hb
  replace hl := hl.below hb
  have k0 := cell_of_row _ _ 0 _ _ _ hx
  have k1 := cell_of_row _ _ 1 _ _ _ hx
  have k2 := cell_of_row _ _ 2 _ _ _ hx
  have k3 := cell_of_row _ _ 3 _ _ _ hx
  go_wp2_with fail
  refine (right_c _ _ a ha).mono ?_
  rintro e w3 ⟨rfl, hb3⟩
  replace hx := (hb3.block _ (Array.getElem?_eq_some_iff.1 hx).1).trans hx
  replace ha := ha.below hb3
  replace hl := hl.below hb3
  replace hb := hb.trans (hb3.mono hb.size)
  clear hb3 k0 k1 k2 k3
  cases hR : rightA a
  · go_wp2_with fail
    go_ret
    exact HE.out _ hb
  have HV : Hid (AuV a a.letters.toNat ∧ a.next.length ≤ 14) := right_v hR
  clear hR
  obtain ⟨n, hn⟩ : ∃ n, ls.length = n := ⟨_, rfl⟩
  have HNL := Lib.hid hn
  rw [hn] at hl ⊢
  clear hn
  by_cases hs : n ≤ 20
  case neg =>
    have hgt : decide ((20 : Int) < (n : Int)) = true := decide_eq_true (by omega)
    have hgt2 : decide (20 < n) = true := decide_eq_true (by omega)
    go_wp2_with fail
    go_ret
    exact HE.out _ hb
  have hgt : decide ((20 : Int) < (n : Int)) = false := decide_eq_false (by omega)
  have hgt2 : decide (20 < n) = false := decide_eq_false (by omega)
  have HS := Lib.hid hs
  clear hs
  have k0 := cell_of_row _ _ 0 _ _ _ hx
  have k1 := cell_of_row _ _ 1 _ _ _ hx
  have k2 := cell_of_row _ _ 2 _ _ _ hx
  have k3 := cell_of_row _ _ 3 _ _ _ hx
  go_wp2_with fail
  refine (Trim_c _ _ a ha).mono ?_
  rintro e w4 ⟨vht, rfl, hK, hb3⟩
  have ht := hK _ (Only.refl _ _)
  replace hx := (hb3.block _ (Array.getElem?_eq_some_iff.1 hx).1).trans hx
  replace ha := ha.below hb3
  replace hl := hl.below hb3
  replace hb := hb.trans (hb3.mono hb.size)
  clear hb3 hK k0 k1 k2 k3 hgt hgt2
  obtain ⟨t, htt⟩ : ∃ t, trimF a = t := ⟨_, rfl⟩
  rw [htt] at ht
  have HTT : Hid (t = trimA a) := by
    show _ = _
    rw [← htt]; unfold trimF; rw [if_pos HV.out.1.valid]
  clear htt
  obtain ⟨a2, b2, a3, b3, rfl⟩ := ht.shape
  go_upto_region 5 with (fail)
  obtain ⟨xt, hb3, -⟩ := box_new hb hb.size #[.int .i64 t.letters, .int .i64 t.start, .slice a2 t.next.length b2, .slice a3 t.prio.length b3] 24
  replace hx := (hb3.block _ (Array.getElem?_eq_some_iff.1 hx).1).trans hx
  replace ha := ha.below hb3
  replace hl := hl.below hb3
  replace ht := ht.below hb3
  replace hb := hb.trans (hb3.mono hb.size)
  generalize w4.alloc (.cells #[.int .i64 t.letters, .int .i64 t.start, .slice a2 t.next.length b2, .slice a3 t.prio.length b3] 24) = w5 at *
  generalize w4.heap.size = zxt at *
  clear hb3
  have k0 := cell_of_row _ _ 0 _ _ _ hx
  have k1 := cell_of_row _ _ 1 _ _ _ hx
  have k2 := cell_of_row _ _ 2 _ _ _ hx
  have k3 := cell_of_row _ _ 3 _ _ _ hx
  go_wp2_with fail
  refine (Merge_c _ _ a ha).mono ?_
  rintro e w6 ⟨vhm, rfl, hK, hb3⟩
  have hm := hK _ (Only.refl _ _)
  replace hx := (hb3.block _ (Array.getElem?_eq_some_iff.1 hx).1).trans hx
  replace xt := (hb3.block _ (Array.getElem?_eq_some_iff.1 xt).1).trans xt
  replace ha := ha.below hb3
  replace hl := hl.below hb3
  replace ht := ht.below hb3
  replace hb := hb.trans (hb3.mono hb.size)
  clear hb3 hK k0 k1 k2 k3
  obtain ⟨m, hmm⟩ : ∃ t, mergeF a = t := ⟨_, rfl⟩
  rw [hmm] at hm
  have HMM : Hid (m = mergeA a) := by
    show _ = _
    rw [← hmm]; unfold mergeF; rw [if_pos HV.out.1.valid]
  clear hmm
  obtain ⟨c2, e2, c3, e3, rfl⟩ := hm.shape
  go_upto_region 6 with (fail)
  obtain ⟨xm, hb3, -⟩ := box_new hb hb.size #[.int .i64 m.letters, .int .i64 m.start, .slice c2 m.next.length e2, .slice c3 m.prio.length e3] 24
  replace hx := (hb3.block _ (Array.getElem?_eq_some_iff.1 hx).1).trans hx
  replace xt := (hb3.block _ (Array.getElem?_eq_some_iff.1 xt).1).trans xt
  replace ha := ha.below hb3
  replace hl := hl.below hb3
  replace ht := ht.below hb3
  replace hm := hm.below hb3
  replace hb := hb.trans (hb3.mono hb.size)
  generalize w6.alloc (.cells #[.int .i64 m.letters, .int .i64 m.start, .slice c2 m.next.length e2, .slice c3 m.prio.length e3] 24) = w7 at *
  generalize w6.heap.size = zxm at *
  clear hb3
  have HB1 : Hid (∀ W, Below w7.drew.heap.size w7.drew W → Below w7.heap.size w7 W) := fun W h => (Below.drew (B := w7.heap.size) (Below.refl _ _)).trans h
  have HA : Hid (∀ W, Below w7.drew.heap.size w7.drew W → W.cell? ⟨zhx, 0, none⟩ = some (.int .i64 a.letters) ∧ W.cell? ⟨zhx, 1, none⟩ = some (.int .i64 a.start) ∧ W.cell? ⟨zhx, 2, none⟩ = some (.slice p2 a.next.length q2) ∧ W.cell? ⟨zhx, 3, none⟩ = some (.slice p3 a.prio.length q3)) := fun W h => by
    have k := ((HB1.out W h).block _ (Array.getElem?_eq_some_iff.1 hx).1).trans hx
    exact ⟨cell_of_row _ _ 0 _ _ _ k, cell_of_row _ _ 1 _ _ _ k, cell_of_row _ _ 2 _ _ _ k, cell_of_row _ _ 3 _ _ _ k⟩
  have HT : Hid (∀ W, Below w7.drew.heap.size w7.drew W → W.cell? ⟨zxt, 0, none⟩ = some (.int .i64 t.letters) ∧ W.cell? ⟨zxt, 1, none⟩ = some (.int .i64 t.start) ∧ W.cell? ⟨zxt, 2, none⟩ = some (.slice a2 t.next.length b2) ∧ W.cell? ⟨zxt, 3, none⟩ = some (.slice a3 t.prio.length b3)) := fun W h => by
    have k := ((HB1.out W h).block _ (Array.getElem?_eq_some_iff.1 xt).1).trans xt
    exact ⟨cell_of_row _ _ 0 _ _ _ k, cell_of_row _ _ 1 _ _ _ k, cell_of_row _ _ 2 _ _ _ k, cell_of_row _ _ 3 _ _ _ k⟩
  have HM : Hid (∀ W, Below w7.drew.heap.size w7.drew W → W.cell? ⟨zxm, 0, none⟩ = some (.int .i64 m.letters) ∧ W.cell? ⟨zxm, 1, none⟩ = some (.int .i64 m.start) ∧ W.cell? ⟨zxm, 2, none⟩ = some (.slice c2 m.next.length e2) ∧ W.cell? ⟨zxm, 3, none⟩ = some (.slice c3 m.prio.length e3)) := fun W h => by
    have k := ((HB1.out W h).block _ (Array.getElem?_eq_some_iff.1 xm).1).trans xm
    exact ⟨cell_of_row _ _ 0 _ _ _ k, cell_of_row _ _ 1 _ _ _ k, cell_of_row _ _ 2 _ _ _ k, cell_of_row _ _ 3 _ _ _ k⟩
  have HTr : Hid (∀ W, Below w7.heap.size w7 W → Calls Try.prog 12 #[.agg #[.int .i64 t.letters, .int .i64 t.start, .slice a2 t.next.length b2, .slice a3 t.prio.length b3]] W (NewAuto t W)) := fun W h => by
    have k := Trim_c W _ t (ht.below h)
    have e : trimF t = t := by
      have h1 := trimF_idem HV.out.1
      have h2 : trimF a = trimA a := by unfold trimF; rw [if_pos HV.out.1.valid]
      rw [HTT.out, ← h2]; exact h1
    rw [e] at k
    exact k
  have HMr : Hid (∀ W, Below w7.heap.size w7 W → Calls Try.prog 14 #[.agg #[.int .i64 m.letters, .int .i64 m.start, .slice c2 m.next.length e2, .slice c3 m.prio.length e3]] W (NewAuto m W)) := fun W h => by
    have k := Merge_c W _ m (hm.below h)
    have e : mergeF m = m := by
      have h1 := mergeF_idem HV.out.1
      have h2 : mergeF a = mergeA a := by unfold mergeF; rw [if_pos HV.out.1.valid]
      rw [HMM.out, ← h2]; exact h1
    rw [e] at k
    exact k
  have HSt : Hid (∀ W u, Below w7.heap.size w7 W → IsAuto W u t → Calls Try.prog 18 #[u, .agg #[.int .i64 t.letters, .int .i64 t.start, .slice a2 t.next.length b2, .slice a3 t.prio.length b3]] W (Calm (.bool true) W)) := fun W u h hu => by
    have k := Same_c W _ _ t t hu (ht.below h)
    rwa [show decide (t = t) = true from decide_eq_true rfl] at k
  have HSm : Hid (∀ W u, Below w7.heap.size w7 W → IsAuto W u m → Calls Try.prog 18 #[u, .agg #[.int .i64 m.letters, .int .i64 m.start, .slice c2 m.next.length e2, .slice c3 m.prio.length e3]] W (Calm (.bool true) W)) := fun W u h hu => by
    have k := Same_c W _ _ m m hu (hm.below h)
    rwa [show decide (m = m) = true from decide_eq_true rfl] at k
  have hle : t.start = 0 ∧ t.next.length ≤ a.next.length ∧ m.next.length ≤ a.next.length := by
    refine ⟨by rw [HTT.out]; rfl, ?_, ?_⟩
    · rw [HTT.out, trim_len]; exact ord_le HV.out.1.valid
    · have := mergeF_n a
      unfold mergeF at this
      rw [if_pos HV.out.1.valid] at this
      rw [HMM.out]; exact this
  have y1 : (t.start != 0) = false := by rw [hle.1]; rfl
  have y2 : decide ((a.next.length : Int) < (t.next.length : Int)) = false := decide_eq_false (by omega)
  have y3 : decide ((a.next.length : Int) < (m.next.length : Int)) = false := decide_eq_false (by omega)
  have y4 : decide (a.next.length < t.next.length) = false := decide_eq_false (by omega)
  have y5 : decide (a.next.length < m.next.length) = false := decide_eq_false (by omega)
  have HBT := Lib.hid hb
  have HXX := Lib.hid (And.intro hx (And.intro xt xm))
  have HII := Lib.hid (And.intro ha (And.intro hl (And.intro ht hm)))
  clear hle hb hx xt xm ha hl ht hm
  refine region_stable hmx (RL3 a t m p2 a2 a3 c2 c3 q2 b2 b3 e2 e3 zxt zxm zhx) (fun vs => { tmps := (_ :: _ :: _ :: _ :: _ :: _ :: _ :: _ :: _ :: _ :: _ :: _ :: _ :: _ :: _ :: _ :: _ :: _ :: _ :: _ :: _ :: _ :: _ :: _ :: vs 0 :: vs 1 :: vs 2 :: vs 3 :: vs 4 :: vs 5 :: vs 6 :: vs 7 :: vs 8 :: vs 9 :: vs 10 :: vs 11 :: vs 12 :: vs 13 :: vs 14 :: vs 15 :: vs 16 :: vs 17 :: vs 18 :: vs 19 :: vs 20 :: vs 21 :: vs 22 :: vs 23 :: vs 24 :: vs 25 :: vs 26 :: vs 27 :: vs 28 :: vs 29 :: vs 30 :: vs 31 :: vs 32 :: vs 33 :: vs 34 :: _ :: _ :: _ :: _ :: _ :: _ :: _ :: _ :: _ :: _ :: _ :: _ :: _ :: _ :: _ :: _ :: _ :: _ :: _ :: _ :: _ :: _ :: _ :: _ :: _ :: _ :: _ :: _ :: _ :: _ :: _ :: _ :: _ :: _ :: _ :: _ :: _ :: _ :: _ :: []).toArray, defers := _ }) (fun _ => undef) rfl (by kernel_rfl) (fun _ _ _ _ h hb => h.below hb) ?step ?fin
  case step =>
    as_aux_lemma =>
    intro ix o ho
    match ix, ho with
    | 0, ho =>
      obtain rfl := Option.some.inj ho
      intro vs W K hB hD hK
      have HK := Lib.hid hK
      obtain ⟨d0, d1, d2, d3⟩ := HT.out W hB
      clear hK hD ho
      dsimp only
      go_simp
      have h := HK.out _ _ (Below.refl _ _) rfl
      simp only [upd, Nat.reduceEqDiff, reduceIte] at h
      exact h
    | 1, ho =>
      obtain rfl := Option.some.inj ho
      intro vs W K hB hD hK
      have HK := Lib.hid hK
      have e0 : vs 0 = .agg #[.int .i64 t.letters, .int .i64 t.start, .slice a2 t.next.length b2, .slice a3 t.prio.length b3] := dep_of hD 0 (by rfl)
      clear hK hD ho
      dsimp only
      go_simp
      refine (HTr.out W (HB1.out W hB)).mono ?_
      rintro e W' ⟨u', rfl, hK, hb⟩
      have h := HK.out _ _ hb (hK _ (Only.refl _ _))
      simp only [upd, Nat.reduceEqDiff, reduceIte, e0] at h
      exact h
    | 2, ho =>
      obtain rfl := Option.some.inj ho
      intro vs W K hB hD hK
      have HK := Lib.hid hK
      obtain ⟨d0, d1, d2, d3⟩ := HT.out W hB
      clear hK hD ho
      dsimp only
      go_simp
      have h := HK.out _ _ (Below.refl _ _) rfl
      simp only [upd, Nat.reduceEqDiff, reduceIte] at h
      exact h
    | 3, ho =>
      obtain rfl := Option.some.inj ho
      intro vs W K hB hD hK
      have HK := Lib.hid hK
      have i1 := dep_of (R := RL3 a t m p2 a2 a3 c2 c3 q2 b2 b3 e2 e3 zxt zxm zhx) hD 1 (by rfl)
      have e2 : vs 2 = .agg #[.int .i64 t.letters, .int .i64 t.start, .slice a2 t.next.length b2, .slice a3 t.prio.length b3] := dep_of hD 2 (by rfl)
      clear hK hD ho
      dsimp only
      go_simp
      refine (HSt.out W (vs 1) (HB1.out W hB) i1).mono ?_
      rintro e W' ⟨rfl, hb⟩
      have h := HK.out _ _ hb rfl
      simp only [upd, Nat.reduceEqDiff, reduceIte, e2] at h
      exact h
    | 4, ho =>
      obtain rfl := Option.some.inj ho
      intro vs W K hB hD hK
      have HK := Lib.hid hK
      have e3 : vs 3 = .bool true := dep_of hD 3 (by rfl)
      clear hK hD ho
      dsimp only
      go_simp
      have h := HK.out _ _ (Below.refl _ _) rfl
      simp only [upd, Nat.reduceEqDiff, reduceIte, e3] at h
      exact h
    | 5, ho =>
      obtain rfl := Option.some.inj ho
      intro vs W K hB hD hK
      have HK := Lib.hid hK
      have e4 : vs 4 = .bool false := dep_of hD 4 (by rfl)
      clear hK hD ho
      dsimp only
      go_simp
      have h := HK.out _ _ (Below.refl _ _) rfl
      simp only [upd, Nat.reduceEqDiff, reduceIte, e4] at h
      exact h
    | 6, ho =>
      obtain rfl := Option.some.inj ho
      intro vs W K hB hD hK
      have HK := Lib.hid hK
      have e5 : vs 5 = .bool false := dep_of hD 5 (by rfl)
      obtain ⟨d0, d1, d2, d3⟩ := HM.out W hB
      clear hK hD ho
      dsimp only
      go_simp
      have h := HK.out _ _ (Below.refl _ _) rfl
      simp only [upd, Nat.reduceEqDiff, reduceIte, e5] at h
      exact h
    | 7, ho =>
      obtain rfl := Option.some.inj ho
      intro vs W K hB hD hK
      have HK := Lib.hid hK
      have e5 : vs 5 = .bool false := dep_of hD 5 (by rfl)
      have e6 : vs 6 = .agg #[.int .i64 m.letters, .int .i64 m.start, .slice c2 m.next.length e2, .slice c3 m.prio.length e3] := dep_of hD 6 (by rfl)
      clear hK hD ho
      dsimp only
      go_simp
      refine (HMr.out W (HB1.out W hB)).mono ?_
      rintro e W' ⟨u', rfl, hK, hb⟩
      have h := HK.out _ _ hb (hK _ (Only.refl _ _))
      simp only [upd, Nat.reduceEqDiff, reduceIte, e5, e6] at h
      exact h
    | 8, ho =>
      obtain rfl := Option.some.inj ho
      intro vs W K hB hD hK
      have HK := Lib.hid hK
      have e5 : vs 5 = .bool false := dep_of hD 5 (by rfl)
      obtain ⟨d0, d1, d2, d3⟩ := HM.out W hB
      clear hK hD ho
      dsimp only
      go_simp
      have h := HK.out _ _ (Below.refl _ _) rfl
      simp only [upd, Nat.reduceEqDiff, reduceIte, e5] at h
      exact h
    | 9, ho =>
      obtain rfl := Option.some.inj ho
      intro vs W K hB hD hK
      have HK := Lib.hid hK
      have e5 : vs 5 = .bool false := dep_of hD 5 (by rfl)
      have i7 := dep_of (R := RL3 a t m p2 a2 a3 c2 c3 q2 b2 b3 e2 e3 zxt zxm zhx) hD 7 (by rfl)
      have e8 : vs 8 = .agg #[.int .i64 m.letters, .int .i64 m.start, .slice c2 m.next.length e2, .slice c3 m.prio.length e3] := dep_of hD 8 (by rfl)
      clear hK hD ho
      dsimp only
      go_simp
      refine (HSm.out W (vs 7) (HB1.out W hB) i7).mono ?_
      rintro e W' ⟨rfl, hb⟩
      have h := HK.out _ _ hb rfl
      simp only [upd, Nat.reduceEqDiff, reduceIte, e5, e8] at h
      exact h
    | 10, ho =>
      obtain rfl := Option.some.inj ho
      intro vs W K hB hD hK
      have HK := Lib.hid hK
      have e5 : vs 5 = .bool false := dep_of hD 5 (by rfl)
      have e9 : vs 9 = .bool true := dep_of hD 9 (by rfl)
      clear hK hD ho
      dsimp only
      go_simp
      have h := HK.out _ _ (Below.refl _ _) rfl
      simp only [upd, Nat.reduceEqDiff, reduceIte, e5, e9] at h
      exact h
    | 11, ho =>
      obtain rfl := Option.some.inj ho
      intro vs W K hB hD hK
      have HK := Lib.hid hK
      have e5 : vs 5 = .bool false := dep_of hD 5 (by rfl)
      have e10 : vs 10 = .bool false := dep_of hD 10 (by rfl)
      clear hK hD ho
      dsimp only
      go_simp
      have h := HK.out _ _ (Below.refl _ _) rfl
      simp only [upd, Nat.reduceEqDiff, reduceIte, e5, e10] at h
      exact h
    | 12, ho =>
      obtain rfl := Option.some.inj ho
      intro vs W K hB hD hK
      have HK := Lib.hid hK
      have e11 : vs 11 = .bool false := dep_of hD 11 (by rfl)
      clear hK hD ho
      dsimp only
      go_simp
      have h := HK.out _ _ (Below.refl _ _) rfl
      simp only [upd, Nat.reduceEqDiff, reduceIte, e11] at h
      exact h
    | 13, ho =>
      obtain rfl := Option.some.inj ho
      intro vs W K hB hD hK
      have HK := Lib.hid hK
      have e12 : vs 12 = .bool false := dep_of hD 12 (by rfl)
      clear hK hD ho
      dsimp only
      go_simp
      have h := HK.out _ _ (Below.refl _ _) rfl
      simp only [upd, Nat.reduceEqDiff, reduceIte, e12] at h
      exact h
    | 14, ho =>
      obtain rfl := Option.some.inj ho
      intro vs W K hB hD hK
      have HK := Lib.hid hK
      have e12 : vs 12 = .bool false := dep_of hD 12 (by rfl)
      have e13 : vs 13 = .pointer (some ⟨zxt, 1, none⟩) := dep_of hD 13 (by rfl)
      obtain ⟨d0, d1, d2, d3⟩ := HT.out W hB
      clear hK hD ho
      dsimp only
      go_simp
      have h := HK.out _ _ (Below.refl _ _) rfl
      simp only [upd, Nat.reduceEqDiff, reduceIte, e12, e13] at h
      exact h
    | 15, ho =>
      obtain rfl := Option.some.inj ho
      intro vs W K hB hD hK
      have HK := Lib.hid hK
      have e12 : vs 12 = .bool false := dep_of hD 12 (by rfl)
      have e14 : vs 14 = .int .i64 t.start := dep_of hD 14 (by rfl)
      clear hK hD ho
      dsimp only
      go_simp
      have h := HK.out _ _ (Below.refl _ _) rfl
      simp only [upd, Nat.reduceEqDiff, reduceIte, e12, e14] at h
      exact h
    | 16, ho =>
      obtain rfl := Option.some.inj ho
      intro vs W K hB hD hK
      have HK := Lib.hid hK
      have e12 : vs 12 = .bool false := dep_of hD 12 (by rfl)
      have e15 : vs 15 = .bool false := dep_of hD 15 (by rfl)
      clear hK hD ho
      dsimp only
      go_simp
      have h := HK.out _ _ (Below.refl _ _) rfl
      simp only [upd, Nat.reduceEqDiff, reduceIte, e12, e15] at h
      exact h
    | 17, ho =>
      obtain rfl := Option.some.inj ho
      intro vs W K hB hD hK
      have HK := Lib.hid hK
      have e16 : vs 16 = .bool false := dep_of hD 16 (by rfl)
      clear hK hD ho
      dsimp only
      go_simp
      have h := HK.out _ _ (Below.refl _ _) rfl
      simp only [upd, Nat.reduceEqDiff, reduceIte, e16] at h
      exact h
    | 18, ho =>
      obtain rfl := Option.some.inj ho
      intro vs W K hB hD hK
      have HK := Lib.hid hK
      have e17 : vs 17 = .bool false := dep_of hD 17 (by rfl)
      clear hK hD ho
      dsimp only
      go_simp
      have h := HK.out _ _ (Below.refl _ _) rfl
      simp only [upd, Nat.reduceEqDiff, reduceIte, e17] at h
      exact h
    | 19, ho =>
      obtain rfl := Option.some.inj ho
      intro vs W K hB hD hK
      have HK := Lib.hid hK
      have e17 : vs 17 = .bool false := dep_of hD 17 (by rfl)
      have e18 : vs 18 = .pointer (some ⟨zxt, 2, none⟩) := dep_of hD 18 (by rfl)
      obtain ⟨d0, d1, d2, d3⟩ := HT.out W hB
      clear hK hD ho
      dsimp only
      go_simp
      have h := HK.out _ _ (Below.refl _ _) rfl
      simp only [upd, Nat.reduceEqDiff, reduceIte, e17, e18] at h
      exact h
    | 20, ho =>
      obtain rfl := Option.some.inj ho
      intro vs W K hB hD hK
      have HK := Lib.hid hK
      have e17 : vs 17 = .bool false := dep_of hD 17 (by rfl)
      have e19 : vs 19 = .slice a2 t.next.length b2 := dep_of hD 19 (by rfl)
      clear hK hD ho
      dsimp only
      go_simp
      have h := HK.out _ _ (Below.refl _ _) rfl
      simp only [upd, Nat.reduceEqDiff, reduceIte, e17, e19] at h
      exact h
    | 21, ho =>
      obtain rfl := Option.some.inj ho
      intro vs W K hB hD hK
      have HK := Lib.hid hK
      have e17 : vs 17 = .bool false := dep_of hD 17 (by rfl)
      clear hK hD ho
      dsimp only
      go_simp
      have h := HK.out _ _ (Below.refl _ _) rfl
      simp only [upd, Nat.reduceEqDiff, reduceIte, e17] at h
      exact h
    | 22, ho =>
      obtain rfl := Option.some.inj ho
      intro vs W K hB hD hK
      have HK := Lib.hid hK
      have e17 : vs 17 = .bool false := dep_of hD 17 (by rfl)
      have e21 : vs 21 = .pointer (some ⟨zhx, 2, none⟩) := dep_of hD 21 (by rfl)
      obtain ⟨d0, d1, d2, d3⟩ := HA.out W hB
      clear hK hD ho
      dsimp only
      go_simp
      have h := HK.out _ _ (Below.refl _ _) rfl
      simp only [upd, Nat.reduceEqDiff, reduceIte, e17, e21] at h
      exact h
    | 23, ho =>
      obtain rfl := Option.some.inj ho
      intro vs W K hB hD hK
      have HK := Lib.hid hK
      have e17 : vs 17 = .bool false := dep_of hD 17 (by rfl)
      have e22 : vs 22 = .slice p2 a.next.length q2 := dep_of hD 22 (by rfl)
      clear hK hD ho
      dsimp only
      go_simp
      have h := HK.out _ _ (Below.refl _ _) rfl
      simp only [upd, Nat.reduceEqDiff, reduceIte, e17, e22] at h
      exact h
    | 24, ho =>
      obtain rfl := Option.some.inj ho
      intro vs W K hB hD hK
      have HK := Lib.hid hK
      have e17 : vs 17 = .bool false := dep_of hD 17 (by rfl)
      have e20 : vs 20 = .int .i64 (t.next.length : Int) := dep_of hD 20 (by rfl)
      have e23 : vs 23 = .int .i64 (a.next.length : Int) := dep_of hD 23 (by rfl)
      clear hK hD ho
      dsimp only
      go_simp
      have h := HK.out _ _ (Below.refl _ _) rfl
      simp only [upd, Nat.reduceEqDiff, reduceIte, e17, e20, e23] at h
      exact h
    | 25, ho =>
      obtain rfl := Option.some.inj ho
      intro vs W K hB hD hK
      have HK := Lib.hid hK
      have e17 : vs 17 = .bool false := dep_of hD 17 (by rfl)
      have e24 : vs 24 = .bool false := dep_of hD 24 (by rfl)
      clear hK hD ho
      dsimp only
      go_simp
      have h := HK.out _ _ (Below.refl _ _) rfl
      simp only [upd, Nat.reduceEqDiff, reduceIte, e17, e24] at h
      exact h
    | 26, ho =>
      obtain rfl := Option.some.inj ho
      intro vs W K hB hD hK
      have HK := Lib.hid hK
      have e25 : vs 25 = .bool false := dep_of hD 25 (by rfl)
      clear hK hD ho
      dsimp only
      go_simp
      have h := HK.out _ _ (Below.refl _ _) rfl
      simp only [upd, Nat.reduceEqDiff, reduceIte, e25] at h
      exact h
    | 27, ho =>
      obtain rfl := Option.some.inj ho
      intro vs W K hB hD hK
      have HK := Lib.hid hK
      have e26 : vs 26 = .bool false := dep_of hD 26 (by rfl)
      clear hK hD ho
      dsimp only
      go_simp
      have h := HK.out _ _ (Below.refl _ _) rfl
      simp only [upd, Nat.reduceEqDiff, reduceIte, e26] at h
      exact h
    | 28, ho =>
      obtain rfl := Option.some.inj ho
      intro vs W K hB hD hK
      have HK := Lib.hid hK
      have e26 : vs 26 = .bool false := dep_of hD 26 (by rfl)
      have e27 : vs 27 = .pointer (some ⟨zxm, 2, none⟩) := dep_of hD 27 (by rfl)
      obtain ⟨d0, d1, d2, d3⟩ := HM.out W hB
      clear hK hD ho
      dsimp only
      go_simp
      have h := HK.out _ _ (Below.refl _ _) rfl
      simp only [upd, Nat.reduceEqDiff, reduceIte, e26, e27] at h
      exact h
    | 29, ho =>
      obtain rfl := Option.some.inj ho
      intro vs W K hB hD hK
      have HK := Lib.hid hK
      have e26 : vs 26 = .bool false := dep_of hD 26 (by rfl)
      have e28 : vs 28 = .slice c2 m.next.length e2 := dep_of hD 28 (by rfl)
      clear hK hD ho
      dsimp only
      go_simp
      have h := HK.out _ _ (Below.refl _ _) rfl
      simp only [upd, Nat.reduceEqDiff, reduceIte, e26, e28] at h
      exact h
    | 30, ho =>
      obtain rfl := Option.some.inj ho
      intro vs W K hB hD hK
      have HK := Lib.hid hK
      have e26 : vs 26 = .bool false := dep_of hD 26 (by rfl)
      clear hK hD ho
      dsimp only
      go_simp
      have h := HK.out _ _ (Below.refl _ _) rfl
      simp only [upd, Nat.reduceEqDiff, reduceIte, e26] at h
      exact h
    | 31, ho =>
      obtain rfl := Option.some.inj ho
      intro vs W K hB hD hK
      have HK := Lib.hid hK
      have e26 : vs 26 = .bool false := dep_of hD 26 (by rfl)
      have e30 : vs 30 = .pointer (some ⟨zhx, 2, none⟩) := dep_of hD 30 (by rfl)
      obtain ⟨d0, d1, d2, d3⟩ := HA.out W hB
      clear hK hD ho
      dsimp only
      go_simp
      have h := HK.out _ _ (Below.refl _ _) rfl
      simp only [upd, Nat.reduceEqDiff, reduceIte, e26, e30] at h
      exact h
    | 32, ho =>
      obtain rfl := Option.some.inj ho
      intro vs W K hB hD hK
      have HK := Lib.hid hK
      have e26 : vs 26 = .bool false := dep_of hD 26 (by rfl)
      have e31 : vs 31 = .slice p2 a.next.length q2 := dep_of hD 31 (by rfl)
      clear hK hD ho
      dsimp only
      go_simp
      have h := HK.out _ _ (Below.refl _ _) rfl
      simp only [upd, Nat.reduceEqDiff, reduceIte, e26, e31] at h
      exact h
    | 33, ho =>
      obtain rfl := Option.some.inj ho
      intro vs W K hB hD hK
      have HK := Lib.hid hK
      have e26 : vs 26 = .bool false := dep_of hD 26 (by rfl)
      have e29 : vs 29 = .int .i64 (m.next.length : Int) := dep_of hD 29 (by rfl)
      have e32 : vs 32 = .int .i64 (a.next.length : Int) := dep_of hD 32 (by rfl)
      clear hK hD ho
      dsimp only
      go_simp
      have h := HK.out _ _ (Below.refl _ _) rfl
      simp only [upd, Nat.reduceEqDiff, reduceIte, e26, e29, e32] at h
      exact h
    | 34, ho =>
      obtain rfl := Option.some.inj ho
      intro vs W K hB hD hK
      have HK := Lib.hid hK
      have e26 : vs 26 = .bool false := dep_of hD 26 (by rfl)
      have e33 : vs 33 = .bool false := dep_of hD 33 (by rfl)
      clear hK hD ho
      dsimp only
      go_simp
      have h := HK.out _ _ (Below.refl _ _) rfl
      simp only [upd, Nat.reduceEqDiff, reduceIte, e26, e33] at h
      exact h
    | q + 35, ho => exact absurd ho (by simp)
  case fin =>
    as_aux_lemma =>
    intro vs w9 hB hall
    have e34 : vs 34 = .bool false := hall 34 (by decide)
    have hB9 := HB1.out _ hB
    have HB9 := Lib.hid (HBT.out.trans (hB9.mono HBT.out.size))
    have hx := (hB9.block _ (Array.getElem?_eq_some_iff.1 HXX.out.1).1).trans HXX.out.1
    have xt := (hB9.block _ (Array.getElem?_eq_some_iff.1 HXX.out.2.1).1).trans HXX.out.2.1
    have xm := (hB9.block _ (Array.getElem?_eq_some_iff.1 HXX.out.2.2).1).trans HXX.out.2.2
    have ha := HII.out.1.below hB9
    have hl := HII.out.2.1.below hB9
    have ht := HII.out.2.2.1.below hB9
    have hm := HII.out.2.2.2.below hB9
    clear hall hB hB9 HB1 HA HT HM HTr HMr HSt HSm y1 y2 y3 y4 y5 HXX HII HBT
    rw [e34]
    clear e34
    generalize vs 0 = g0
    generalize vs 1 = g1
    generalize vs 2 = g2
    generalize vs 3 = g3
    generalize vs 4 = g4
    generalize vs 5 = g5
    generalize vs 6 = g6
    generalize vs 7 = g7
    generalize vs 8 = g8
    generalize vs 9 = g9
    generalize vs 10 = g10
    generalize vs 11 = g11
    generalize vs 12 = g12
    generalize vs 13 = g13
    generalize vs 14 = g14
    generalize vs 15 = g15
    generalize vs 16 = g16
    generalize vs 17 = g17
    generalize vs 18 = g18
    generalize vs 19 = g19
    generalize vs 20 = g20
    generalize vs 21 = g21
    generalize vs 22 = g22
    generalize vs 23 = g23
    generalize vs 24 = g24
    generalize vs 25 = g25
    generalize vs 26 = g26
    generalize vs 27 = g27
    generalize vs 28 = g28
    generalize vs 29 = g29
    generalize vs 30 = g30
    generalize vs 31 = g31
    generalize vs 32 = g32
    generalize vs 33 = g33
    clear vs
    obtain ⟨bl, ol, hdl, hnl, HLL⟩ := hl.dat
    have HL := Lib.hid HLL
    clear HLL
    go_wp2_with fail
    go_loopg [8] n (fun gh i wr => ∃ k : Nat, gh = n - k ∧ i = .int .i64 k ∧ k ≤ n ∧ Hid (∀ j, j < k → 0 ≤ ls.getD j 0 ∧ ls.getD j 0 < a.letters) ∧ Below w9.heap.size w9 wr)
    case atStart => exact ⟨0, rfl, rfl, by omega, fun j hj => absurd hj (Nat.not_lt_zero _), Below.refl _ _⟩
    case round =>
      obtain ⟨k, hgk, rfl, hk, HE2, hBr⟩ := hrel
      have HGK := Lib.hid hgk
      have HBr := Lib.hid hBr
      have HBR := Lib.hid (HB9.out.trans (hBr.mono HB9.out.size))
      clear hgk
      by_cases hlt : k < n
      · as_aux_lemma =>
        have hk1 : (k : Int) < (n : Int) := by omega
        obtain rfl := hdl (by omega)
        have e1 := cellB hBr (HL.out k hlt)
        have k0 := cell_of_row _ _ 0 _ _ _ ((hBr.block _ (Array.getElem?_eq_some_iff.1 hx).1).trans hx)
        clear hBr
        obtain ⟨x, hxx⟩ : ∃ x, ls.getD k 0 = x := ⟨_, rfl⟩
        rw [hxx] at e1
        have HXQ := Lib.hid hxx
        clear hxx
        by_cases h1 : x < 0
        · have c1 : decide (x < 0) = true := decide_eq_true h1
          go_wp2
          refine wp_region_quiet_lit (by kernel_rfl) (by kernel_rfl) ?_
          ((repeat (go_big_quiet_step (fail))); refine wpQuiet_nil ?_; rintro _ ⟨nq, rfl⟩)
          go_wp2
          go_ret
          exact HE.out _ (HBR.out.trans ((below_draws _ _ _).mono HBR.out.size))
        have c1 : decide (x < 0) = false := decide_eq_false h1
        by_cases h2 : a.letters ≤ x
        · have c2 : decide (a.letters ≤ x) = true := decide_eq_true h2
          go_wp2
          refine wp_region_quiet_lit (by kernel_rfl) (by kernel_rfl) ?_
          ((repeat (go_big_quiet_step (fail))); refine wpQuiet_nil ?_; rintro _ ⟨nq, rfl⟩)
          go_wp2
          go_ret
          exact HE.out _ (HBR.out.trans ((below_draws _ _ _).mono HBR.out.size))
        have c2 : decide (a.letters ≤ x) = false := decide_eq_false h2
        have HE3 : Hid (∀ j, j < k + 1 → 0 ≤ ls.getD j 0 ∧ ls.getD j 0 < a.letters) := fun j hj => by
          by_cases e : j = k
          · subst e; rw [HXQ.out]; omega
          · exact HE2.out j (by omega)
        clear h1 h2
        go_wp2
        refine wp_region_quiet_lit (by kernel_rfl) (by kernel_rfl) ?_
        ((repeat (go_big_quiet_step (fail))); refine wpQuiet_nil ?_; rintro _ ⟨nq, rfl⟩)
        go_wp2
        go_roundg (n - (k + 1))
        case measure => have := HGK.out; omega
        case rel => exact ⟨k + 1, rfl, by go_num, by omega, HE3, HBr.out.trans ((below_draws _ _ _).mono HBr.out.size)⟩
      · as_aux_lemma =>
        obtain rfl : k = n := by omega
        have hK : a.letters = ((a.letters.toNat : Nat) : Int) := HV.out.1.L
        have HLS : Hid (∀ x ∈ ls, 0 ≤ x ∧ x < ((a.letters.toNat : Nat) : Int)) := fun x hx => by
          obtain ⟨j, hj, e⟩ := mem_getD hx
          have := HE2.out j (by have := HNL.out; omega)
          rw [← hK, ← e]; exact this
        have HAt : Hid (AuV t a.letters.toNat) := by show AuV _ _; rw [HTT.out]; exact HV.out.1.trim
        have HAm : Hid (AuV m a.letters.toNat) := by show AuV _ _; rw [HMM.out]; exact HV.out.1.merge
        have HRt : Hid (runL t t.start ls = runL a a.start ls) := by show _ = _; rw [HTT.out]; exact run_trim HV.out.1 HLS.out
        have HRm : Hid (runL m m.start ls = runL a a.start ls) := by show _ = _; rw [HMM.out]; exact run_merge HV.out.1 HLS.out
        have HN2 : Hid (ls.length ≤ 3000) := by have := HNL.out; have := HS.out; show _ ≤ _; omega
        have hb := HBR.out
        replace hx := (hBr.block _ (Array.getElem?_eq_some_iff.1 hx).1).trans hx
        replace xt := (hBr.block _ (Array.getElem?_eq_some_iff.1 xt).1).trans xt
        replace xm := (hBr.block _ (Array.getElem?_eq_some_iff.1 xm).1).trans xm
        replace ha := ha.below hBr
        replace hl := hl.below hBr
        replace ht := ht.below hBr
        replace hm := hm.below hBr
        clear hK HE2 HB9 HL hdl hnl hBr HBr HBR
        have k0 := cell_of_row _ _ 0 _ _ _ hx
        have k1 := cell_of_row _ _ 1 _ _ _ hx
        have k2 := cell_of_row _ _ 2 _ _ _ hx
        have k3 := cell_of_row _ _ 3 _ _ _ hx
        go_wp2_with fail
        refine (run_c _ _ _ a a.letters.toNat ls ha hl HV.out.1 HLS.out HN2.out).mono ?_
        rintro e w10 ⟨vhva, rfl, hva, hb3⟩
        replace hx := (hb3.block _ (Array.getElem?_eq_some_iff.1 hx).1).trans hx
        replace xt := (hb3.block _ (Array.getElem?_eq_some_iff.1 xt).1).trans xt
        replace xm := (hb3.block _ (Array.getElem?_eq_some_iff.1 xm).1).trans xm
        replace ha := ha.below hb3
        replace hl := hl.below hb3
        replace ht := ht.below hb3
        replace hm := hm.below hb3
        replace hb := hb.trans (hb3.mono hb.size)
        clear hb3 k0 k1 k2 k3
        have k0 := cell_of_row _ _ 0 _ _ _ xt
        have k1 := cell_of_row _ _ 1 _ _ _ xt
        have k2 := cell_of_row _ _ 2 _ _ _ xt
        have k3 := cell_of_row _ _ 3 _ _ _ xt
        go_wp2_with fail
        refine (run_c _ _ _ t a.letters.toNat ls ht hl HAt.out HLS.out HN2.out).mono ?_
        rintro e w11 ⟨vhvt, rfl, hvt, hb3⟩
        rw [HRt.out] at hvt
        replace hx := (hb3.block _ (Array.getElem?_eq_some_iff.1 hx).1).trans hx
        replace xt := (hb3.block _ (Array.getElem?_eq_some_iff.1 xt).1).trans xt
        replace xm := (hb3.block _ (Array.getElem?_eq_some_iff.1 xm).1).trans xm
        replace ha := ha.below hb3
        replace hl := hl.below hb3
        replace ht := ht.below hb3
        replace hm := hm.below hb3
        replace hva := hva.below hb3
        replace hb := hb.trans (hb3.mono hb.size)
        clear hb3 k0 k1 k2 k3
        go_wp2_with fail
        refine ((Ints2_c _ _ _ _ _ hvt hva).mono fun e w' h => h.calm).mono ?_
        rw [decide_eq_true rfl]
        rintro e w12 ⟨rfl, hb3⟩
        replace hx := (hb3.block _ (Array.getElem?_eq_some_iff.1 hx).1).trans hx
        replace xt := (hb3.block _ (Array.getElem?_eq_some_iff.1 xt).1).trans xt
        replace xm := (hb3.block _ (Array.getElem?_eq_some_iff.1 xm).1).trans xm
        replace ha := ha.below hb3
        replace hl := hl.below hb3
        replace ht := ht.below hb3
        replace hm := hm.below hb3
        replace hva := hva.below hb3
        replace hvt := hvt.below hb3
        replace hb := hb.trans (hb3.mono hb.size)
        clear hb3
        have k0 := cell_of_row _ _ 0 _ _ _ xm
        have k1 := cell_of_row _ _ 1 _ _ _ xm
        have k2 := cell_of_row _ _ 2 _ _ _ xm
        have k3 := cell_of_row _ _ 3 _ _ _ xm
        go_wp2_with fail
        refine (run_c _ _ _ m a.letters.toNat ls hm hl HAm.out HLS.out HN2.out).mono ?_
        rintro e w13 ⟨vhvm, rfl, hvm, hb3⟩
        rw [HRm.out] at hvm
        replace hx := (hb3.block _ (Array.getElem?_eq_some_iff.1 hx).1).trans hx
        replace xt := (hb3.block _ (Array.getElem?_eq_some_iff.1 xt).1).trans xt
        replace xm := (hb3.block _ (Array.getElem?_eq_some_iff.1 xm).1).trans xm
        replace ha := ha.below hb3
        replace hl := hl.below hb3
        replace ht := ht.below hb3
        replace hm := hm.below hb3
        replace hva := hva.below hb3
        replace hvt := hvt.below hb3
        replace hb := hb.trans (hb3.mono hb.size)
        clear hb3 k0 k1 k2 k3
        go_wp2_with fail
        refine ((Ints2_c _ _ _ _ _ hvm hva).mono fun e w' h => h.calm).mono ?_
        rw [decide_eq_true rfl]
        rintro e w14 ⟨rfl, hb3⟩
        replace hx := (hb3.block _ (Array.getElem?_eq_some_iff.1 hx).1).trans hx
        replace xt := (hb3.block _ (Array.getElem?_eq_some_iff.1 xt).1).trans xt
        replace xm := (hb3.block _ (Array.getElem?_eq_some_iff.1 xm).1).trans xm
        replace ha := ha.below hb3
        replace hl := hl.below hb3
        replace ht := ht.below hb3
        replace hm := hm.below hb3
        replace hva := hva.below hb3
        replace hvt := hvt.below hb3
        replace hvm := hvm.below hb3
        replace hb := hb.trans (hb3.mono hb.size)
        clear hb3
        go_wp2_with fail
        go_ret
        exact HE.out _ hb

end Go.Proofs.Ytdkpdpcecjcmcaa
