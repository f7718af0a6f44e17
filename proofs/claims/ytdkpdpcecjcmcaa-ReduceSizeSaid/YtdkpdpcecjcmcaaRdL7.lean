/- The law ReduceSize: its walk. -/
import Derived.Test.YtdkpdpcecjcmcaaRdH2
import Derived.Test.YtdkpdpcecjcmcaaRdH3
namespace Go.Proofs.Ytdkpdpcecjcmcaa
open Go.RowKit

def RL7 (gr gt Lr Sr Lt St : Int) (c2 c3 a2 a3 e2 : Option Addr) (nr mr nt mt ns d2 d3 b2 b3 f2 zxr zxt zxs : Nat) (ix : Nat) (u : Value) (_ : World) : Prop :=
  match ix with
  | 0 => u = .bool true
  | 1 => u = .bool true
  | 2 => u = .pointer (some ⟨zxr, 2, none⟩)
  | 3 => u = .slice c2 nr d2
  | 4 => u = .int .i64 (nr : Int)
  | 5 => u = .pointer (some ⟨zxt, 2, none⟩)
  | 6 => u = .slice a2 nt b2
  | 7 => u = .int .i64 (nt : Int)
  | 8 => u = .bool true
  | 9 => u = .bool true
  | 10 => u = .bool true
  | 11 => u = .agg #[.int .i64 Lr, .int .i64 Sr, .slice c2 nr d2, .slice c3 mr d3]
  | 12 => u = .int .i64 gr
  | 13 => u = .agg #[.int .i64 Lt, .int .i64 St, .slice a2 nt b2, .slice a3 mt b3]
  | 14 => u = .int .i64 gt
  | 15 => u = .bool true
  | 16 => u = .bool true
  | 17 => u = .bool true
  | 18 => u = .pointer (some ⟨zxs, 2, none⟩)
  | 19 => u = .slice e2 ns f2
  | 20 => u = .int .i64 (ns : Int)
  | 21 => u = .pointer (some ⟨zxr, 2, none⟩)
  | 22 => u = .slice c2 nr d2
  | 23 => u = .int .i64 (nr : Int)
  | 24 => u = .bool true
  | 25 => u = .bool true
  | 26 => u = .bool true
  | 27 => u = .pointer (some ⟨zxs, 2, none⟩)
  | 28 => u = .slice e2 ns f2
  | 29 => u = .int .i64 (ns : Int)
  | 30 => u = .bool true
  | 31 => u = .bool true
  | 32 => u = .bool true
  | _ => True

set_option maxRecDepth 100000 in
set_option maxHeartbeats 8000000 in
theorem Size_walk (w : World) (v : Value) (a : Au) (ha : IsAuto w v a) :
    Calls Try.prog 7 #[v] w (Calm (.bool true) w) := by
  have hmx : Try.prog.follows .mixedOrders = true := by kernel_rfl
  obtain ⟨p2, q2, p3, q3, rfl⟩ := ha.shape
  go_enter Try.func7, Try.ntmps7
  go_upto_region 1 with (fail)
  obtain ⟨hx, hb, hB⟩ := box_new (w0 := w) (Below.refl _ _) (Nat.le_refl _) #[.int .i64 a.letters, .int .i64 a.start, .slice p2 a.next.length q2, .slice p3 a.prio.length q3] 24
  replace ha := ha.below hb
  generalize w.alloc (.cells #[.int .i64 a.letters, .int .i64 a.start, .slice p2 a.next.length q2, .slice p3 a.prio.length q3] 24) = w1 at *
  have HE : Hid (∀ W, Below w1.heap.size w1 W → Calm (.bool true) w (.returned (.bool true)) W) := fun W h => ⟨rfl, hB.trans (h.mono hB.size)⟩
  clear hb hB
  generalize w.heap.size = zhx at *
  go_wp2_with fail
  refine (head_c _).mono ?_
  rintro e w2 ⟨rfl, hb⟩
  replace hx := (hb.block _ (Array.getElem?_eq_some_iff.1 hx).1).trans hx
  replace ha := ha.below hb
  have k0 := cell_of_row _ _ 0 _ _ _ hx
  have k1 := cell_of_row _ _ 1 _ _ _ hx
  have k2 := cell_of_row _ _ 2 _ _ _ hx
  have k3 := cell_of_row _ _ 3 _ _ _ hx
  go_wp2_with fail
  refine (right_c _ _ a ha).mono ?_
  rintro e w3 ⟨rfl, hb3⟩
  replace hx := (hb3.block _ (Array.getElem?_eq_some_iff.1 hx).1).trans hx
  replace ha := ha.below hb3
  replace hb := hb.trans (hb3.mono hb.size)
  clear hb3 k0 k1 k2 k3
  cases hR : rightA a
  · go_wp2_with fail
    go_ret
    exact HE.out _ hb
  have HV : Hid (AuV a a.letters.toNat ∧ a.next.length ≤ 14) := right_v hR
  clear hR
  have k0 := cell_of_row _ _ 0 _ _ _ hx
  have k1 := cell_of_row _ _ 1 _ _ _ hx
  have k2 := cell_of_row _ _ 2 _ _ _ hx
  have k3 := cell_of_row _ _ 3 _ _ _ hx
  go_wp2_with fail
  refine (Trim_c _ _ a ha).mono ?_
  rintro e w4 ⟨vht, rfl, hK, hb3⟩
  have ht := hK _ (Only.refl _ _)
  replace hx := (hb3.block _ (Array.getElem?_eq_some_iff.1 hx).1).trans hx
  replace ha := ha.below hb3
  replace hb := hb.trans (hb3.mono hb.size)
  clear hb3 hK k0 k1 k2 k3
  obtain ⟨t, htt⟩ : ∃ t, trimF a = t := ⟨_, rfl⟩
  rw [htt] at ht
  have HTT := Lib.hid htt
  clear htt
  obtain ⟨a2, b2, a3, b3, rfl⟩ := ht.shape
  go_upto_region 5 with (fail)
  obtain ⟨xt, hb3, -⟩ := box_new hb hb.size #[.int .i64 t.letters, .int .i64 t.start, .slice a2 t.next.length b2, .slice a3 t.prio.length b3] 24
  replace hx := (hb3.block _ (Array.getElem?_eq_some_iff.1 hx).1).trans hx
  replace ha := ha.below hb3
  replace ht := ht.below hb3
  replace hb := hb.trans (hb3.mono hb.size)
  generalize w4.alloc (.cells #[.int .i64 t.letters, .int .i64 t.start, .slice a2 t.next.length b2, .slice a3 t.prio.length b3] 24) = w5 at *
  generalize w4.heap.size = zxt at *
  clear hb3
  have HN : a.next.length ≤ 2000 := by have := HV.out.2; omega
  have k0 := cell_of_row _ _ 0 _ _ _ hx
  have k1 := cell_of_row _ _ 1 _ _ _ hx
  have k2 := cell_of_row _ _ 2 _ _ _ hx
  have k3 := cell_of_row _ _ 3 _ _ _ hx
  go_wp2_with fail
  refine (Reduce_c _ _ a ha HN).mono ?_
  rintro e w6 ⟨vhr, rfl, hK, hb3⟩
  have hr := hK _ (Only.refl _ _)
  replace hx := (hb3.block _ (Array.getElem?_eq_some_iff.1 hx).1).trans hx
  replace xt := (hb3.block _ (Array.getElem?_eq_some_iff.1 xt).1).trans xt
  replace ha := ha.below hb3
  replace ht := ht.below hb3
  replace hb := hb.trans (hb3.mono hb.size)
  clear hb3 hK k0 k1 k2 k3 HN
  obtain ⟨r, hrr⟩ : ∃ t, reduceF a = t := ⟨_, rfl⟩
  rw [hrr] at hr
  have HRR := Lib.hid hrr
  clear hrr
  obtain ⟨c2, d2, c3, d3, rfl⟩ := hr.shape
  go_upto_region 6 with (fail)
  obtain ⟨xr, hb3, -⟩ := box_new hb hb.size #[.int .i64 r.letters, .int .i64 r.start, .slice c2 r.next.length d2, .slice c3 r.prio.length d3] 24
  replace hx := (hb3.block _ (Array.getElem?_eq_some_iff.1 hx).1).trans hx
  replace xt := (hb3.block _ (Array.getElem?_eq_some_iff.1 xt).1).trans xt
  replace ha := ha.below hb3
  replace ht := ht.below hb3
  replace hr := hr.below hb3
  replace hb := hb.trans (hb3.mono hb.size)
  generalize w6.alloc (.cells #[.int .i64 r.letters, .int .i64 r.start, .slice c2 r.next.length d2, .slice c3 r.prio.length d3] 24) = w7 at *
  generalize w6.heap.size = zxr at *
  clear hb3
  have HN : r.next.length ≤ 2000 := by have := HV.out.2; have := reduceF_n a; rw [HRR.out] at this; omega
  have k0 := cell_of_row _ _ 0 _ _ _ xr
  have k1 := cell_of_row _ _ 1 _ _ _ xr
  have k2 := cell_of_row _ _ 2 _ _ _ xr
  have k3 := cell_of_row _ _ 3 _ _ _ xr
  go_wp2_with fail
  refine (Reduce_c _ _ r hr HN).mono ?_
  rintro e w8 ⟨vhs, rfl, hK, hb3⟩
  have hs := hK _ (Only.refl _ _)
  replace hx := (hb3.block _ (Array.getElem?_eq_some_iff.1 hx).1).trans hx
  replace xt := (hb3.block _ (Array.getElem?_eq_some_iff.1 xt).1).trans xt
  replace xr := (hb3.block _ (Array.getElem?_eq_some_iff.1 xr).1).trans xr
  replace ha := ha.below hb3
  replace ht := ht.below hb3
  replace hr := hr.below hb3
  replace hb := hb.trans (hb3.mono hb.size)
  clear hb3 hK k0 k1 k2 k3 HN
  obtain ⟨s, hss⟩ : ∃ t, reduceF r = t := ⟨_, rfl⟩
  rw [hss] at hs
  have HSS := Lib.hid hss
  clear hss
  obtain ⟨e2, f2, e3, f3, rfl⟩ := hs.shape
  go_upto_region 7 with (fail)
  obtain ⟨xs, hb3, -⟩ := box_new hb hb.size #[.int .i64 s.letters, .int .i64 s.start, .slice e2 s.next.length f2, .slice e3 s.prio.length f3] 24
  replace hx := (hb3.block _ (Array.getElem?_eq_some_iff.1 hx).1).trans hx
  replace xt := (hb3.block _ (Array.getElem?_eq_some_iff.1 xt).1).trans xt
  replace xr := (hb3.block _ (Array.getElem?_eq_some_iff.1 xr).1).trans xr
  replace ha := ha.below hb3
  replace ht := ht.below hb3
  replace hr := hr.below hb3
  replace hs := hs.below hb3
  replace hb := hb.trans (hb3.mono hb.size)
  generalize w8.alloc (.cells #[.int .i64 s.letters, .int .i64 s.start, .slice e2 s.next.length f2, .slice e3 s.prio.length f3] 24) = w9 at *
  generalize w8.heap.size = zxs at *
  clear hb3
  have HB1 : Hid (∀ W, Below w9.drew.heap.size w9.drew W → Below w9.heap.size w9 W) := fun W h => (Below.drew (B := w9.heap.size) (Below.refl _ _)).trans h
  have HT : Hid (∀ W, Below w9.drew.heap.size w9.drew W → W.cell? ⟨zxt, 0, none⟩ = some (.int .i64 t.letters) ∧ W.cell? ⟨zxt, 1, none⟩ = some (.int .i64 t.start) ∧ W.cell? ⟨zxt, 2, none⟩ = some (.slice a2 t.next.length b2) ∧ W.cell? ⟨zxt, 3, none⟩ = some (.slice a3 t.prio.length b3)) := fun W h => by
    have k := ((HB1.out W h).block _ (Array.getElem?_eq_some_iff.1 xt).1).trans xt
    exact ⟨cell_of_row _ _ 0 _ _ _ k, cell_of_row _ _ 1 _ _ _ k, cell_of_row _ _ 2 _ _ _ k, cell_of_row _ _ 3 _ _ _ k⟩
  have HR : Hid (∀ W, Below w9.drew.heap.size w9.drew W → W.cell? ⟨zxr, 0, none⟩ = some (.int .i64 r.letters) ∧ W.cell? ⟨zxr, 1, none⟩ = some (.int .i64 r.start) ∧ W.cell? ⟨zxr, 2, none⟩ = some (.slice c2 r.next.length d2) ∧ W.cell? ⟨zxr, 3, none⟩ = some (.slice c3 r.prio.length d3)) := fun W h => by
    have k := ((HB1.out W h).block _ (Array.getElem?_eq_some_iff.1 xr).1).trans xr
    exact ⟨cell_of_row _ _ 0 _ _ _ k, cell_of_row _ _ 1 _ _ _ k, cell_of_row _ _ 2 _ _ _ k, cell_of_row _ _ 3 _ _ _ k⟩
  have HS : Hid (∀ W, Below w9.drew.heap.size w9.drew W → W.cell? ⟨zxs, 0, none⟩ = some (.int .i64 s.letters) ∧ W.cell? ⟨zxs, 1, none⟩ = some (.int .i64 s.start) ∧ W.cell? ⟨zxs, 2, none⟩ = some (.slice e2 s.next.length f2) ∧ W.cell? ⟨zxs, 3, none⟩ = some (.slice e3 s.prio.length f3)) := fun W h => by
    have k := ((HB1.out W h).block _ (Array.getElem?_eq_some_iff.1 xs).1).trans xs
    exact ⟨cell_of_row _ _ 0 _ _ _ k, cell_of_row _ _ 1 _ _ _ k, cell_of_row _ _ 2 _ _ _ k, cell_of_row _ _ 3 _ _ _ k⟩
  have HGr : Hid (∀ W, Below w9.heap.size w9 W → Calls Try.prog 27 #[.agg #[.int .i64 r.letters, .int .i64 r.start, .slice c2 r.next.length d2, .slice c3 r.prio.length d3]] W (Calm (.int .i64 (grA r)) W)) := fun W h => by
    exact greatest_c W _ r (hr.below h)
  have HGt : Hid (∀ W, Below w9.heap.size w9 W → Calls Try.prog 27 #[.agg #[.int .i64 t.letters, .int .i64 t.start, .slice a2 t.next.length b2, .slice a3 t.prio.length b3]] W (Calm (.int .i64 (grA t)) W)) := fun W h => by
    exact greatest_c W _ t (ht.below h)
  have hle : r.next.length ≤ t.next.length ∧ grA r ≤ grA t ∧ s.next.length ≤ r.next.length ∧ 0 < s.next.length := by
    have h0 := HV.out.1
    have h1 := (reduce_eq h0).2
    have h2 := (reduce_eq h1).2.n1
    rw [HRR.out] at h1 h2
    have h3 := (reduce_eq h1).2.n1
    have h4 := reduce_le a
    have h5 := gr_reduce h0
    have h6 := reduceF_n r
    rw [HRR.out, HTT.out] at h4 h5
    rw [HSS.out] at h3 h6
    exact ⟨h4, h5, h6, h3.1⟩
  obtain ⟨y1, y2, y3, y4⟩ := hle
  have u1 : decide ((r.next.length : Int) ≤ (t.next.length : Int)) = true := decide_eq_true (by omega)
  have u2 : decide (grA r ≤ grA t) = true := decide_eq_true y2
  have u3 : decide ((s.next.length : Int) ≤ (r.next.length : Int)) = true := decide_eq_true (by omega)
  have u4 : decide ((0 : Int) < (s.next.length : Int)) = true := decide_eq_true (by omega)
  have u5 : decide (r.next.length ≤ t.next.length) = true := decide_eq_true y1
  have u6 : decide (s.next.length ≤ r.next.length) = true := decide_eq_true y3
  have u7 : decide (0 < s.next.length) = true := decide_eq_true y4
  clear ha ht hr hs hx xt xr xs HTT HRR HSS HV
  have HBT := Lib.hid hb
  clear hb
  generalize grA r = gr at *
  generalize grA t = gt at *
  generalize r.next.length = nr at *
  generalize t.next.length = nt at *
  generalize s.next.length = ns at *
  generalize r.prio.length = mr at *
  generalize t.prio.length = mt at *
  generalize s.prio.length = ms at *
  generalize r.letters = Lr at *
  generalize t.letters = Lt at *
  generalize s.letters = Ls at *
  generalize r.start = Sr at *
  generalize t.start = St at *
  generalize s.start = Ss at *
  generalize a.letters = La at *
  generalize a.start = Sa at *
  generalize a.next.length = na at *
  generalize a.prio.length = ma at *
  refine region_stable hmx (RL7 gr gt Lr Sr Lt St c2 c3 a2 a3 e2 nr mr nt mt ns d2 d3 b2 b3 f2 zxr zxt zxs) (fun vs => { tmps := (_ :: _ :: vs 32 :: _ :: _ :: _ :: _ :: _ :: _ :: _ :: _ :: _ :: _ :: _ :: _ :: _ :: _ :: _ :: vs 0 :: vs 1 :: vs 2 :: vs 3 :: vs 4 :: vs 5 :: vs 6 :: vs 7 :: vs 8 :: vs 9 :: vs 10 :: vs 11 :: vs 12 :: vs 13 :: vs 14 :: vs 15 :: vs 16 :: vs 17 :: vs 18 :: vs 19 :: vs 20 :: vs 21 :: vs 22 :: vs 23 :: vs 24 :: vs 25 :: vs 26 :: vs 27 :: vs 28 :: vs 29 :: vs 30 :: vs 31 :: []).toArray, defers := _ }) (fun k => if k = 32 then .bool false else undef) rfl (by kernel_rfl) (fun _ _ _ _ h _ => h) ?step ?fin
  case step =>
    intro ix o ho
    match ix, ho with
    | 0, ho =>
      obtain rfl := Option.some.inj ho
      intro vs W K hB hD hK
      have HK := Lib.hid hK
      clear hK hD ho
      dsimp only
      go_simp
      have h := HK.out _ _ (Below.refl _ _) rfl
      simp only [upd, Nat.reduceEqDiff, reduceIte] at h
      exact h
    | 1, ho =>
      obtain rfl := Option.some.inj ho
      intro vs W K hB hD hK
      have HK := Lib.hid hK
      have e0 : vs 0 = .bool true := dep_of hD 0 (by rfl)
      clear hK hD ho
      dsimp only
      go_simp
      have h := HK.out _ _ (Below.refl _ _) rfl
      simp only [upd, Nat.reduceEqDiff, reduceIte, e0] at h
      exact h
    | 2, ho =>
      obtain rfl := Option.some.inj ho
      intro vs W K hB hD hK
      have HK := Lib.hid hK
      have e1 : vs 1 = .bool true := dep_of hD 1 (by rfl)
      clear hK hD ho
      dsimp only
      go_simp
      have h := HK.out _ _ (Below.refl _ _) rfl
      simp only [upd, Nat.reduceEqDiff, reduceIte, e1] at h
      exact h
    | 3, ho =>
      obtain rfl := Option.some.inj ho
      intro vs W K hB hD hK
      have HK := Lib.hid hK
      have e1 : vs 1 = .bool true := dep_of hD 1 (by rfl)
      have e2 : vs 2 = .pointer (some ⟨zxr, 2, none⟩) := dep_of hD 2 (by rfl)
      obtain ⟨d0, d1, d2, d3⟩ := HR.out W hB
      clear hK hD ho
      dsimp only
      go_simp
      have h := HK.out _ _ (Below.refl _ _) rfl
      simp only [upd, Nat.reduceEqDiff, reduceIte, e1, e2] at h
      exact h
    | 4, ho =>
      obtain rfl := Option.some.inj ho
      intro vs W K hB hD hK
      have HK := Lib.hid hK
      have e1 : vs 1 = .bool true := dep_of hD 1 (by rfl)
      have e3 : vs 3 = .slice c2 nr d2 := dep_of hD 3 (by rfl)
      clear hK hD ho
      dsimp only
      go_simp
      have h := HK.out _ _ (Below.refl _ _) rfl
      simp only [upd, Nat.reduceEqDiff, reduceIte, e1, e3] at h
      exact h
    | 5, ho =>
      obtain rfl := Option.some.inj ho
      intro vs W K hB hD hK
      have HK := Lib.hid hK
      have e1 : vs 1 = .bool true := dep_of hD 1 (by rfl)
      clear hK hD ho
      dsimp only
      go_simp
      have h := HK.out _ _ (Below.refl _ _) rfl
      simp only [upd, Nat.reduceEqDiff, reduceIte, e1] at h
      exact h
    | 6, ho =>
      obtain rfl := Option.some.inj ho
      intro vs W K hB hD hK
      have HK := Lib.hid hK
      have e1 : vs 1 = .bool true := dep_of hD 1 (by rfl)
      have e5 : vs 5 = .pointer (some ⟨zxt, 2, none⟩) := dep_of hD 5 (by rfl)
      obtain ⟨d0, d1, d2, d3⟩ := HT.out W hB
      clear hK hD ho
      dsimp only
      go_simp
      have h := HK.out _ _ (Below.refl _ _) rfl
      simp only [upd, Nat.reduceEqDiff, reduceIte, e1, e5] at h
      exact h
    | 7, ho =>
      obtain rfl := Option.some.inj ho
      intro vs W K hB hD hK
      have HK := Lib.hid hK
      have e1 : vs 1 = .bool true := dep_of hD 1 (by rfl)
      have e6 : vs 6 = .slice a2 nt b2 := dep_of hD 6 (by rfl)
      clear hK hD ho
      dsimp only
      go_simp
      have h := HK.out _ _ (Below.refl _ _) rfl
      simp only [upd, Nat.reduceEqDiff, reduceIte, e1, e6] at h
      exact h
    | 8, ho =>
      obtain rfl := Option.some.inj ho
      intro vs W K hB hD hK
      have HK := Lib.hid hK
      have e1 : vs 1 = .bool true := dep_of hD 1 (by rfl)
      have e4 : vs 4 = .int .i64 (nr : Int) := dep_of hD 4 (by rfl)
      have e7 : vs 7 = .int .i64 (nt : Int) := dep_of hD 7 (by rfl)
      clear hK hD ho
      dsimp only
      go_simp
      have h := HK.out _ _ (Below.refl _ _) rfl
      simp only [upd, Nat.reduceEqDiff, reduceIte, e1, e4, e7] at h
      exact h
    | 9, ho =>
      obtain rfl := Option.some.inj ho
      intro vs W K hB hD hK
      have HK := Lib.hid hK
      have e1 : vs 1 = .bool true := dep_of hD 1 (by rfl)
      have e8 : vs 8 = .bool true := dep_of hD 8 (by rfl)
      clear hK hD ho
      dsimp only
      go_simp
      have h := HK.out _ _ (Below.refl _ _) rfl
      simp only [upd, Nat.reduceEqDiff, reduceIte, e1, e8] at h
      exact h
    | 10, ho =>
      obtain rfl := Option.some.inj ho
      intro vs W K hB hD hK
      have HK := Lib.hid hK
      have e9 : vs 9 = .bool true := dep_of hD 9 (by rfl)
      clear hK hD ho
      dsimp only
      go_simp
      have h := HK.out _ _ (Below.refl _ _) rfl
      simp only [upd, Nat.reduceEqDiff, reduceIte, e9] at h
      exact h
    | 11, ho =>
      obtain rfl := Option.some.inj ho
      intro vs W K hB hD hK
      have HK := Lib.hid hK
      have e10 : vs 10 = .bool true := dep_of hD 10 (by rfl)
      obtain ⟨d0, d1, d2, d3⟩ := HR.out W hB
      clear hK hD ho
      dsimp only
      go_simp
      have h := HK.out _ _ (Below.refl _ _) rfl
      simp only [upd, Nat.reduceEqDiff, reduceIte, e10] at h
      exact h
    | 12, ho =>
      obtain rfl := Option.some.inj ho
      intro vs W K hB hD hK
      have HK := Lib.hid hK
      have e10 : vs 10 = .bool true := dep_of hD 10 (by rfl)
      have e11 : vs 11 = .agg #[.int .i64 Lr, .int .i64 Sr, .slice c2 nr d2, .slice c3 mr d3] := dep_of hD 11 (by rfl)
      clear hK hD ho
      dsimp only
      go_simp
      refine (HGr.out W (HB1.out W hB)).mono ?_
      rintro e W' ⟨rfl, hb⟩
      have h := HK.out _ _ hb rfl
      simp only [upd, Nat.reduceEqDiff, reduceIte, e10, e11] at h
      exact h
    | 13, ho =>
      obtain rfl := Option.some.inj ho
      intro vs W K hB hD hK
      have HK := Lib.hid hK
      have e10 : vs 10 = .bool true := dep_of hD 10 (by rfl)
      obtain ⟨d0, d1, d2, d3⟩ := HT.out W hB
      clear hK hD ho
      dsimp only
      go_simp
      have h := HK.out _ _ (Below.refl _ _) rfl
      simp only [upd, Nat.reduceEqDiff, reduceIte, e10] at h
      exact h
    | 14, ho =>
      obtain rfl := Option.some.inj ho
      intro vs W K hB hD hK
      have HK := Lib.hid hK
      have e10 : vs 10 = .bool true := dep_of hD 10 (by rfl)
      have e13 : vs 13 = .agg #[.int .i64 Lt, .int .i64 St, .slice a2 nt b2, .slice a3 mt b3] := dep_of hD 13 (by rfl)
      clear hK hD ho
      dsimp only
      go_simp
      refine (HGt.out W (HB1.out W hB)).mono ?_
      rintro e W' ⟨rfl, hb⟩
      have h := HK.out _ _ hb rfl
      simp only [upd, Nat.reduceEqDiff, reduceIte, e10, e13] at h
      exact h
    | 15, ho =>
      obtain rfl := Option.some.inj ho
      intro vs W K hB hD hK
      have HK := Lib.hid hK
      have e10 : vs 10 = .bool true := dep_of hD 10 (by rfl)
      have e12 : vs 12 = .int .i64 gr := dep_of hD 12 (by rfl)
      have e14 : vs 14 = .int .i64 gt := dep_of hD 14 (by rfl)
      clear hK hD ho
      dsimp only
      go_simp
      have h := HK.out _ _ (Below.refl _ _) rfl
      simp only [upd, Nat.reduceEqDiff, reduceIte, e10, e12, e14] at h
      exact h
    | 16, ho =>
      obtain rfl := Option.some.inj ho
      intro vs W K hB hD hK
      have HK := Lib.hid hK
      have e10 : vs 10 = .bool true := dep_of hD 10 (by rfl)
      have e15 : vs 15 = .bool true := dep_of hD 15 (by rfl)
      clear hK hD ho
      dsimp only
      go_simp
      have h := HK.out _ _ (Below.refl _ _) rfl
      simp only [upd, Nat.reduceEqDiff, reduceIte, e10, e15] at h
      exact h
    | 17, ho =>
      obtain rfl := Option.some.inj ho
      intro vs W K hB hD hK
      have HK := Lib.hid hK
      have e16 : vs 16 = .bool true := dep_of hD 16 (by rfl)
      clear hK hD ho
      dsimp only
      go_simp
      have h := HK.out _ _ (Below.refl _ _) rfl
      simp only [upd, Nat.reduceEqDiff, reduceIte, e16] at h
      exact h
    | 18, ho =>
      obtain rfl := Option.some.inj ho
      intro vs W K hB hD hK
      have HK := Lib.hid hK
      have e17 : vs 17 = .bool true := dep_of hD 17 (by rfl)
      clear hK hD ho
      dsimp only
      go_simp
      have h := HK.out _ _ (Below.refl _ _) rfl
      simp only [upd, Nat.reduceEqDiff, reduceIte, e17] at h
      exact h
    | 19, ho =>
      obtain rfl := Option.some.inj ho
      intro vs W K hB hD hK
      have HK := Lib.hid hK
      have e17 : vs 17 = .bool true := dep_of hD 17 (by rfl)
      have e18 : vs 18 = .pointer (some ⟨zxs, 2, none⟩) := dep_of hD 18 (by rfl)
      obtain ⟨d0, d1, d2, d3⟩ := HS.out W hB
      clear hK hD ho
      dsimp only
      go_simp
      have h := HK.out _ _ (Below.refl _ _) rfl
      simp only [upd, Nat.reduceEqDiff, reduceIte, e17, e18] at h
      exact h
    | 20, ho =>
      obtain rfl := Option.some.inj ho
      intro vs W K hB hD hK
      have HK := Lib.hid hK
      have e17 : vs 17 = .bool true := dep_of hD 17 (by rfl)
      have e19 : vs 19 = .slice e2 ns f2 := dep_of hD 19 (by rfl)
      clear hK hD ho
      dsimp only
      go_simp
      have h := HK.out _ _ (Below.refl _ _) rfl
      simp only [upd, Nat.reduceEqDiff, reduceIte, e17, e19] at h
      exact h
    | 21, ho =>
      obtain rfl := Option.some.inj ho
      intro vs W K hB hD hK
      have HK := Lib.hid hK
      have e17 : vs 17 = .bool true := dep_of hD 17 (by rfl)
      clear hK hD ho
      dsimp only
      go_simp
      have h := HK.out _ _ (Below.refl _ _) rfl
      simp only [upd, Nat.reduceEqDiff, reduceIte, e17] at h
      exact h
    | 22, ho =>
      obtain rfl := Option.some.inj ho
      intro vs W K hB hD hK
      have HK := Lib.hid hK
      have e17 : vs 17 = .bool true := dep_of hD 17 (by rfl)
      have e21 : vs 21 = .pointer (some ⟨zxr, 2, none⟩) := dep_of hD 21 (by rfl)
      obtain ⟨d0, d1, d2, d3⟩ := HR.out W hB
      clear hK hD ho
      dsimp only
      go_simp
      have h := HK.out _ _ (Below.refl _ _) rfl
      simp only [upd, Nat.reduceEqDiff, reduceIte, e17, e21] at h
      exact h
    | 23, ho =>
      obtain rfl := Option.some.inj ho
      intro vs W K hB hD hK
      have HK := Lib.hid hK
      have e17 : vs 17 = .bool true := dep_of hD 17 (by rfl)
      have e22 : vs 22 = .slice c2 nr d2 := dep_of hD 22 (by rfl)
      clear hK hD ho
      dsimp only
      go_simp
      have h := HK.out _ _ (Below.refl _ _) rfl
      simp only [upd, Nat.reduceEqDiff, reduceIte, e17, e22] at h
      exact h
    | 24, ho =>
      obtain rfl := Option.some.inj ho
      intro vs W K hB hD hK
      have HK := Lib.hid hK
      have e17 : vs 17 = .bool true := dep_of hD 17 (by rfl)
      have e20 : vs 20 = .int .i64 (ns : Int) := dep_of hD 20 (by rfl)
      have e23 : vs 23 = .int .i64 (nr : Int) := dep_of hD 23 (by rfl)
      clear hK hD ho
      dsimp only
      go_simp
      have h := HK.out _ _ (Below.refl _ _) rfl
      simp only [upd, Nat.reduceEqDiff, reduceIte, e17, e20, e23] at h
      exact h
    | 25, ho =>
      obtain rfl := Option.some.inj ho
      intro vs W K hB hD hK
      have HK := Lib.hid hK
      have e17 : vs 17 = .bool true := dep_of hD 17 (by rfl)
      have e24 : vs 24 = .bool true := dep_of hD 24 (by rfl)
      clear hK hD ho
      dsimp only
      go_simp
      have h := HK.out _ _ (Below.refl _ _) rfl
      simp only [upd, Nat.reduceEqDiff, reduceIte, e17, e24] at h
      exact h
    | 26, ho =>
      obtain rfl := Option.some.inj ho
      intro vs W K hB hD hK
      have HK := Lib.hid hK
      have e25 : vs 25 = .bool true := dep_of hD 25 (by rfl)
      clear hK hD ho
      dsimp only
      go_simp
      have h := HK.out _ _ (Below.refl _ _) rfl
      simp only [upd, Nat.reduceEqDiff, reduceIte, e25] at h
      exact h
    | 27, ho =>
      obtain rfl := Option.some.inj ho
      intro vs W K hB hD hK
      have HK := Lib.hid hK
      have e26 : vs 26 = .bool true := dep_of hD 26 (by rfl)
      clear hK hD ho
      dsimp only
      go_simp
      have h := HK.out _ _ (Below.refl _ _) rfl
      simp only [upd, Nat.reduceEqDiff, reduceIte, e26] at h
      exact h
    | 28, ho =>
      obtain rfl := Option.some.inj ho
      intro vs W K hB hD hK
      have HK := Lib.hid hK
      have e26 : vs 26 = .bool true := dep_of hD 26 (by rfl)
      have e27 : vs 27 = .pointer (some ⟨zxs, 2, none⟩) := dep_of hD 27 (by rfl)
      obtain ⟨d0, d1, d2, d3⟩ := HS.out W hB
      clear hK hD ho
      dsimp only
      go_simp
      have h := HK.out _ _ (Below.refl _ _) rfl
      simp only [upd, Nat.reduceEqDiff, reduceIte, e26, e27] at h
      exact h
    | 29, ho =>
      obtain rfl := Option.some.inj ho
      intro vs W K hB hD hK
      have HK := Lib.hid hK
      have e26 : vs 26 = .bool true := dep_of hD 26 (by rfl)
      have e28 : vs 28 = .slice e2 ns f2 := dep_of hD 28 (by rfl)
      clear hK hD ho
      dsimp only
      go_simp
      have h := HK.out _ _ (Below.refl _ _) rfl
      simp only [upd, Nat.reduceEqDiff, reduceIte, e26, e28] at h
      exact h
    | 30, ho =>
      obtain rfl := Option.some.inj ho
      intro vs W K hB hD hK
      have HK := Lib.hid hK
      have e26 : vs 26 = .bool true := dep_of hD 26 (by rfl)
      have e29 : vs 29 = .int .i64 (ns : Int) := dep_of hD 29 (by rfl)
      clear hK hD ho
      dsimp only
      go_simp
      have h := HK.out _ _ (Below.refl _ _) rfl
      simp only [upd, Nat.reduceEqDiff, reduceIte, e26, e29] at h
      exact h
    | 31, ho =>
      obtain rfl := Option.some.inj ho
      intro vs W K hB hD hK
      have HK := Lib.hid hK
      have e26 : vs 26 = .bool true := dep_of hD 26 (by rfl)
      have e30 : vs 30 = .bool true := dep_of hD 30 (by rfl)
      clear hK hD ho
      dsimp only
      go_simp
      have h := HK.out _ _ (Below.refl _ _) rfl
      simp only [upd, Nat.reduceEqDiff, reduceIte, e26, e30] at h
      exact h
    | 32, ho =>
      obtain rfl := Option.some.inj ho
      intro vs W K hB hD hK
      have HK := Lib.hid hK
      have e31 : vs 31 = .bool true := dep_of hD 31 (by rfl)
      clear hK hD ho
      dsimp only
      go_simp
      have h := HK.out _ _ (Below.refl _ _) rfl
      simp only [upd, Nat.reduceEqDiff, reduceIte, e31] at h
      exact h
    | q + 33, ho => exact absurd ho (by simp)
  case fin =>
    intro vs W hB hall
    have e50 : vs 32 = .bool true := hall 32 (by decide)
    have hB5 := HBT.out.trans ((HB1.out W hB).mono HBT.out.size)
    clear hall hB
    rw [e50]
    clear e50
    go_wp2
    go_ret
    exact HE.out _ hB5

end Go.Proofs.Ytdkpdpcecjcmcaa
