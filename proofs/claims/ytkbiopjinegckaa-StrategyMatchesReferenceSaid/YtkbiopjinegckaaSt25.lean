/- The law StrategyMatchesReference: its walk. -/
import Derived.Test.YtkbiopjinegckaaSt24
import Derived.Test.YtkbiopjinegckaaSt22
import Derived.Test.YtkbiopjinegckaaSt21
namespace Go.Proofs.Ytkbiopjinegckaa
open Go.RowKit

def RM (p wr : Int) (bv bw : Bool) (vs vt : Value) (a0 a1 a2 p0 p1 x0 x1 u0 u1 : Option Addr) (n0 n1 n2 c0 c1 c2 m0 m1 q0 q1 k0 k1 y0 y1 v0 v1 zx zy : Nat) (ix : Nat) (u : Value) (_ : World) : Prop :=
  match ix with
  | 0 => u = .bool true
  | 1 => u = .bool true
  | 2 => u = .agg #[.slice a0 n0 c0, .slice a1 n1 c1, .slice a2 n2 c2]
  | 3 => u = .int .i64 p
  | 4 => u = vs
  | 5 => u = vt
  | 6 => u = .bool bv
  | 7 => u = .agg #[.slice a0 n0 c0, .slice a1 n1 c1, .slice a2 n2 c2]
  | 8 => u = .int .i64 p
  | 9 => u = vs
  | 10 => u = vt
  | 11 => u = .bool bv
  | 12 => u = .bool true
  | 13 => u = .bool true
  | 14 => u = .bool true
  | 15 => u = .agg #[.slice a0 n0 c0, .slice a1 n1 c1, .slice a2 n2 c2]
  | 16 => u = .int .i64 p
  | 17 => u = vs
  | 18 => u = vt
  | 19 => u = .bool bw
  | 20 => u = .agg #[.slice a0 n0 c0, .slice a1 n1 c1, .slice a2 n2 c2]
  | 21 => u = .int .i64 p
  | 22 => u = vs
  | 23 => u = vt
  | 24 => u = .bool bw
  | 25 => u = .bool true
  | 26 => u = .bool true
  | 27 => u = .bool true
  | 28 => u = .pointer (some ⟨zx, 0, none⟩)
  | 29 => u = .slice x0 k0 y0
  | 30 => u = .pointer (some ⟨zy, 0, none⟩)
  | 31 => u = .slice u0 k0 v0
  | 32 => u = .bool true
  | 33 => u = .bool true
  | 34 => u = .bool true
  | 35 => u = .pointer (some ⟨zx, 1, none⟩)
  | 36 => u = .slice x1 k1 y1
  | 37 => u = .pointer (some ⟨zy, 1, none⟩)
  | 38 => u = .slice u1 k1 v1
  | 39 => u = .bool true
  | 40 => u = .bool true
  | 41 => u = .bool true
  | 42 => u = .agg #[.slice a0 n0 c0, .slice a1 n1 c1, .slice a2 n2 c2]
  | 43 => u = .agg #[.slice p0 m0 q0, .slice p1 m1 q1]
  | 44 => u = .int .i64 wr
  | 45 => u = .agg #[.slice a0 n0 c0, .slice a1 n1 c1, .slice a2 n2 c2]
  | 46 => u = .agg #[.slice p0 m0 q0, .slice p1 m1 q1]
  | 47 => u = .int .i64 wr
  | 48 => u = .bool true
  | 49 => u = .bool true
  | 50 => u = .bool true
  | _ => True

set_option maxRecDepth 100000 in
set_option maxHeartbeats 8000000 in
theorem Match_walk (w : World) (vg vs vt vu vp : Value) (g : Gm) (p : Int) (set : List Bool) (s t : List Int) (x : Int) (P : Ph) (hg : IsGame w vg g) (hs : IsBools w vs set) (ht : IsInts w vt s) (hu : IsInts w vu t) (hp : IsPath w vp P) :
    Calls Try.prog 3 #[vg, .int .i64 p, vs, vt, vu, .int .i64 x, vp] w (Calm (.bool true) w) := by
  have hmx : Try.prog.follows .mixedOrders = true := by kernel_rfl
  obtain ⟨a0, c0, a1, c1, a2, c2, rfl⟩ := hg.shape
  obtain ⟨p0, q0, p1, q1, rfl, hq0, hq1⟩ := hp.shape
  obtain ⟨aS, cS, rfl⟩ : ∃ aS cS, vs = .slice aS set.length cS := by
    obtain ⟨a, c, b, o, e, -⟩ := hs
    exact ⟨a, c, e⟩
  obtain ⟨at', ct, rfl⟩ := ht.shape
  obtain ⟨au, cu, rfl⟩ := hu.shape
  generalize hn0 : g.owner.length = n0 at *
  generalize hn1 : g.prio.length = n1 at *
  generalize hn2 : g.succ.length = n2 at *
  generalize hm0 : P.stem.length = m0 at *
  generalize hm1 : P.loop.length = m1 at *
  generalize hls : set.length = ls at *
  generalize hlt : s.length = lt at *
  generalize hlu : t.length = lu at *
  go_enter Try.func3, Try.ntmps3
  go_upto_region 1 with (fail)
  obtain ⟨hx, hz, hB⟩ : ((w.alloc (.cells #[.slice a0 n0 c0, .slice a1 n1 c1, .slice a2 n2 c2] 25)).alloc (.cells #[.slice p0 m0 q0, .slice p1 m1 q1] 28)).heap[w.heap.size]? = some (.cells #[.slice a0 n0 c0, .slice a1 n1 c1, .slice a2 n2 c2] 25 (0, 0)) ∧ ((w.alloc (.cells #[.slice a0 n0 c0, .slice a1 n1 c1, .slice a2 n2 c2] 25)).alloc (.cells #[.slice p0 m0 q0, .slice p1 m1 q1] 28)).heap[w.heap.size + 1]? = some (.cells #[.slice p0 m0 q0, .slice p1 m1 q1] 28 (0, 0)) ∧ Below w.heap.size w ((w.alloc (.cells #[.slice a0 n0 c0, .slice a1 n1 c1, .slice a2 n2 c2] 25)).alloc (.cells #[.slice p0 m0 q0, .slice p1 m1 q1] 28)) := ⟨(by (repeat (rw [alloc_get]; first | rw [if_pos (by first | (simp; done) | (simp; omega))] | rw [if_neg (by first | (simp; done) | (simp; omega))])); (try rfl)), (by (repeat (rw [alloc_get]; first | rw [if_pos (by first | (simp; done) | (simp; omega))] | rw [if_neg (by first | (simp; done) | (simp; omega))])); (try rfl)), (by repeat (first | exact Below.refl _ _ | assumption | (refine belA ?_ _) | (refine belD ?_ _)))⟩
  replace hg := hg.below hB
  replace hs := hs.below hB
  replace ht := ht.below hB
  replace hu := hu.below hB
  replace hp := hp.below hB
  clear hq0 hq1
  generalize (w.alloc (.cells #[.slice a0 n0 c0, .slice a1 n1 c1, .slice a2 n2 c2] 25)).alloc (.cells #[.slice p0 m0 q0, .slice p1 m1 q1] 28) = w1 at *
  have HE : Hid (∀ W, Below w1.heap.size w1 W → Calm (.bool true) w (.returned (.bool true)) W) := fun W h => ⟨rfl, hB.trans (h.mono hB.size)⟩
  clear hB
  generalize w.heap.size + 1 = zp at *
  generalize w.heap.size = zg at *
  go_wp2_with fail
  refine (head_c _).mono ?_
  rintro e w2 ⟨rfl, hb⟩
  replace hx := (hb.block _ (Array.getElem?_eq_some_iff.1 hx).1).trans hx
  replace hz := (hb.block _ (Array.getElem?_eq_some_iff.1 hz).1).trans hz
  replace hg := hg.below hb
  replace hs := hs.below hb
  replace ht := ht.below hb
  replace hu := hu.below hb
  replace hp := hp.below hb
  have k0 := cell_of_row _ _ 0 _ _ _ hx
  have k1 := cell_of_row _ _ 1 _ _ _ hx
  have k2 := cell_of_row _ _ 2 _ _ _ hx
  go_wp2_with fail
  refine (Small_c _ _ g 16 hg).mono ?_
  rintro e w3 ⟨rfl, hb3⟩
  replace hx := (hb3.block _ (Array.getElem?_eq_some_iff.1 hx).1).trans hx
  replace hz := (hb3.block _ (Array.getElem?_eq_some_iff.1 hz).1).trans hz
  replace hg := hg.below hb3
  replace hs := hs.below hb3
  replace ht := ht.below hb3
  replace hu := hu.below hb3
  replace hp := hp.below hb3
  replace hb := hb.trans (hb3.mono hb.size)
  clear k0 k1 k2 hb3
  have j0 := cell_of_row _ _ 0 _ _ _ hz
  have j1 := cell_of_row _ _ 1 _ _ _ hz
  cases hs1 : smallB g 16
  · go_wp2_with fail
    go_ret
    exact HE.out _ hb
  by_cases h0 : ls ≤ 20
  case neg =>
    have hgt : decide ((ls : Int) > 20) = true := decide_eq_true (by omega)
    go_wp2_with fail
    go_ret
    exact HE.out _ hb
  have hgt0 : decide ((ls : Int) > 20) = false := decide_eq_false (by omega)
  by_cases h1 : lt ≤ 20
  case neg =>
    have hgt : decide ((lt : Int) > 20) = true := decide_eq_true (by omega)
    go_wp2_with fail
    go_ret
    exact HE.out _ hb
  have hgt1 : decide ((lt : Int) > 20) = false := decide_eq_false (by omega)
  by_cases h2 : lu ≤ 20
  case neg =>
    have hgt : decide ((lu : Int) > 20) = true := decide_eq_true (by omega)
    go_wp2_with fail
    go_ret
    exact HE.out _ hb
  have hgt2 : decide ((lu : Int) > 20) = false := decide_eq_false (by omega)
  by_cases h3 : m0 ≤ 40
  case neg =>
    have hgt : decide ((m0 : Int) > 40) = true := decide_eq_true (by omega)
    go_wp2_with fail
    go_ret
    exact HE.out _ hb
  have hgt3 : decide ((m0 : Int) > 40) = false := decide_eq_false (by omega)
  by_cases h4 : m1 ≤ 40
  case neg =>
    have hgt : decide ((m1 : Int) > 40) = true := decide_eq_true (by omega)
    go_wp2_with fail
    go_ret
    exact HE.out _ hb
  have hgt4 : decide ((m1 : Int) > 40) = false := decide_eq_false (by omega)
  have HW : Hid (P.stem.length + P.loop.length ≤ 90000) := (by omega : P.stem.length + P.loop.length ≤ 90000)
  clear h0 h1 h2 h3 h4 hs1
  go_upto_region 4 with (fail)
  clear j0 j1 hgt0 hgt1 hgt2 hgt3 hgt4
  obtain ⟨R, hR⟩ : ∃ R, playR g s t x = R := ⟨_, rfl⟩
  have HRR := Lib.hid hR
  clear hR
  have k0 := cell_of_row _ _ 0 _ _ _ hx
  have k1 := cell_of_row _ _ 1 _ _ _ hx
  have k2 := cell_of_row _ _ 2 _ _ _ hx
  go_wp2_with fail
  refine (Play_c _ _ _ _ g s t x hg ht hu).mono ?_
  rintro e w4 ⟨vr, rfl, hr, hb3⟩
  rw [HRR.out] at hr
  obtain ⟨x0, y0, x1, y1, rfl, hX0, hX1⟩ := hr.shape
  clear hr
  replace hx := (hb3.block _ (Array.getElem?_eq_some_iff.1 hx).1).trans hx
  replace hz := (hb3.block _ (Array.getElem?_eq_some_iff.1 hz).1).trans hz
  replace hg := hg.below hb3
  replace hs := hs.below hb3
  replace ht := ht.below hb3
  replace hu := hu.below hb3
  replace hp := hp.below hb3
  replace hb := hb.trans (hb3.mono hb.size)
  clear hb3 k0 k1 k2
  go_upto_region 5 with (fail)
  obtain ⟨xx, hb3, -⟩ := box_new hb hb.size #[.slice x0 R.stem.length y0, .slice x1 R.loop.length y1] 28
  replace hx := (hb3.block _ (Array.getElem?_eq_some_iff.1 hx).1).trans hx
  replace hz := (hb3.block _ (Array.getElem?_eq_some_iff.1 hz).1).trans hz
  replace hg := hg.below hb3
  replace hs := hs.below hb3
  replace ht := ht.below hb3
  replace hu := hu.below hb3
  replace hp := hp.below hb3
  replace hX0 := hX0.below hb3
  replace hX1 := hX1.below hb3
  replace hb := hb.trans (hb3.mono hb.size)
  clear hb3
  generalize w4.alloc (.cells #[.slice x0 R.stem.length y0, .slice x1 R.loop.length y1] 28) = w5 at *
  generalize w4.heap.size = zx at *
  have k0 := cell_of_row _ _ 0 _ _ _ hx
  have k1 := cell_of_row _ _ 1 _ _ _ hx
  have k2 := cell_of_row _ _ 2 _ _ _ hx
  go_wp2_with fail
  refine (RPlay_c _ _ _ _ g s t x hg ht hu).mono ?_
  rintro e w6 ⟨vr, rfl, hr, hb3⟩
  rw [HRR.out] at hr
  obtain ⟨u0, v0, u1, v1, rfl, hY0, hY1⟩ := hr.shape
  clear hr
  replace hx := (hb3.block _ (Array.getElem?_eq_some_iff.1 hx).1).trans hx
  replace hz := (hb3.block _ (Array.getElem?_eq_some_iff.1 hz).1).trans hz
  replace xx := (hb3.block _ (Array.getElem?_eq_some_iff.1 xx).1).trans xx
  replace hg := hg.below hb3
  replace hs := hs.below hb3
  replace ht := ht.below hb3
  replace hu := hu.below hb3
  replace hp := hp.below hb3
  replace hX0 := hX0.below hb3
  replace hX1 := hX1.below hb3
  replace hb := hb.trans (hb3.mono hb.size)
  clear hb3 k0 k1 k2
  go_upto_region 6 with (fail)
  obtain ⟨xy, hb3, -⟩ := box_new hb hb.size #[.slice u0 R.stem.length v0, .slice u1 R.loop.length v1] 28
  replace hx := (hb3.block _ (Array.getElem?_eq_some_iff.1 hx).1).trans hx
  replace hz := (hb3.block _ (Array.getElem?_eq_some_iff.1 hz).1).trans hz
  replace xx := (hb3.block _ (Array.getElem?_eq_some_iff.1 xx).1).trans xx
  replace hg := hg.below hb3
  replace hs := hs.below hb3
  replace ht := ht.below hb3
  replace hu := hu.below hb3
  replace hp := hp.below hb3
  replace hX0 := hX0.below hb3
  replace hX1 := hX1.below hb3
  replace hY0 := hY0.below hb3
  replace hY1 := hY1.below hb3
  replace hb := hb.trans (hb3.mono hb.size)
  clear hb3
  generalize w6.alloc (.cells #[.slice u0 R.stem.length v0, .slice u1 R.loop.length v1] 28) = w7 at *
  generalize w6.heap.size = zy at *
  generalize hk0 : R.stem.length = k0 at *
  generalize hk1 : R.loop.length = k1 at *
  have HB1 : Hid (∀ W, Below w7.drew.heap.size w7.drew W → Below w7.heap.size w7 W) := fun W h => (Below.drew (B := w7.heap.size) (Below.refl _ _)).trans h
  have HG : Hid (∀ W, Below w7.drew.heap.size w7.drew W → W.cell? ⟨zg, 0, none⟩ = some (.slice a0 n0 c0) ∧ W.cell? ⟨zg, 1, none⟩ = some (.slice a1 n1 c1) ∧ W.cell? ⟨zg, 2, none⟩ = some (.slice a2 n2 c2)) := fun W h => by
    have k := ((HB1.out W h).block _ (Array.getElem?_eq_some_iff.1 hx).1).trans hx
    exact ⟨cell_of_row _ _ 0 _ _ _ k, cell_of_row _ _ 1 _ _ _ k, cell_of_row _ _ 2 _ _ _ k⟩
  have HP : Hid (∀ W, Below w7.drew.heap.size w7.drew W → W.cell? ⟨zp, 0, none⟩ = some (.slice p0 m0 q0) ∧ W.cell? ⟨zp, 1, none⟩ = some (.slice p1 m1 q1)) := fun W h => by
    have k := ((HB1.out W h).block _ (Array.getElem?_eq_some_iff.1 hz).1).trans hz
    exact ⟨cell_of_row _ _ 0 _ _ _ k, cell_of_row _ _ 1 _ _ _ k⟩
  have HX : Hid (∀ W, Below w7.drew.heap.size w7.drew W → W.cell? ⟨zx, 0, none⟩ = some (.slice x0 k0 y0) ∧ W.cell? ⟨zx, 1, none⟩ = some (.slice x1 k1 y1)) := fun W h => by
    have k := ((HB1.out W h).block _ (Array.getElem?_eq_some_iff.1 xx).1).trans xx
    exact ⟨cell_of_row _ _ 0 _ _ _ k, cell_of_row _ _ 1 _ _ _ k⟩
  have HY : Hid (∀ W, Below w7.drew.heap.size w7.drew W → W.cell? ⟨zy, 0, none⟩ = some (.slice u0 k0 v0) ∧ W.cell? ⟨zy, 1, none⟩ = some (.slice u1 k1 v1)) := fun W h => by
    have k := ((HB1.out W h).block _ (Array.getElem?_eq_some_iff.1 xy).1).trans xy
    exact ⟨cell_of_row _ _ 0 _ _ _ k, cell_of_row _ _ 1 _ _ _ k⟩
  obtain ⟨bv, hbv⟩ : ∃ b, b = stB g p set s := ⟨_, rfl⟩
  obtain ⟨bw, hbw⟩ : ∃ b, b = winB g p set s := ⟨_, rfl⟩
  obtain ⟨wr, hwr⟩ : ∃ b, b = winrB g P := ⟨_, rfl⟩
  obtain ⟨vs', hvs⟩ : ∃ v, v = Value.slice aS ls cS := ⟨_, rfl⟩
  obtain ⟨vt', hvt⟩ : ∃ v, v = Value.slice at' lt ct := ⟨_, rfl⟩
  rw [← hvs] at hs ⊢
  rw [← hvt] at ht ⊢
  clear hvs hvt
  have HV1 : Hid (∀ W, Below w7.heap.size w7 W → Calls Try.prog 13 #[.agg #[.slice a0 n0 c0, .slice a1 n1 c1, .slice a2 n2 c2], .int .i64 p, vs', vt'] W (Calm (.bool bv) W)) := fun W h => by
    rw [hbv]
    exact StValid_c W _ _ _ g p set s (hg.below h) (hs.below h) (ht.below h)
  have HV2 : Hid (∀ W, Below w7.heap.size w7 W → Calls Try.prog 14 #[.agg #[.slice a0 n0 c0, .slice a1 n1 c1, .slice a2 n2 c2], .int .i64 p, vs', vt'] W (Calm (.bool bv) W)) := fun W h => by
    rw [hbv]
    exact RStValid_c W _ _ _ g p set s (hg.below h) (hs.below h) (ht.below h)
  have HW1 : Hid (∀ W, Below w7.heap.size w7 W → Calls Try.prog 15 #[.agg #[.slice a0 n0 c0, .slice a1 n1 c1, .slice a2 n2 c2], .int .i64 p, vs', vt'] W (Calm (.bool bw) W)) := fun W h => by
    rw [hbw]
    exact Wins_c W _ _ _ g p set s (hg.below h) (hs.below h) (ht.below h)
  have HW2 : Hid (∀ W, Below w7.heap.size w7 W → Calls Try.prog 16 #[.agg #[.slice a0 n0 c0, .slice a1 n1 c1, .slice a2 n2 c2], .int .i64 p, vs', vt'] W (Calm (.bool bw) W)) := fun W h => by
    rw [hbw]
    exact RWins_c W _ _ _ g p set s (hg.below h) (hs.below h) (ht.below h)
  have HR1 : Hid (∀ W, Below w7.heap.size w7 W → Calls Try.prog 18 #[.agg #[.slice a0 n0 c0, .slice a1 n1 c1, .slice a2 n2 c2], .agg #[.slice p0 m0 q0, .slice p1 m1 q1]] W (Calm (.int .i64 wr) W)) := fun W h => by
    rw [hwr]
    exact Winner_c W _ _ g P (hg.below h) (hp.below h) HW.out
  have HR2 : Hid (∀ W, Below w7.heap.size w7 W → Calls Try.prog 19 #[.agg #[.slice a0 n0 c0, .slice a1 n1 c1, .slice a2 n2 c2], .agg #[.slice p0 m0 q0, .slice p1 m1 q1]] W (Calm (.int .i64 wr) W)) := fun W h => by
    rw [hwr]
    exact RWinner_c W _ _ g P (hg.below h) (hp.below h) HW.out
  have HI0 : Hid (∀ W, Below w7.heap.size w7 W → Calls Try.prog 17 #[.slice x0 k0 y0, .slice u0 k0 v0] W (Calm (.bool true) W)) := fun W h => by
    have k := Ints_c W _ _ _ _ (hX0.below h) (hY0.below h)
    rw [decide_eq_true rfl] at k
    exact k.mono fun e w' h => h.calm
  have HI1 : Hid (∀ W, Below w7.heap.size w7 W → Calls Try.prog 17 #[.slice x1 k1 y1, .slice u1 k1 v1] W (Calm (.bool true) W)) := fun W h => by
    have k := Ints_c W _ _ _ _ (hX1.below h) (hY1.below h)
    rw [decide_eq_true rfl] at k
    exact k.mono fun e w' h => h.calm
  have hee : (bv == bv) = true := by simp
  have hww : (bw == bw) = true := by simp
  have hwr2 : (wr == wr) = true := by simp
  clear hx hz xx xy hg hs ht hu hp hX0 hX1 hY0 hY1 hbv hbw hwr hk0 hk1 hn0 hn1 hn2 hm0 hm1 hls hlt hlu HRR HW
  have HBT := Lib.hid hb
  clear hb
  refine region_stable hmx (RM p wr bv bw vs' vt' a0 a1 a2 p0 p1 x0 x1 u0 u1 n0 n1 n2 c0 c1 c2 m0 m1 q0 q1 k0 k1 y0 y1 v0 v1 zx zy) (fun vs => { tmps := (_ :: _ :: _ :: _ :: _ :: _ :: _ :: _ :: _ :: _ :: _ :: _ :: _ :: _ :: vs 50 :: _ :: _ :: _ :: _ :: _ :: _ :: _ :: _ :: _ :: _ :: _ :: _ :: _ :: _ :: _ :: _ :: _ :: _ :: _ :: _ :: _ :: _ :: _ :: _ :: _ :: _ :: _ :: _ :: _ :: _ :: _ :: _ :: _ :: _ :: _ :: _ :: _ :: _ :: _ :: _ :: _ :: _ :: _ :: _ :: _ :: vs 0 :: vs 1 :: vs 2 :: vs 3 :: vs 4 :: vs 5 :: vs 6 :: vs 7 :: vs 8 :: vs 9 :: vs 10 :: vs 11 :: vs 12 :: vs 13 :: vs 14 :: vs 15 :: vs 16 :: vs 17 :: vs 18 :: vs 19 :: vs 20 :: vs 21 :: vs 22 :: vs 23 :: vs 24 :: vs 25 :: vs 26 :: vs 27 :: vs 28 :: vs 29 :: vs 30 :: vs 31 :: vs 32 :: vs 33 :: vs 34 :: vs 35 :: vs 36 :: vs 37 :: vs 38 :: vs 39 :: vs 40 :: vs 41 :: vs 42 :: vs 43 :: vs 44 :: vs 45 :: vs 46 :: vs 47 :: vs 48 :: vs 49 :: []).toArray, defers := _ }) (fun k => if k = 50 then .bool false else undef) rfl (by kernel_rfl) (fun _ _ _ _ h _ => h) ?step ?fin
  case step =>
    intro ix o ho
    match ix, ho with
    | 0, ho =>
      obtain rfl := Option.some.inj ho
      intro vs W K hB hD hK
      have HK := Lib.hid hK
      clear hK hD ho
      dsimp only
      go_simp
      have h := HK.out _ _ (Below.refl _ _) rfl
      simp only [upd, Nat.reduceEqDiff, reduceIte] at h
      exact h
    | 1, ho =>
      obtain rfl := Option.some.inj ho
      intro vs W K hB hD hK
      have HK := Lib.hid hK
      have e0 : vs 0 = .bool true := dep_of hD 0 (by rfl)
      clear hK hD ho
      dsimp only
      go_simp
      have h := HK.out _ _ (Below.refl _ _) rfl
      simp only [upd, Nat.reduceEqDiff, reduceIte, e0] at h
      exact h
    | 2, ho =>
      obtain rfl := Option.some.inj ho
      intro vs W K hB hD hK
      have HK := Lib.hid hK
      have e1 : vs 1 = .bool true := dep_of hD 1 (by rfl)
      obtain ⟨d0, d1, d2⟩ := HG.out W hB
      clear hK hD ho
      dsimp only
      go_simp
      have h := HK.out _ _ (Below.refl _ _) rfl
      simp only [upd, Nat.reduceEqDiff, reduceIte, e1] at h
      exact h
    | 3, ho =>
      obtain rfl := Option.some.inj ho
      intro vs W K hB hD hK
      have HK := Lib.hid hK
      have e1 : vs 1 = .bool true := dep_of hD 1 (by rfl)
      clear hK hD ho
      dsimp only
      go_simp
      have h := HK.out _ _ (Below.refl _ _) rfl
      simp only [upd, Nat.reduceEqDiff, reduceIte, e1] at h
      exact h
    | 4, ho =>
      obtain rfl := Option.some.inj ho
      intro vs W K hB hD hK
      have HK := Lib.hid hK
      have e1 : vs 1 = .bool true := dep_of hD 1 (by rfl)
      clear hK hD ho
      dsimp only
      go_simp
      have h := HK.out _ _ (Below.refl _ _) rfl
      simp only [upd, Nat.reduceEqDiff, reduceIte, e1] at h
      exact h
    | 5, ho =>
      obtain rfl := Option.some.inj ho
      intro vs W K hB hD hK
      have HK := Lib.hid hK
      have e1 : vs 1 = .bool true := dep_of hD 1 (by rfl)
      clear hK hD ho
      dsimp only
      go_simp
      have h := HK.out _ _ (Below.refl _ _) rfl
      simp only [upd, Nat.reduceEqDiff, reduceIte, e1] at h
      exact h
    | 6, ho =>
      obtain rfl := Option.some.inj ho
      intro vs W K hB hD hK
      have HK := Lib.hid hK
      have e1 : vs 1 = .bool true := dep_of hD 1 (by rfl)
      have e2 : vs 2 = .agg #[.slice a0 n0 c0, .slice a1 n1 c1, .slice a2 n2 c2] := dep_of hD 2 (by rfl)
      have e3 : vs 3 = .int .i64 p := dep_of hD 3 (by rfl)
      have e4 : vs 4 = vs' := dep_of hD 4 (by rfl)
      have e5 : vs 5 = vt' := dep_of hD 5 (by rfl)
      clear hK hD ho
      dsimp only
      go_simp
      refine (HV1.out W (HB1.out W hB)).mono ?_
      rintro e W' ⟨rfl, hb⟩
      have h := HK.out _ _ hb rfl
      simp only [upd, Nat.reduceEqDiff, reduceIte, e1, e2, e3, e4, e5] at h
      exact h
    | 7, ho =>
      obtain rfl := Option.some.inj ho
      intro vs W K hB hD hK
      have HK := Lib.hid hK
      have e1 : vs 1 = .bool true := dep_of hD 1 (by rfl)
      obtain ⟨d0, d1, d2⟩ := HG.out W hB
      clear hK hD ho
      dsimp only
      go_simp
      have h := HK.out _ _ (Below.refl _ _) rfl
      simp only [upd, Nat.reduceEqDiff, reduceIte, e1] at h
      exact h
    | 8, ho =>
      obtain rfl := Option.some.inj ho
      intro vs W K hB hD hK
      have HK := Lib.hid hK
      have e1 : vs 1 = .bool true := dep_of hD 1 (by rfl)
      clear hK hD ho
      dsimp only
      go_simp
      have h := HK.out _ _ (Below.refl _ _) rfl
      simp only [upd, Nat.reduceEqDiff, reduceIte, e1] at h
      exact h
    | 9, ho =>
      obtain rfl := Option.some.inj ho
      intro vs W K hB hD hK
      have HK := Lib.hid hK
      have e1 : vs 1 = .bool true := dep_of hD 1 (by rfl)
      clear hK hD ho
      dsimp only
      go_simp
      have h := HK.out _ _ (Below.refl _ _) rfl
      simp only [upd, Nat.reduceEqDiff, reduceIte, e1] at h
      exact h
    | 10, ho =>
      obtain rfl := Option.some.inj ho
      intro vs W K hB hD hK
      have HK := Lib.hid hK
      have e1 : vs 1 = .bool true := dep_of hD 1 (by rfl)
      clear hK hD ho
      dsimp only
      go_simp
      have h := HK.out _ _ (Below.refl _ _) rfl
      simp only [upd, Nat.reduceEqDiff, reduceIte, e1] at h
      exact h
    | 11, ho =>
      obtain rfl := Option.some.inj ho
      intro vs W K hB hD hK
      have HK := Lib.hid hK
      have e1 : vs 1 = .bool true := dep_of hD 1 (by rfl)
      have e7 : vs 7 = .agg #[.slice a0 n0 c0, .slice a1 n1 c1, .slice a2 n2 c2] := dep_of hD 7 (by rfl)
      have e8 : vs 8 = .int .i64 p := dep_of hD 8 (by rfl)
      have e9 : vs 9 = vs' := dep_of hD 9 (by rfl)
      have e10 : vs 10 = vt' := dep_of hD 10 (by rfl)
      clear hK hD ho
      dsimp only
      go_simp
      refine (HV2.out W (HB1.out W hB)).mono ?_
      rintro e W' ⟨rfl, hb⟩
      have h := HK.out _ _ hb rfl
      simp only [upd, Nat.reduceEqDiff, reduceIte, e1, e7, e8, e9, e10] at h
      exact h
    | 12, ho =>
      obtain rfl := Option.some.inj ho
      intro vs W K hB hD hK
      have HK := Lib.hid hK
      have e1 : vs 1 = .bool true := dep_of hD 1 (by rfl)
      have e6 : vs 6 = .bool bv := dep_of hD 6 (by rfl)
      have e11 : vs 11 = .bool bv := dep_of hD 11 (by rfl)
      clear hK hD ho
      dsimp only
      go_simp
      have h := HK.out _ _ (Below.refl _ _) rfl
      simp only [upd, Nat.reduceEqDiff, reduceIte, e1, e6, e11] at h
      exact h
    | 13, ho =>
      obtain rfl := Option.some.inj ho
      intro vs W K hB hD hK
      have HK := Lib.hid hK
      have e1 : vs 1 = .bool true := dep_of hD 1 (by rfl)
      have e12 : vs 12 = .bool true := dep_of hD 12 (by rfl)
      clear hK hD ho
      dsimp only
      go_simp
      have h := HK.out _ _ (Below.refl _ _) rfl
      simp only [upd, Nat.reduceEqDiff, reduceIte, e1, e12] at h
      exact h
    | 14, ho =>
      obtain rfl := Option.some.inj ho
      intro vs W K hB hD hK
      have HK := Lib.hid hK
      have e13 : vs 13 = .bool true := dep_of hD 13 (by rfl)
      clear hK hD ho
      dsimp only
      go_simp
      have h := HK.out _ _ (Below.refl _ _) rfl
      simp only [upd, Nat.reduceEqDiff, reduceIte, e13] at h
      exact h
    | 15, ho =>
      obtain rfl := Option.some.inj ho
      intro vs W K hB hD hK
      have HK := Lib.hid hK
      have e14 : vs 14 = .bool true := dep_of hD 14 (by rfl)
      obtain ⟨d0, d1, d2⟩ := HG.out W hB
      clear hK hD ho
      dsimp only
      go_simp
      have h := HK.out _ _ (Below.refl _ _) rfl
      simp only [upd, Nat.reduceEqDiff, reduceIte, e14] at h
      exact h
    | 16, ho =>
      obtain rfl := Option.some.inj ho
      intro vs W K hB hD hK
      have HK := Lib.hid hK
      have e14 : vs 14 = .bool true := dep_of hD 14 (by rfl)
      clear hK hD ho
      dsimp only
      go_simp
      have h := HK.out _ _ (Below.refl _ _) rfl
      simp only [upd, Nat.reduceEqDiff, reduceIte, e14] at h
      exact h
    | 17, ho =>
      obtain rfl := Option.some.inj ho
      intro vs W K hB hD hK
      have HK := Lib.hid hK
      have e14 : vs 14 = .bool true := dep_of hD 14 (by rfl)
      clear hK hD ho
      dsimp only
      go_simp
      have h := HK.out _ _ (Below.refl _ _) rfl
      simp only [upd, Nat.reduceEqDiff, reduceIte, e14] at h
      exact h
    | 18, ho =>
      obtain rfl := Option.some.inj ho
      intro vs W K hB hD hK
      have HK := Lib.hid hK
      have e14 : vs 14 = .bool true := dep_of hD 14 (by rfl)
      clear hK hD ho
      dsimp only
      go_simp
      have h := HK.out _ _ (Below.refl _ _) rfl
      simp only [upd, Nat.reduceEqDiff, reduceIte, e14] at h
      exact h
    | 19, ho =>
      obtain rfl := Option.some.inj ho
      intro vs W K hB hD hK
      have HK := Lib.hid hK
      have e14 : vs 14 = .bool true := dep_of hD 14 (by rfl)
      have e15 : vs 15 = .agg #[.slice a0 n0 c0, .slice a1 n1 c1, .slice a2 n2 c2] := dep_of hD 15 (by rfl)
      have e16 : vs 16 = .int .i64 p := dep_of hD 16 (by rfl)
      have e17 : vs 17 = vs' := dep_of hD 17 (by rfl)
      have e18 : vs 18 = vt' := dep_of hD 18 (by rfl)
      clear hK hD ho
      dsimp only
      go_simp
      refine (HW1.out W (HB1.out W hB)).mono ?_
      rintro e W' ⟨rfl, hb⟩
      have h := HK.out _ _ hb rfl
      simp only [upd, Nat.reduceEqDiff, reduceIte, e14, e15, e16, e17, e18] at h
      exact h
    | 20, ho =>
      obtain rfl := Option.some.inj ho
      intro vs W K hB hD hK
      have HK := Lib.hid hK
      have e14 : vs 14 = .bool true := dep_of hD 14 (by rfl)
      obtain ⟨d0, d1, d2⟩ := HG.out W hB
      clear hK hD ho
      dsimp only
      go_simp
      have h := HK.out _ _ (Below.refl _ _) rfl
      simp only [upd, Nat.reduceEqDiff, reduceIte, e14] at h
      exact h
    | 21, ho =>
      obtain rfl := Option.some.inj ho
      intro vs W K hB hD hK
      have HK := Lib.hid hK
      have e14 : vs 14 = .bool true := dep_of hD 14 (by rfl)
      clear hK hD ho
      dsimp only
      go_simp
      have h := HK.out _ _ (Below.refl _ _) rfl
      simp only [upd, Nat.reduceEqDiff, reduceIte, e14] at h
      exact h
    | 22, ho =>
      obtain rfl := Option.some.inj ho
      intro vs W K hB hD hK
      have HK := Lib.hid hK
      have e14 : vs 14 = .bool true := dep_of hD 14 (by rfl)
      clear hK hD ho
      dsimp only
      go_simp
      have h := HK.out _ _ (Below.refl _ _) rfl
      simp only [upd, Nat.reduceEqDiff, reduceIte, e14] at h
      exact h
    | 23, ho =>
      obtain rfl := Option.some.inj ho
      intro vs W K hB hD hK
      have HK := Lib.hid hK
      have e14 : vs 14 = .bool true := dep_of hD 14 (by rfl)
      clear hK hD ho
      dsimp only
      go_simp
      have h := HK.out _ _ (Below.refl _ _) rfl
      simp only [upd, Nat.reduceEqDiff, reduceIte, e14] at h
      exact h
    | 24, ho =>
      obtain rfl := Option.some.inj ho
      intro vs W K hB hD hK
      have HK := Lib.hid hK
      have e14 : vs 14 = .bool true := dep_of hD 14 (by rfl)
      have e20 : vs 20 = .agg #[.slice a0 n0 c0, .slice a1 n1 c1, .slice a2 n2 c2] := dep_of hD 20 (by rfl)
      have e21 : vs 21 = .int .i64 p := dep_of hD 21 (by rfl)
      have e22 : vs 22 = vs' := dep_of hD 22 (by rfl)
      have e23 : vs 23 = vt' := dep_of hD 23 (by rfl)
      clear hK hD ho
      dsimp only
      go_simp
      refine (HW2.out W (HB1.out W hB)).mono ?_
      rintro e W' ⟨rfl, hb⟩
      have h := HK.out _ _ hb rfl
      simp only [upd, Nat.reduceEqDiff, reduceIte, e14, e20, e21, e22, e23] at h
      exact h
    | 25, ho =>
      obtain rfl := Option.some.inj ho
      intro vs W K hB hD hK
      have HK := Lib.hid hK
      have e14 : vs 14 = .bool true := dep_of hD 14 (by rfl)
      have e19 : vs 19 = .bool bw := dep_of hD 19 (by rfl)
      have e24 : vs 24 = .bool bw := dep_of hD 24 (by rfl)
      clear hK hD ho
      dsimp only
      go_simp
      have h := HK.out _ _ (Below.refl _ _) rfl
      simp only [upd, Nat.reduceEqDiff, reduceIte, e14, e19, e24] at h
      exact h
    | 26, ho =>
      obtain rfl := Option.some.inj ho
      intro vs W K hB hD hK
      have HK := Lib.hid hK
      have e14 : vs 14 = .bool true := dep_of hD 14 (by rfl)
      have e25 : vs 25 = .bool true := dep_of hD 25 (by rfl)
      clear hK hD ho
      dsimp only
      go_simp
      have h := HK.out _ _ (Below.refl _ _) rfl
      simp only [upd, Nat.reduceEqDiff, reduceIte, e14, e25] at h
      exact h
    | 27, ho =>
      obtain rfl := Option.some.inj ho
      intro vs W K hB hD hK
      have HK := Lib.hid hK
      have e26 : vs 26 = .bool true := dep_of hD 26 (by rfl)
      clear hK hD ho
      dsimp only
      go_simp
      have h := HK.out _ _ (Below.refl _ _) rfl
      simp only [upd, Nat.reduceEqDiff, reduceIte, e26] at h
      exact h
    | 28, ho =>
      obtain rfl := Option.some.inj ho
      intro vs W K hB hD hK
      have HK := Lib.hid hK
      have e27 : vs 27 = .bool true := dep_of hD 27 (by rfl)
      clear hK hD ho
      dsimp only
      go_simp
      have h := HK.out _ _ (Below.refl _ _) rfl
      simp only [upd, Nat.reduceEqDiff, reduceIte, e27] at h
      exact h
    | 29, ho =>
      obtain rfl := Option.some.inj ho
      intro vs W K hB hD hK
      have HK := Lib.hid hK
      have e27 : vs 27 = .bool true := dep_of hD 27 (by rfl)
      have e28 : vs 28 = .pointer (some ⟨zx, 0, none⟩) := dep_of hD 28 (by rfl)
      obtain ⟨d0, d1⟩ := HX.out W hB
      clear hK hD ho
      dsimp only
      go_simp
      have h := HK.out _ _ (Below.refl _ _) rfl
      simp only [upd, Nat.reduceEqDiff, reduceIte, e27, e28] at h
      exact h
    | 30, ho =>
      obtain rfl := Option.some.inj ho
      intro vs W K hB hD hK
      have HK := Lib.hid hK
      have e27 : vs 27 = .bool true := dep_of hD 27 (by rfl)
      clear hK hD ho
      dsimp only
      go_simp
      have h := HK.out _ _ (Below.refl _ _) rfl
      simp only [upd, Nat.reduceEqDiff, reduceIte, e27] at h
      exact h
    | 31, ho =>
      obtain rfl := Option.some.inj ho
      intro vs W K hB hD hK
      have HK := Lib.hid hK
      have e27 : vs 27 = .bool true := dep_of hD 27 (by rfl)
      have e30 : vs 30 = .pointer (some ⟨zy, 0, none⟩) := dep_of hD 30 (by rfl)
      obtain ⟨d0, d1⟩ := HY.out W hB
      clear hK hD ho
      dsimp only
      go_simp
      have h := HK.out _ _ (Below.refl _ _) rfl
      simp only [upd, Nat.reduceEqDiff, reduceIte, e27, e30] at h
      exact h
    | 32, ho =>
      obtain rfl := Option.some.inj ho
      intro vs W K hB hD hK
      have HK := Lib.hid hK
      have e27 : vs 27 = .bool true := dep_of hD 27 (by rfl)
      have e29 : vs 29 = .slice x0 k0 y0 := dep_of hD 29 (by rfl)
      have e31 : vs 31 = .slice u0 k0 v0 := dep_of hD 31 (by rfl)
      clear hK hD ho
      dsimp only
      go_simp
      refine (HI0.out W (HB1.out W hB)).mono ?_
      rintro e W' ⟨rfl, hb⟩
      have h := HK.out _ _ hb rfl
      simp only [upd, Nat.reduceEqDiff, reduceIte, e27, e29, e31] at h
      exact h
    | 33, ho =>
      obtain rfl := Option.some.inj ho
      intro vs W K hB hD hK
      have HK := Lib.hid hK
      have e27 : vs 27 = .bool true := dep_of hD 27 (by rfl)
      have e32 : vs 32 = .bool true := dep_of hD 32 (by rfl)
      clear hK hD ho
      dsimp only
      go_simp
      have h := HK.out _ _ (Below.refl _ _) rfl
      simp only [upd, Nat.reduceEqDiff, reduceIte, e27, e32] at h
      exact h
    | 34, ho =>
      obtain rfl := Option.some.inj ho
      intro vs W K hB hD hK
      have HK := Lib.hid hK
      have e33 : vs 33 = .bool true := dep_of hD 33 (by rfl)
      clear hK hD ho
      dsimp only
      go_simp
      have h := HK.out _ _ (Below.refl _ _) rfl
      simp only [upd, Nat.reduceEqDiff, reduceIte, e33] at h
      exact h
    | 35, ho =>
      obtain rfl := Option.some.inj ho
      intro vs W K hB hD hK
      have HK := Lib.hid hK
      have e34 : vs 34 = .bool true := dep_of hD 34 (by rfl)
      clear hK hD ho
      dsimp only
      go_simp
      have h := HK.out _ _ (Below.refl _ _) rfl
      simp only [upd, Nat.reduceEqDiff, reduceIte, e34] at h
      exact h
    | 36, ho =>
      obtain rfl := Option.some.inj ho
      intro vs W K hB hD hK
      have HK := Lib.hid hK
      have e34 : vs 34 = .bool true := dep_of hD 34 (by rfl)
      have e35 : vs 35 = .pointer (some ⟨zx, 1, none⟩) := dep_of hD 35 (by rfl)
      obtain ⟨d0, d1⟩ := HX.out W hB
      clear hK hD ho
      dsimp only
      go_simp
      have h := HK.out _ _ (Below.refl _ _) rfl
      simp only [upd, Nat.reduceEqDiff, reduceIte, e34, e35] at h
      exact h
    | 37, ho =>
      obtain rfl := Option.some.inj ho
      intro vs W K hB hD hK
      have HK := Lib.hid hK
      have e34 : vs 34 = .bool true := dep_of hD 34 (by rfl)
      clear hK hD ho
      dsimp only
      go_simp
      have h := HK.out _ _ (Below.refl _ _) rfl
      simp only [upd, Nat.reduceEqDiff, reduceIte, e34] at h
      exact h
    | 38, ho =>
      obtain rfl := Option.some.inj ho
      intro vs W K hB hD hK
      have HK := Lib.hid hK
      have e34 : vs 34 = .bool true := dep_of hD 34 (by rfl)
      have e37 : vs 37 = .pointer (some ⟨zy, 1, none⟩) := dep_of hD 37 (by rfl)
      obtain ⟨d0, d1⟩ := HY.out W hB
      clear hK hD ho
      dsimp only
      go_simp
      have h := HK.out _ _ (Below.refl _ _) rfl
      simp only [upd, Nat.reduceEqDiff, reduceIte, e34, e37] at h
      exact h
    | 39, ho =>
      obtain rfl := Option.some.inj ho
      intro vs W K hB hD hK
      have HK := Lib.hid hK
      have e34 : vs 34 = .bool true := dep_of hD 34 (by rfl)
      have e36 : vs 36 = .slice x1 k1 y1 := dep_of hD 36 (by rfl)
      have e38 : vs 38 = .slice u1 k1 v1 := dep_of hD 38 (by rfl)
      clear hK hD ho
      dsimp only
      go_simp
      refine (HI1.out W (HB1.out W hB)).mono ?_
      rintro e W' ⟨rfl, hb⟩
      have h := HK.out _ _ hb rfl
      simp only [upd, Nat.reduceEqDiff, reduceIte, e34, e36, e38] at h
      exact h
    | 40, ho =>
      obtain rfl := Option.some.inj ho
      intro vs W K hB hD hK
      have HK := Lib.hid hK
      have e34 : vs 34 = .bool true := dep_of hD 34 (by rfl)
      have e39 : vs 39 = .bool true := dep_of hD 39 (by rfl)
      clear hK hD ho
      dsimp only
      go_simp
      have h := HK.out _ _ (Below.refl _ _) rfl
      simp only [upd, Nat.reduceEqDiff, reduceIte, e34, e39] at h
      exact h
    | 41, ho =>
      obtain rfl := Option.some.inj ho
      intro vs W K hB hD hK
      have HK := Lib.hid hK
      have e40 : vs 40 = .bool true := dep_of hD 40 (by rfl)
      clear hK hD ho
      dsimp only
      go_simp
      have h := HK.out _ _ (Below.refl _ _) rfl
      simp only [upd, Nat.reduceEqDiff, reduceIte, e40] at h
      exact h
    | 42, ho =>
      obtain rfl := Option.some.inj ho
      intro vs W K hB hD hK
      have HK := Lib.hid hK
      have e41 : vs 41 = .bool true := dep_of hD 41 (by rfl)
      obtain ⟨d0, d1, d2⟩ := HG.out W hB
      clear hK hD ho
      dsimp only
      go_simp
      have h := HK.out _ _ (Below.refl _ _) rfl
      simp only [upd, Nat.reduceEqDiff, reduceIte, e41] at h
      exact h
    | 43, ho =>
      obtain rfl := Option.some.inj ho
      intro vs W K hB hD hK
      have HK := Lib.hid hK
      have e41 : vs 41 = .bool true := dep_of hD 41 (by rfl)
      obtain ⟨d0, d1⟩ := HP.out W hB
      clear hK hD ho
      dsimp only
      go_simp
      have h := HK.out _ _ (Below.refl _ _) rfl
      simp only [upd, Nat.reduceEqDiff, reduceIte, e41] at h
      exact h
    | 44, ho =>
      obtain rfl := Option.some.inj ho
      intro vs W K hB hD hK
      have HK := Lib.hid hK
      have e41 : vs 41 = .bool true := dep_of hD 41 (by rfl)
      have e42 : vs 42 = .agg #[.slice a0 n0 c0, .slice a1 n1 c1, .slice a2 n2 c2] := dep_of hD 42 (by rfl)
      have e43 : vs 43 = .agg #[.slice p0 m0 q0, .slice p1 m1 q1] := dep_of hD 43 (by rfl)
      clear hK hD ho
      dsimp only
      go_simp
      refine (HR1.out W (HB1.out W hB)).mono ?_
      rintro e W' ⟨rfl, hb⟩
      have h := HK.out _ _ hb rfl
      simp only [upd, Nat.reduceEqDiff, reduceIte, e41, e42, e43] at h
      exact h
    | 45, ho =>
      obtain rfl := Option.some.inj ho
      intro vs W K hB hD hK
      have HK := Lib.hid hK
      have e41 : vs 41 = .bool true := dep_of hD 41 (by rfl)
      obtain ⟨d0, d1, d2⟩ := HG.out W hB
      clear hK hD ho
      dsimp only
      go_simp
      have h := HK.out _ _ (Below.refl _ _) rfl
      simp only [upd, Nat.reduceEqDiff, reduceIte, e41] at h
      exact h
    | 46, ho =>
      obtain rfl := Option.some.inj ho
      intro vs W K hB hD hK
      have HK := Lib.hid hK
      have e41 : vs 41 = .bool true := dep_of hD 41 (by rfl)
      obtain ⟨d0, d1⟩ := HP.out W hB
      clear hK hD ho
      dsimp only
      go_simp
      have h := HK.out _ _ (Below.refl _ _) rfl
      simp only [upd, Nat.reduceEqDiff, reduceIte, e41] at h
      exact h
    | 47, ho =>
      obtain rfl := Option.some.inj ho
      intro vs W K hB hD hK
      have HK := Lib.hid hK
      have e41 : vs 41 = .bool true := dep_of hD 41 (by rfl)
      have e45 : vs 45 = .agg #[.slice a0 n0 c0, .slice a1 n1 c1, .slice a2 n2 c2] := dep_of hD 45 (by rfl)
      have e46 : vs 46 = .agg #[.slice p0 m0 q0, .slice p1 m1 q1] := dep_of hD 46 (by rfl)
      clear hK hD ho
      dsimp only
      go_simp
      refine (HR2.out W (HB1.out W hB)).mono ?_
      rintro e W' ⟨rfl, hb⟩
      have h := HK.out _ _ hb rfl
      simp only [upd, Nat.reduceEqDiff, reduceIte, e41, e45, e46] at h
      exact h
    | 48, ho =>
      obtain rfl := Option.some.inj ho
      intro vs W K hB hD hK
      have HK := Lib.hid hK
      have e41 : vs 41 = .bool true := dep_of hD 41 (by rfl)
      have e44 : vs 44 = .int .i64 wr := dep_of hD 44 (by rfl)
      have e47 : vs 47 = .int .i64 wr := dep_of hD 47 (by rfl)
      clear hK hD ho
      dsimp only
      go_simp
      have h := HK.out _ _ (Below.refl _ _) rfl
      simp only [upd, Nat.reduceEqDiff, reduceIte, e41, e44, e47] at h
      exact h
    | 49, ho =>
      obtain rfl := Option.some.inj ho
      intro vs W K hB hD hK
      have HK := Lib.hid hK
      have e41 : vs 41 = .bool true := dep_of hD 41 (by rfl)
      have e48 : vs 48 = .bool true := dep_of hD 48 (by rfl)
      clear hK hD ho
      dsimp only
      go_simp
      have h := HK.out _ _ (Below.refl _ _) rfl
      simp only [upd, Nat.reduceEqDiff, reduceIte, e41, e48] at h
      exact h
    | 50, ho =>
      obtain rfl := Option.some.inj ho
      intro vs W K hB hD hK
      have HK := Lib.hid hK
      have e49 : vs 49 = .bool true := dep_of hD 49 (by rfl)
      clear hK hD ho
      dsimp only
      go_simp
      have h := HK.out _ _ (Below.refl _ _) rfl
      simp only [upd, Nat.reduceEqDiff, reduceIte, e49] at h
      exact h
    | q + 51, ho => exact absurd ho (by simp)
  case fin =>
    intro vs W hB hall
    have e50 : vs 50 = .bool true := hall 50 (by decide)
    have hB5 := HBT.out.trans ((HB1.out W hB).mono HBT.out.size)
    clear hall hB
    rw [e50]
    clear e50
    go_wp2
    go_ret
    exact HE.out _ hB5

end Go.Proofs.Ytkbiopjinegckaa
