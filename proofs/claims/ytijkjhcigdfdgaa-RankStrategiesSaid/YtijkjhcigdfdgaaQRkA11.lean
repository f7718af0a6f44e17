/- The search of bad finds nothing where there is nothing. -/
import Derived.Test.YtijkjhcigdfdgaaQRkA9
namespace Go.Proofs.Ytijkjhcigdfdgaa
open Go.RowKit

theorem OI.some' {w : World} {B : Nat} {v : Value} {l : List Int} (h : OI w B v l) (hl : 0 < l.length) : ∃ g c, v = .slice (some ⟨g, 0, none⟩) l.length c := by
  rcases h.2 with ⟨hv, h0⟩ | ⟨g, cap, cur, hv, hb, hg, _⟩
  · omega
  · exact ⟨_, cap, hv⟩
def NewIR (B6 B : Nat) (R : List Int) (w : World) (e : Ending) (w' : World) : Prop := ∃ v, e = .returned v ∧ IsInts w' v R ∧ Below w.heap.size w w' ∧ (0 < R.length → ∀ k, v.ownBlock = some k → k < B ∨ B6 ≤ k)
def RowN (B6 B : Nat) (R : List Int) (W : World) (u : Value) : Prop := IsInts W u R ∧ (0 < R.length → ∀ k, u.ownBlock = some k → k < B ∨ B6 ≤ k)
theorem RowN.below {B6 B : Nat} {R : List Int} {W W' : World} {u : Value} (h : RowN B6 B R W u) (hb : Below W.heap.size W W') : RowN B6 B R W' u := ⟨h.1.below hb, h.2⟩
def RBa (a0 a1 a2 aS : Option Addr) (n c0 c1 c2 cS gl ll cl k u B0 B6 _B _z : Nat) (p : Int) (R : List Int) (ix : Nat) (u' : Value) (W : World) : Prop :=
  match ix with
  | 0 => u' = .agg #[.slice a0 n c0, .slice a1 n c1, .slice a2 n c2]
  | 1 => u' = .int .i64 p
  | 2 => u' = .slice aS n cS
  | 3 => u' = .slice (some ⟨gl, 0, none⟩) ll cl
  | 4 => u' = .int .i64 (k : Int)
  | 5 => u' = .pointer (some ⟨gl, k, none⟩)
  | 6 => u' = .int .i64 (u : Int)
  | 7 => RowN B6 B0 R W u'
  | 8 => RowN B6 B0 R W u'
  | _ => True
theorem RBa.below {ix : Nat} {u' : Value} {W W' : World} {a0 a1 a2 aS : Option Addr} {n c0 c1 c2 cS gl ll cl k u B0 B6 B z : Nat} {p : Int} {R : List Int} (h : RBa a0 a1 a2 aS n c0 c1 c2 cS gl ll cl k u B0 B6 B z p R ix u' W) (hb : Below W.heap.size W W') : RBa a0 a1 a2 aS n c0 c1 c2 cS gl ll cl k u B0 B6 B z p R ix u' W' := by
  unfold RBa at *
  split at h <;> first | exact h | trivial | exact RowN.below h hb

set_option maxRecDepth 100000 in
set_option maxHeartbeats 2500000 in
theorem bad_c (w : World) (vg vs vt : Value) (g : Gm) (p : Int) (s : List Int) (set : List Bool) (v : Nat) (Q : Nat → Prop)
    (hg : IsGame w vg g) (hs : IsInts w vs s) (ht : IsBools w vt set) (hl0 : g.owner.length ≤ 3000) (hl1 : g.prio.length = g.owner.length) (hl2 : g.succ.length = g.owner.length) (hl : s.length = g.owner.length) (hls : set.length = g.owner.length) (hv : v < g.owner.length)
    (hr : ∀ u, u < g.owner.length → Q u → g.owner.getD u 0 = p → 0 ≤ s.getD u 0 ∧ s.getD u 0 < g.owner.length) (hq : Q v)
    (hst : ∀ u, u < g.owner.length → Q u → ∀ x ∈ mvL g p s u, ∃ y : Nat, x = (y : Int) ∧ y < g.owner.length ∧ y ≠ v ∧ (set.getD y false = true → g.prio.getD v 0 ≤ g.prio.getD y 0 → Q y)) :
    Calls Try.prog 27 #[vg, .int .i64 p, vs, vt, .int .i64 (v : Int)] w (Calm (.bool false) w) := by
  have hmx : Try.prog.follows .mixedOrders = true := by kernel_rfl
  have HMV0 : Hid (∀ W u, Below w.heap.size w W → u < g.owner.length → Q u → Calls Try.prog 26 #[vg, .int .i64 p, vs, .int .i64 (u : Int)] W (NewIB w.heap.size (mvL g p s u) W)) := fun W u h hu hqu => moves_c w W vg vs g p s u h hg hs hl0 hl hl2 hu (hr u hu hqu)
  have HST := Lib.hid hst
  clear hst hr
  obtain ⟨a0, c0, a1, c1, a2, c2, rfl⟩ := hg.shape
  obtain ⟨aS, cS, rfl⟩ := hs.shape
  obtain ⟨aT, cT, bT, oT, rfl, gT⟩ := ht
  obtain ⟨-, i1, -⟩ := hg.three
  obtain ⟨b1, o1, d1, n1, f1⟩ := i1.data
  have fT := gT.el
  have dT := gT.ad
  rw [hl1, hl2] at *
  rw [hl, hls] at *
  generalize hnx : g.owner.length = n at *
  have HD1 : Hid (a1 = some ⟨b1, o1, none⟩) := d1 (by omega)
  obtain rfl := dT (by omega)
  have HF1 := Lib.hid f1
  have HFT := Lib.hid fT
  clear f1 fT gT d1 i1 hg hs n1 hnx
  go_enter Try.func27, Try.ntmps27
  go_upto_region 1 with (fail)
  obtain ⟨hx, hb, hB⟩ := box_new (w0 := w) (Below.refl _ _) (Nat.le_refl _) #[.slice a0 n c0, .slice a1 n c1, .slice a2 n c2] 25
  generalize w.alloc (.cells #[.slice a0 n c0, .slice a1 n c1, .slice a2 n c2] 25) = w1 at *
  have HBW := Lib.hid hB
  clear hb hB
  go_upto_region 2 with (at_make; refine mk_bool rfl _ _ _ Try.underlying39 rfl w1.heap.size (n : Int) n rfl rfl rfl (by omega) (Nat.le_refl _) ?_; intro wm hown hgr)
  obtain ⟨B, hBe⟩ : ∃ B, B = w1.heap.size := ⟨_, rfl⟩
  rw [← hBe] at hown ⊢
  have hbm : Below B w1 wm := (Below.refl _ _).grown hgr (by omega) (fun k hk => by cases hk)
  have hBm : B < wm.heap.size := hown.lt' B rfl
  have hBD : BD n Q B B w1 (wm.alloc (.cells #[.int .i64 (v : Int)] 3)) (.slice (some ⟨wm.heap.size, 0, none⟩) 1 1) (List.replicate n false) [(v : Int)] := by
    refine ⟨hown.below (bel_box _), OI_one (heap_alloc_new _ _) (by omega), fun e => ?_, hbm.trans ((bel_box _).mono (by omega)), by simp; omega, by simp, by simp [List.count_replicate], fun x hx => ?_⟩
    · have : wm.heap.size = B := by simpa [Value.ownBlock] using e
      omega
    · obtain rfl : x = (v : Int) := by simpa using hx
      exact ⟨v, rfl, hv, hq⟩
  have HBE := Lib.hid hBe
  clear hBe hown hgr hbm
  have hv0 : (0 : Int) ≤ (v : Int) := by omega
  have hv1 : (v : Int) < (n : Int) := by omega
  have HXX := Lib.hid hx
  clear hx
  go_wp2_with fail
  go_loopg [12, 13] (n + 1) (fun gh ul i wr => ∃ (k : Nat) (S : List Bool) (L : List Int), gh = n + 1 - k ∧ i = .int .i64 (k : Int) ∧ k ≤ L.length ∧ Hid (BD n Q B B w1 wr ul S L))
  case atStart => exact ⟨0, _, _, rfl, rfl, by omega, hBD⟩
  case round =>
    obtain ⟨k, S, L, hgk, rfl, hk, HD⟩ := hrel
    have HGK := Lib.hid hgk
    have HBZ : Hid (Below w.heap.size w wr) := by
      have h1 := HD.out.bl
      have h2 := HBW.out
      show Below _ _ _
      exact h2.trans (h1.mono (by have := h2.size; have := HBE.out; omega))
    have hLn := HD.out.most
    clear hgk hBD hBm
    by_cases hlt : k < L.length
    · obtain ⟨gl, cl, rfl⟩ := HD.out.lo.some' (by omega)
      have hkI : (k : Int) < (L.length : Int) := by omega
      have hk0 : (0 : Int) ≤ (k : Int) := by omega
      have cL := HD.out.lo.at' rfl k hlt
      obtain ⟨u, hu, hun, hqu⟩ := HD.out.al L[k] (List.getElem_mem hlt)
      rw [hu] at cL
      have HCl : Hid (∀ W, Below wr.drew.heap.size wr.drew W → W.cell? ⟨gl, k, none⟩ = some (.int .i64 (u : Int))) := fun W h => cellB ((Below.drew (B := wr.heap.size) (Below.refl _ _)).trans h) cL
      have HBD : Hid (∀ W, Below wr.drew.heap.size wr.drew W → Below wr.heap.size wr W) := fun W h => (Below.drew (B := wr.heap.size) (Below.refl _ _)).trans h
      have HG : Hid (∀ W, Below wr.drew.heap.size wr.drew W → W.cell? ⟨w.heap.size, 0, none⟩ = some (.slice a0 n c0) ∧ W.cell? ⟨w.heap.size, 1, none⟩ = some (.slice a1 n c1) ∧ W.cell? ⟨w.heap.size, 2, none⟩ = some (.slice a2 n c2)) := fun W h => by
        have h1 := HD.out.bl.trans ((HBD.out W h).mono HD.out.sz)
        rw [HBE.out] at h1
        have q := (h1.block _ (Array.getElem?_eq_some_iff.1 HXX.out).1).trans HXX.out
        exact ⟨cell_of_row _ _ 0 _ _ _ q, cell_of_row _ _ 1 _ _ _ q, cell_of_row _ _ 2 _ _ _ q⟩
      obtain ⟨R, hR⟩ : ∃ R, R = mvL g p s u := ⟨_, rfl⟩
      have HMV : Hid (∀ W, Below wr.drew.heap.size wr.drew W → Calls Try.prog 26 #[.agg #[.slice a0 n c0, .slice a1 n c1, .slice a2 n c2], .int .i64 p, .slice aS n cS, .int .i64 (u : Int)] W (NewIR wr.heap.size w.heap.size R W)) := fun W h => by
        rw [hR]
        refine (HMV0.out W u (HBZ.out.trans ((HBD.out W h).mono HBZ.out.size)) hun hqu).mono ?_
        rintro e W' ⟨x, rfl, h1, h2, h3⟩
        exact ⟨x, rfl, h1, h2, fun hp k hk => (h3 hp k hk).imp id fun h4 => Nat.le_trans (HBD.out W h).size h4⟩
      have HSR : Hid (∀ x ∈ R, ∃ y : Nat, x = (y : Int) ∧ y < n ∧ y ≠ v ∧ (set.getD y false = true → g.prio.getD v 0 ≤ g.prio.getD y 0 → Q y)) := by rw [hR]; exact HST.out u hun hqu
      clear hu hqu cL hR
      go_upto_region 6 with (fail)
      refine region_stable hmx (RBa a0 a1 a2 aS n c0 c1 c2 cS gl L.length cl k u w.heap.size wr.heap.size B w.heap.size p R) (fun vs => { tmps := (_ :: _ :: _ :: _ :: _ :: _ :: _ :: _ :: _ :: _ :: _ :: _ :: _ :: _ :: vs 8 :: _ :: _ :: _ :: _ :: _ :: _ :: _ :: _ :: _ :: _ :: _ :: _ :: _ :: vs 0 :: vs 1 :: vs 2 :: vs 3 :: vs 4 :: vs 5 :: vs 6 :: vs 7 :: _ :: _ :: _ :: _ :: _ :: _ :: _ :: _ :: _ :: _ :: _ :: _ :: _ :: _ :: _ :: _ :: _ :: _ :: _ :: _ :: _ :: _ :: _ :: _ :: _ :: _ :: _ :: _ :: _ :: _ :: _ :: _ :: _ :: _ :: _ :: _ :: _ :: _ :: _ :: _ :: _ :: _ :: _ :: _ :: []).toArray, defers := _ }) (fun n => [u28, u29, u30, u31, u32, u33, u34, u35, u14].getD n undef) rfl (by kernel_rfl) (fun _ _ _ _ h hb => h.below hb) ?step ?fin
      case step =>
        intro ix o ho
        match ix, ho with
        | 0, ho =>
          obtain rfl := Option.some.inj ho
          intro vs W K hB hD hK
          have HK := Lib.hid hK
          obtain ⟨d0, d1, d2⟩ := HG.out W hB
          clear hK hD ho
          dsimp only
          go_simp
          have h := HK.out _ _ (Below.refl _ _) rfl
          simp only [upd, Nat.reduceEqDiff, reduceIte] at h
          exact h
        | 1, ho =>
          obtain rfl := Option.some.inj ho
          intro vs W K hB hD hK
          have HK := Lib.hid hK
          clear hK hD ho
          dsimp only
          go_simp
          have h := HK.out _ _ (Below.refl _ _) rfl
          simp only [upd, Nat.reduceEqDiff, reduceIte] at h
          exact h
        | 2, ho =>
          obtain rfl := Option.some.inj ho
          intro vs W K hB hD hK
          have HK := Lib.hid hK
          clear hK hD ho
          dsimp only
          go_simp
          have h := HK.out _ _ (Below.refl _ _) rfl
          simp only [upd, Nat.reduceEqDiff, reduceIte] at h
          exact h
        | 3, ho =>
          obtain rfl := Option.some.inj ho
          intro vs W K hB hD hK
          have HK := Lib.hid hK
          clear hK hD ho
          dsimp only
          go_simp
          have h := HK.out _ _ (Below.refl _ _) rfl
          simp only [upd, Nat.reduceEqDiff, reduceIte] at h
          exact h
        | 4, ho =>
          obtain rfl := Option.some.inj ho
          intro vs W K hB hD hK
          have HK := Lib.hid hK
          clear hK hD ho
          dsimp only
          go_simp
          have h := HK.out _ _ (Below.refl _ _) rfl
          simp only [upd, Nat.reduceEqDiff, reduceIte] at h
          exact h
        | 5, ho =>
          obtain rfl := Option.some.inj ho
          intro vs W K hB hD hK
          have HK := Lib.hid hK
          have e3 : vs 3 = .slice (some ⟨gl, 0, none⟩) L.length cl := dep_of hD 3 (by rfl)
          have e4 : vs 4 = .int .i64 (k : Int) := dep_of hD 4 (by rfl)
          clear hK hD ho
          dsimp only
          go_simp
          have h := HK.out _ _ (Below.refl _ _) rfl
          simp only [upd, Nat.reduceEqDiff, reduceIte, e3, e4] at h
          exact h
        | 6, ho =>
          obtain rfl := Option.some.inj ho
          intro vs W K hB hD hK
          have HK := Lib.hid hK
          have e5 : vs 5 = .pointer (some ⟨gl, k, none⟩) := dep_of hD 5 (by rfl)
          have q := HCl.out W hB
          clear hK hD ho
          dsimp only
          go_simp
          have h := HK.out _ _ (Below.refl _ _) rfl
          simp only [upd, Nat.reduceEqDiff, reduceIte, e5] at h
          exact h
        | 7, ho =>
          obtain rfl := Option.some.inj ho
          intro vs W K hB hD hK
          have HK := Lib.hid hK
          have e0 : vs 0 = .agg #[.slice a0 n c0, .slice a1 n c1, .slice a2 n c2] := dep_of hD 0 (by rfl)
          have e1 : vs 1 = .int .i64 p := dep_of hD 1 (by rfl)
          have e2 : vs 2 = .slice aS n cS := dep_of hD 2 (by rfl)
          have e6 : vs 6 = .int .i64 (u : Int) := dep_of hD 6 (by rfl)
          clear hK hD ho
          dsimp only
          go_simp
          refine (HMV.out W hB).mono ?_
          rintro e W' ⟨u', rfl, hu, hb, hbl⟩
          have h := HK.out _ _ hb ⟨hu, hbl⟩
          simp only [upd, Nat.reduceEqDiff, reduceIte, e0, e1, e2, e6] at h
          exact h
        | 8, ho =>
          obtain rfl := Option.some.inj ho
          intro vs W K hB hD hK
          have HK := Lib.hid hK
          have i7 := dep_of (R := RBa a0 a1 a2 aS n c0 c1 c2 cS gl L.length cl k u w.heap.size wr.heap.size B w.heap.size p R) hD 7 (by rfl)
          clear hK hD ho
          dsimp only
          go_simp
          have h := HK.out _ _ (Below.refl _ _) i7
          simp only [upd, Nat.reduceEqDiff, reduceIte] at h
          exact h
        | q + 9, ho => exact absurd ho (by simp)
      case fin =>
      intro vs w7 hB hall
      have e8 : RowN wr.heap.size w.heap.size R w7 (vs 8) := hall 8 (by decide)
      have hb7 := HBD.out w7 hB
      have HD7 := Lib.hid (HD.out.below hb7)
      have HNB : Hid (0 < R.length → ∀ b, (vs 8).ownBlock = some b → b ≠ B ∧ (Value.slice (some ⟨gl, 0, none⟩) L.length cl).ownBlock ≠ some b) := fun hp b hb => by
        have h1 := HD.out.so.lt' B rfl
        have h2 := HD.out.lo.lt' gl rfl
        have h3 := HD.out.lo.ge gl rfl
        have h4 := HBW.out.size
        have h5 := HBE.out
        have h6 := Array.getElem?_eq_some_iff.1 HXX.out |>.1
        rcases e8.2 hp b hb with h | h
        · exact ⟨by omega, fun e => by
            obtain rfl : gl = b := by simpa [Value.ownBlock] using e
            omega⟩
        · exact ⟨by omega, fun e => by
            obtain rfl : gl = b := by simpa [Value.ownBlock] using e
            omega⟩
      have HRW := Lib.hid e8.1
      clear hall hB HCl HG HMV HBD HD HBZ hb7
      obtain ⟨aR, cR, hvR⟩ := e8.1.shape
      clear e8
      rw [hvR] at HRW HNB ⊢
      clear hvR
      generalize vs 0 = z0q
      generalize vs 1 = z1q
      generalize vs 2 = z2q
      generalize vs 3 = z3q
      generalize vs 4 = z4q
      generalize vs 5 = z5q
      generalize vs 6 = z6q
      generalize vs 7 = z7q
      clear vs
      go_wp2_with fail
      go_loopg [12, 15] R.length (fun gh ul j wx => ∃ (jj : Nat) (S : List Bool) (L : List Int), gh = R.length - jj ∧ j = .int .i64 (jj : Int) ∧ jj ≤ R.length ∧ k < L.length ∧ Hid (BD n Q B B w1 wx ul S L) ∧ Hid (IsInts wx (.slice aR R.length cR) R) ∧ Hid (0 < R.length → ∀ b, (Value.slice aR R.length cR).ownBlock = some b → b ≠ B ∧ ul.ownBlock ≠ some b))
      case atStart => exact ⟨0, _, _, rfl, rfl, by omega, hlt, HD7, HRW, HNB⟩
      case round =>
        clear HD7 HRW HNB
        obtain ⟨j, S', L', hgj, rfl, hj, hkL, HD, HRW, HNB⟩ := hrel
        have HGJ := Lib.hid hgj
        clear hgj
        have HBZ : Hid (Below w.heap.size w wr) := by
          have h1 := HD.out.bl
          have h2 := HBW.out
          show Below _ _ _
          exact h2.trans (h1.mono (by have := h2.size; have := HBE.out; omega))
        by_cases hjy : j < R.length
        · obtain ⟨bR, oR, dR, nR, fR⟩ := HRW.out.data
          obtain rfl := dR (by omega)
          have hj0 : (0 : Int) ≤ (j : Int) := by omega
          have hj1 : (j : Int) < (R.length : Int) := by omega
          have cY := fR j hjy
          obtain ⟨y, hy, hyn, hyv, hyq⟩ := HSR.out (R.getD j 0) (by rw [getD_lt _ _ _ hjy]; exact List.getElem_mem _)
          rw [hy] at cY
          have hy0 : (0 : Int) ≤ (y : Int) := by omega
          have hy1 : (y : Int) < (n : Int) := by omega
          have t1 : ((y : Int) == (v : Int)) = false := by rw [beq_eq_false_iff_ne]; omega
          have cT := cellB HBZ.out (HFT.out y hyn)
          unfold bvF at cT
          have hyl : y < S'.length := by rw [HD.out.sl]; exact hyn
          have cSe := HD.out.so.at' HD.out.sl.symm y hyl
          have fSe := HD.out.so.fz HD.out.sl.symm y
          have cPy := cellB HBZ.out (HF1.out y hyn)
          have cPv := cellB HBZ.out (HF1.out v hv)
          have q1 : wr.cell? ⟨w.heap.size, 1, none⟩ = some (.slice (some ⟨b1, o1, none⟩) n c1) := by
            have h1 := HD.out.bl
            rw [HBE.out] at h1
            have q := (h1.block _ (Array.getElem?_eq_some_iff.1 HXX.out).1).trans HXX.out
            have q2 := cell_of_row _ _ 1 _ _ _ q
            rw [HD1.out] at q2
            exact q2
          have HSK : Hid (S'[y] = S'.getD y false) := (getD_lt _ _ _ hyl).symm
          have HYQ := Lib.hid hyq
          clear fR dR hy hyq
          generalize S'[y] = sb at *
          generalize g.prio.getD y 0 = py at *
          generalize g.prio.getD v 0 = pv at *
          cases hsy : set.getD y false with
          | false =>
            rw [hsy] at cT
            clear hsy
            go_upto_region 13 with (fail)
            go_quiet (fail)
            go_wp2
            go_roundg (R.length - (j + 1))
            case measure => have := HGJ.out; omega
            case rel => exact ⟨j + 1, S', L', rfl, by go_num, by omega, hkL, HD.out.below (below_draws _ _ _), HRW.out.below (below_draws _ _ _), HNB⟩
          | true =>
            rw [hsy] at cT HYQ
            clear hsy
            cases sb with
            | true =>
              go_upto_region 13 with (fail)
              go_quiet (fail)
              go_wp2
              go_roundg (R.length - (j + 1))
              case measure => have := HGJ.out; omega
              case rel => exact ⟨j + 1, S', L', rfl, by go_num, by omega, hkL, HD.out.below (below_draws _ _ _), HRW.out.below (below_draws _ _ _), HNB⟩
            | false =>
              by_cases hpp : pv ≤ py
              · go_upto_region 13 with (fail)
                go_quiet (fail)
                have hsf : S'.getD y false = false := HSK.out.symm
                have hqy := HYQ.out rfl hpp
                have hLm := HD.out.most
                go_upto_region 14 with (fail)
                generalize hwz : wr.drewN _ = wz at *
                have hbz : Below wr.heap.size wr wz := by rw [← hwz]; exact below_draws _ _ _
                have HDz := Lib.hid (HD.out.below hbz)
                have HRz := Lib.hid (HRW.out.below hbz)
                clear cSe fSe cT cY cPy cPv q1 hwz hbz
                have cSe := HDz.out.so.at' HDz.out.sl.symm y hyl
                have fSe := HDz.out.so.fz HDz.out.sl.symm y
                have hoO : OI (wz.setCell ⟨B, y, none⟩ (.bool true)) B _ L' := HDz.out.lo.setNe HDz.out.ne
                have hBz : B ≤ (wz.setCell ⟨B, y, none⟩ (.bool true)).heap.size := by simp; exact HDz.out.sz
                have HLB : Hid (0 < R.length → ∀ b, (Value.slice (some ⟨bR, oR, none⟩) R.length cR).ownBlock = some b → b < wz.heap.size) := fun hp b hb => row_lt HRz.out hp b hb
                go_wp2_with (at_builtin; refine app_int rfl _ _ (y : Int) rfl B _ _ hoO rfl _ (by simp) rfl (by omega) hBz ?_; intro v' w' hown' hgr hmv; have HST := Lib.hid (HDz.out.push hyn hsf hqy hown' hgr hmv); have HR2 := Lib.hid ((HRz.out.grownN (grown_set wz B y (.bool true)) (fun hp b hb => ⟨fun e => (HNB.out hp b hb).1 (by simpa using e), HLB.out hp b hb⟩)).grownN hgr (fun hp b hb => ⟨fun e => (HNB.out hp b hb).2 e.symm, by have := HLB.out hp b hb; simpa using this⟩)); have HM2 := Lib.hid hmv; clear hown' hgr hmv)
                go_roundg (R.length - (j + 1))
                case measure => have := HGJ.out; omega
                case rel => exact ⟨j + 1, _, _, rfl, by go_num, by omega, by rw [List.length_append]; omega, HST, HR2, fun hp b hb => ⟨(HNB.out hp b hb).1, fun e => by
                  rcases HM2.out b e with h | h
                  · exact (HNB.out hp b hb).2 h
                  · have h2 := HLB.out hp b hb
                    simp at h
                    omega⟩⟩
              · go_upto_region 13 with (fail)
                go_quiet (fail)
                go_wp2
                go_roundg (R.length - (j + 1))
                case measure => have := HGJ.out; omega
                case rel => exact ⟨j + 1, S', L', rfl, by go_num, by omega, hkL, HD.out.below (below_draws _ _ _), HRW.out.below (below_draws _ _ _), HNB⟩
        · obtain rfl : j = R.length := by omega
          have hj1 : ¬ (R.length : Int) < (R.length : Int) := by omega
          have hLm := HD.out.most
          go_wp2
          go_roundg (n + 1 - (k + 1))
          case measure => have := HGK.out; omega
          case rel => exact ⟨k + 1, S', L', rfl, by go_num, by omega, HD⟩
    · obtain ⟨aL, cL, rfl⟩ := HD.out.lo.slice
      have hkI : ¬ (k : Int) < (L.length : Int) := by omega
      go_wp2
      go_ret
      exact ⟨rfl, HBZ.out⟩

end Go.Proofs.Ytijkjhcigdfdgaa
