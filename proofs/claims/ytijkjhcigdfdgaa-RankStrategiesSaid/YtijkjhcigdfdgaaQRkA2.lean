/- The law RankLeast: its walk. -/
import Derived.Test.YtijkjhcigdfdgaaQRkA1
namespace Go.Proofs.Ytijkjhcigdfdgaa
open Go.RowKit

section
variable {g : Gm} {n : Nat} {mo : List Nat} {f f' : Nat → Nat}
theorem need_congr (hE : RE g n) (h : ∀ v, v < n → f v = f' v) (hle : ∀ v, v < n → f' v ≤ topN mo) {v : Nat} (hv : v < n) : needN g mo f v = needN g mo f' v :=
  Nat.le_antisymm (need_mono hE (fun u hu => Nat.le_of_eq (h u hu)) hle hv) (need_mono hE (fun u hu => Nat.le_of_eq (h u hu).symm) (fun u hu => by rw [h u hu]; exact hle u hu) hv)
end
/-- What pmB says. -/
theorem pm_lists {h : Gm} {m : List (List Int)} (hv : validB h = true) (e : pmB h m = true) : PM h h.owner.length (moG h) (fun u => cdN (moG h) (m.getD u [])) := by
  have hm := pmB_of e
  unfold pmB at e
  simp only [Bool.and_eq_true, decide_eq_true_eq, List.all_eq_true, List.mem_range] at e
  exact (pm_iff (re_valid hv)).2 ⟨fun v hv' => cd_le (hm.2 v hv'), fun v hv' => e.2 v hv'⟩
theorem pm_rows {h : Gm} {f : Nat → Nat} (hv : validB h = true) (hf : PM h h.owner.length (moG h) f) : pmB h (rowsF (moG h) f h.owner.length) = true := by
  unfold pmB
  simp only [Bool.and_eq_true, decide_eq_true_eq, List.all_eq_true, List.mem_range]
  refine ⟨⟨rowsF_len, fun l hl => ?_⟩, fun v hv' => ?_⟩
  · simp only [rowsF, List.mem_map] at hl
    obtain ⟨u, -, rfl⟩ := hl
    exact dig_me _ _
  · have hc : ∀ u, u < h.owner.length → cdN (moG h) ((rowsF (moG h) f h.owner.length).getD u []) = f u := fun u hu => by rw [rowsF_at hu, cd_dig (hf.le u hu)]
    rw [need_congr (re_valid hv) hc (fun u hu => hf.le u hu) hv', hc v hv']
    exact ((pm_iff (re_valid hv)).1 hf).2 v hv'
theorem FineH.valid {g : Gm} (h : FineH g) {p : Int} (hp : p = 0 ∨ p = 1) : validV g p (lstG g p) = true := by
  unfold validV
  rw [h.view hp]
  have := pm_rows (h.vv hp) (f := lfpF (vwG g p) (moG (vwG g p))) (by rw [h.vn hp]; exact (h.least hp).pm)
  rw [h.vn hp] at this
  exact this
theorem FineH.less {g : Gm} (h : FineH g) {p : Int} (hp : p = 0 ∨ p = 1) {m : List (List Int)} (hm : validV g p m = true) : m.length = g.owner.length ∧ ∀ i, i < g.owner.length → lessB (m.getD i []) ((lstG g p).getD i []) = false := by
  unfold validV at hm
  rw [h.view hp] at hm
  have h1 := pmB_of hm
  rw [h.vn hp] at h1
  refine ⟨h1.1, fun i hi => ?_⟩
  have h2 := pm_lists (h.vv hp) hm
  rw [h.vn hp] at h2
  rw [lst_at hi, less_bef (h1.2 i hi) (dig_me _ _), cd_dig ((h.least hp).pm.le i hi)]
  have := (h.least hp).le _ h2 i hi
  simp only [decide_eq_false_iff_not]
  omega
def RLa (bA oA bM oM n0 c3 cm k : Nat) (a1 a2 : Option Addr) (x y e1 e2 : Nat) (ix : Nat) (u : Value) (_ : World) : Prop :=
  match ix with
  | 0 => u = .int .i64 (k : Int)
  | 1 => u = .slice (some ⟨bM, oM, none⟩) n0 cm
  | 2 => u = .int .i64 (n0 : Int)
  | 3 => u = .bool false
  | 4 => u = .bool false
  | 5 => u = .slice (some ⟨bM, oM, none⟩) n0 cm
  | 6 => u = .int .i64 (k : Int)
  | 7 => u = .pointer (some ⟨bM, oM + k, none⟩)
  | 8 => u = .slice a1 x e1
  | 9 => u = .slice (some ⟨bA, oA, none⟩) n0 c3
  | 10 => u = .int .i64 (k : Int)
  | 11 => u = .pointer (some ⟨bA, oA + k, none⟩)
  | 12 => u = .slice a2 y e2
  | 13 => u = .bool false
  | 14 => u = .bool false
  | _ => True
theorem RLa.below {ix : Nat} {u : Value} {W W' : World} {bA oA bM oM n0 c3 cm k : Nat} {a1 a2 : Option Addr} {x y e1 e2 : Nat} (h : RLa bA oA bM oM n0 c3 cm k a1 a2 x y e1 e2 ix u W) (_ : Below W.heap.size W W') : RLa bA oA bM oM n0 c3 cm k a1 a2 x y e1 e2 ix u W' := by
  unfold RLa at *
  split at h <;> first | exact h | trivial

set_option maxRecDepth 100000 in
set_option maxHeartbeats 8000000 in
theorem Least_walk (w : World) (vg vm : Value) (g : Gm) (x : Int) (m : List (List Int)) (hg : IsGame w vg g) (hx8 : 0 ≤ x ∧ x ≤ 255) (hm : IsRows w vm m) : Calls Try.prog 4 #[vg, .int .u8 x, vm] w (Calm (.bool true) w) := by
  have hmx : Try.prog.follows .mixedOrders = true := by kernel_rfl
  obtain ⟨hx0, hx1⟩ := hx8
  have HPP : Hid (x % 2 = 0 ∨ x % 2 = 1) := by show _ ∨ _; omega
  obtain ⟨am, cm, rfl⟩ : ∃ a c, vm = .slice a m.length c := by
    obtain ⟨a, c, b, o, V, rfl, -⟩ := hm.data
    exact ⟨a, c, rfl⟩
  generalize hlm : m.length = lm at *
  have HLM := Lib.hid hlm
  clear hlm
  obtain ⟨a0, c0, a1, c1, a2, c2, rfl⟩ := hg.shape
  generalize hn0 : g.owner.length = n0 at *
  generalize hn1 : g.prio.length = n1 at *
  generalize hn2 : g.succ.length = n2 at *
  have HN0 := Lib.hid hn0
  clear hn0 hn1 hn2
  go_enter Try.func4, Try.ntmps4
  go_upto_region 1 with (fail)
  obtain ⟨hx, hb, hB⟩ := box_new (w0 := w) (Below.refl _ _) (Nat.le_refl _) #[.slice a0 n0 c0, .slice a1 n1 c1, .slice a2 n2 c2] 25
  replace hg := hg.below hb
  replace hm := hm.below hb
  generalize w.alloc (.cells #[.slice a0 n0 c0, .slice a1 n1 c1, .slice a2 n2 c2] 25) = w1 at *
  clear hb
  go_wp2_with fail
  refine (head_c _).mono ?_
  rintro e w2 ⟨rfl, hb⟩
  replace hx := (hb.block _ (Array.getElem?_eq_some_iff.1 hx).1).trans hx
  replace hg := hg.below hb
  replace hm := hm.below hb
  replace hB := hB.trans (hb.mono hB.size)
  clear hb 
  have k0 := cell_of_row _ _ 0 _ _ _ hx
  have k1 := cell_of_row _ _ 1 _ _ _ hx
  have k2 := cell_of_row _ _ 2 _ _ _ hx
  go_wp2_with fail
  refine (fine_c _ _ g hg).mono ?_
  rintro e w3 ⟨rfl, hb⟩
  replace hx := (hb.block _ (Array.getElem?_eq_some_iff.1 hx).1).trans hx
  replace hg := hg.below hb
  replace hm := hm.below hb
  replace hB := hB.trans (hb.mono hB.size)
  clear hb k0 k1 k2
  cases hf : fineB g with
  | false =>
    clear hf
    go_wp2_with fail
    go_ret
    exact ⟨rfl, hB⟩
  | true =>
  have HF := Lib.hid (fine_h hf)
  clear hf
  by_cases h20 : (20 : Int) < (lm : Int)
  · go_wp2_with fail
    go_ret
    exact ⟨rfl, hB⟩
  go_upto_region 5 with (fail)
  obtain ⟨p, hp⟩ : ∃ p, p = x % 2 := ⟨_, rfl⟩
  rw [← hp] at HPP ⊢
  clear hp hx0 hx1
  have k0 := cell_of_row _ _ 0 _ _ _ hx
  have k1 := cell_of_row _ _ 1 _ _ _ hx
  have k2 := cell_of_row _ _ 2 _ _ _ hx
  go_wp2_with fail
  refine (Measure_c _ _ g p hg HF.out.look fun h e hw => top_work e hw).mono ?_
  intro e w4 h
  obtain ⟨a3, c3, rfl, hm0, hb⟩ : ∃ a c, e = .returned (.tuple #[.slice a n0 c, .int .i64 0]) ∧ IsRows w4 (.slice a n0 c) (lstG g p) ∧ Below w3.heap.size w3 w4 := by have := h.ex (HF.out.meas HPP.out); rw [lst_len, HN0.out] at this; exact this
  clear h
  replace hx := (hb.block _ (Array.getElem?_eq_some_iff.1 hx).1).trans hx
  replace hg := hg.below hb
  replace hm := hm.below hb
  replace hB := hB.trans (hb.mono hB.size)
  clear hb k0 k1 k2
  go_upto_region 6 with (fail)
  have k0 := cell_of_row _ _ 0 _ _ _ hx
  have k1 := cell_of_row _ _ 1 _ _ _ hx
  have k2 := cell_of_row _ _ 2 _ _ _ hx
  go_wp2_with fail
  refine (Valid_c _ _ _ g p (lstG g p) hg hm0 HF.out.look).mono ?_
  rw [HF.out.valid HPP.out]
  rintro e w5 ⟨rfl, hb⟩
  replace hx := (hb.block _ (Array.getElem?_eq_some_iff.1 hx).1).trans hx
  replace hg := hg.below hb
  replace hm := hm.below hb
  replace hm0 := hm0.below hb
  replace hB := hB.trans (hb.mono hB.size)
  clear hb k0 k1 k2
  have k0 := cell_of_row _ _ 0 _ _ _ hx
  have k1 := cell_of_row _ _ 1 _ _ _ hx
  have k2 := cell_of_row _ _ 2 _ _ _ hx
  go_upto_region 8 with (fail)
  clear k0 k1 k2
  have k0 := cell_of_row _ _ 0 _ _ _ hx
  have k1 := cell_of_row _ _ 1 _ _ _ hx
  have k2 := cell_of_row _ _ 2 _ _ _ hx
  go_wp2_with fail
  refine (Valid_c _ _ _ g p m hg hm HF.out.look).mono ?_
  rintro e w6 ⟨rfl, hb⟩
  replace hx := (hb.block _ (Array.getElem?_eq_some_iff.1 hx).1).trans hx
  replace hg := hg.below hb
  replace hm := hm.below hb
  replace hm0 := hm0.below hb
  replace hB := hB.trans (hb.mono hB.size)
  clear hb k0 k1 k2
  cases hvm : validV g p m with
  | false =>
    clear hvm
    go_wp2_with fail
    go_ret
    exact ⟨rfl, hB⟩
  | true =>
  obtain rfl : lm = n0 := by rw [← HLM.out, ← HN0.out]; exact (HF.out.less HPP.out hvm).1
  have HLS0 : Hid (∀ k, k < lm → lessB (m.getD k []) ((lstG g p).getD k []) = false) := fun k hk => (HF.out.less HPP.out hvm).2 k (by rw [HN0.out]; exact hk)
  clear hvm hx hg h20
  obtain ⟨bA, oA, dA, nA, fA⟩ := hm0.dat2
  obtain ⟨bM, oM, dM, nM, fM⟩ := hm.dat2
  clear hm0 hm
  generalize lstG g p = A at *
  have HFA := Lib.hid fA
  have HFM := Lib.hid fM
  have HBB := Lib.hid hB
  clear fA fM hB HF HLM HN0 HPP
  generalize hnx : lm = n0 at *
  clear hnx
  go_wp2_with fail
  go_loopg [11] n0 (fun gh i wr => ∃ k : Nat, gh = n0 - k ∧ i = .int .i64 (k : Int) ∧ k ≤ n0 ∧ Hid (Below w6.heap.size w6 wr))
  case atStart => exact ⟨0, rfl, rfl, by omega, Below.refl _ _⟩
  case round =>
    obtain ⟨k, hgk, rfl, hk, HBx⟩ := hrel
    have HGK := Lib.hid hgk
    clear hgk
    by_cases hlt : k < n0
    · obtain rfl := dA (by omega)
      obtain rfl := dM (by omega)
      have i1 : (k : Int) < (n0 : Int) := by omega
      have i2 : ¬ (n0 : Int) ≤ (k : Int) := by omega
      have hi0 : (0 : Int) ≤ (k : Int) := by omega
      obtain ⟨a1, e1, cM, rM⟩ := HFM.out k hlt
      obtain ⟨a2, e2, cA, rA⟩ := HFA.out k hlt
      have hl := HLS0.out k hlt
      have HBD : Hid (∀ W, Below wr.drew.heap.size wr.drew W → Below wr.heap.size wr W) := fun W h => (Below.drew (B := wr.heap.size) (Below.refl _ _)).trans h
      have HBW : Hid (∀ W, Below wr.drew.heap.size wr.drew W → Below w6.heap.size w6 W) := fun W h => HBx.out.trans ((HBD.out W h).mono HBx.out.size)
      have HLS : Hid (∀ W, Below wr.drew.heap.size wr.drew W → Calls Try.prog 22 #[.slice a1 (m.getD k []).length e1, .slice a2 (A.getD k []).length e2] W (Calm (.bool false) W)) := fun W h => by
        have := Less_c W _ _ _ _ (rM.below (HBW.out W h)) (rA.below (HBW.out W h))
        rw [hl] at this
        exact this.mono fun e w' h => h.calm
      have HCl : Hid (∀ W, Below wr.drew.heap.size wr.drew W → W.cell? ⟨bM, oM + k, none⟩ = some (.slice a1 (m.getD k []).length e1) ∧ W.cell? ⟨bA, oA + k, none⟩ = some (.slice a2 (A.getD k []).length e2)) := fun W h => ⟨cellB (HBW.out W h) cM, cellB (HBW.out W h) cA⟩
      clear cM cA rM rA hl HBW
      generalize (m.getD k []).length = x at *
      generalize (A.getD k []).length = y at *
      go_upto_region 13 with (fail)
      refine region_stable hmx (RLa bA oA bM oM n0 c3 cm k a1 a2 x y e1 e2) (fun vs => { tmps := (_ :: _ :: _ :: _ :: _ :: _ :: _ :: _ :: _ :: _ :: _ :: _ :: _ :: _ :: _ :: _ :: _ :: _ :: _ :: _ :: _ :: _ :: _ :: _ :: _ :: _ :: _ :: _ :: _ :: _ :: _ :: _ :: _ :: _ :: _ :: _ :: _ :: _ :: _ :: _ :: _ :: _ :: _ :: _ :: _ :: _ :: _ :: _ :: _ :: _ :: _ :: _ :: _ :: _ :: _ :: _ :: _ :: _ :: _ :: _ :: vs 0 :: vs 1 :: vs 2 :: vs 3 :: vs 4 :: vs 5 :: vs 6 :: vs 7 :: vs 8 :: vs 9 :: vs 10 :: vs 11 :: vs 12 :: vs 13 :: vs 14 :: _ :: []).toArray, defers := _ }) (fun n => [u60, u61, u62, u63, u64, u65, u66, u67, u68, u69, u70, u71, u72, u73, u74].getD n undef) rfl (by kernel_rfl) (fun _ _ _ _ h hb => h.below hb) ?step ?fin
      case step =>
        intro ix o ho
        match ix, ho with
        | 0, ho =>
          obtain rfl := Option.some.inj ho
          intro vs W K hB hD hK
          have HK := Lib.hid hK
          clear hK hD ho
          dsimp only
          go_simp
          have h := HK.out _ _ (Below.refl _ _) rfl
          simp only [upd, Nat.reduceEqDiff, reduceIte] at h
          exact h
        | 1, ho =>
          obtain rfl := Option.some.inj ho
          intro vs W K hB hD hK
          have HK := Lib.hid hK
          clear hK hD ho
          dsimp only
          go_simp
          have h := HK.out _ _ (Below.refl _ _) rfl
          simp only [upd, Nat.reduceEqDiff, reduceIte] at h
          exact h
        | 2, ho =>
          obtain rfl := Option.some.inj ho
          intro vs W K hB hD hK
          have HK := Lib.hid hK
          have e1 : vs 1 = .slice (some ⟨bM, oM, none⟩) n0 cm := dep_of hD 1 (by rfl)
          clear hK hD ho
          dsimp only
          go_simp
          have h := HK.out _ _ (Below.refl _ _) rfl
          simp only [upd, Nat.reduceEqDiff, reduceIte, e1] at h
          exact h
        | 3, ho =>
          obtain rfl := Option.some.inj ho
          intro vs W K hB hD hK
          have HK := Lib.hid hK
          have e0 : vs 0 = .int .i64 (k : Int) := dep_of hD 0 (by rfl)
          have e2 : vs 2 = .int .i64 (n0 : Int) := dep_of hD 2 (by rfl)
          clear hK hD ho
          dsimp only
          go_simp
          have h := HK.out _ _ (Below.refl _ _) rfl
          simp only [upd, Nat.reduceEqDiff, reduceIte, e0, e2] at h
          exact h
        | 4, ho =>
          obtain rfl := Option.some.inj ho
          intro vs W K hB hD hK
          have HK := Lib.hid hK
          have e3 : vs 3 = .bool false := dep_of hD 3 (by rfl)
          clear hK hD ho
          dsimp only
          go_simp
          have h := HK.out _ _ (Below.refl _ _) rfl
          simp only [upd, Nat.reduceEqDiff, reduceIte, e3] at h
          exact h
        | 5, ho =>
          obtain rfl := Option.some.inj ho
          intro vs W K hB hD hK
          have HK := Lib.hid hK
          have e4 : vs 4 = .bool false := dep_of hD 4 (by rfl)
          clear hK hD ho
          dsimp only
          go_simp
          have h := HK.out _ _ (Below.refl _ _) rfl
          simp only [upd, Nat.reduceEqDiff, reduceIte, e4] at h
          exact h
        | 6, ho =>
          obtain rfl := Option.some.inj ho
          intro vs W K hB hD hK
          have HK := Lib.hid hK
          have e4 : vs 4 = .bool false := dep_of hD 4 (by rfl)
          clear hK hD ho
          dsimp only
          go_simp
          have h := HK.out _ _ (Below.refl _ _) rfl
          simp only [upd, Nat.reduceEqDiff, reduceIte, e4] at h
          exact h
        | 7, ho =>
          obtain rfl := Option.some.inj ho
          intro vs W K hB hD hK
          have HK := Lib.hid hK
          have e4 : vs 4 = .bool false := dep_of hD 4 (by rfl)
          have e5 : vs 5 = .slice (some ⟨bM, oM, none⟩) n0 cm := dep_of hD 5 (by rfl)
          have e6 : vs 6 = .int .i64 (k : Int) := dep_of hD 6 (by rfl)
          clear hK hD ho
          dsimp only
          go_simp
          have h := HK.out _ _ (Below.refl _ _) rfl
          simp only [upd, Nat.reduceEqDiff, reduceIte, e4, e5, e6] at h
          exact h
        | 8, ho =>
          obtain rfl := Option.some.inj ho
          intro vs W K hB hD hK
          have HK := Lib.hid hK
          have e4 : vs 4 = .bool false := dep_of hD 4 (by rfl)
          have e7 : vs 7 = .pointer (some ⟨bM, oM + k, none⟩) := dep_of hD 7 (by rfl)
          have q := (HCl.out W hB).1
          clear hK hD ho
          dsimp only
          go_simp
          have h := HK.out _ _ (Below.refl _ _) rfl
          simp only [upd, Nat.reduceEqDiff, reduceIte, e4, e7] at h
          exact h
        | 9, ho =>
          obtain rfl := Option.some.inj ho
          intro vs W K hB hD hK
          have HK := Lib.hid hK
          have e4 : vs 4 = .bool false := dep_of hD 4 (by rfl)
          clear hK hD ho
          dsimp only
          go_simp
          have h := HK.out _ _ (Below.refl _ _) rfl
          simp only [upd, Nat.reduceEqDiff, reduceIte, e4] at h
          exact h
        | 10, ho =>
          obtain rfl := Option.some.inj ho
          intro vs W K hB hD hK
          have HK := Lib.hid hK
          have e4 : vs 4 = .bool false := dep_of hD 4 (by rfl)
          clear hK hD ho
          dsimp only
          go_simp
          have h := HK.out _ _ (Below.refl _ _) rfl
          simp only [upd, Nat.reduceEqDiff, reduceIte, e4] at h
          exact h
        | 11, ho =>
          obtain rfl := Option.some.inj ho
          intro vs W K hB hD hK
          have HK := Lib.hid hK
          have e4 : vs 4 = .bool false := dep_of hD 4 (by rfl)
          have e9 : vs 9 = .slice (some ⟨bA, oA, none⟩) n0 c3 := dep_of hD 9 (by rfl)
          have e10 : vs 10 = .int .i64 (k : Int) := dep_of hD 10 (by rfl)
          clear hK hD ho
          dsimp only
          go_simp
          have h := HK.out _ _ (Below.refl _ _) rfl
          simp only [upd, Nat.reduceEqDiff, reduceIte, e4, e9, e10] at h
          exact h
        | 12, ho =>
          obtain rfl := Option.some.inj ho
          intro vs W K hB hD hK
          have HK := Lib.hid hK
          have e4 : vs 4 = .bool false := dep_of hD 4 (by rfl)
          have e11 : vs 11 = .pointer (some ⟨bA, oA + k, none⟩) := dep_of hD 11 (by rfl)
          have q := (HCl.out W hB).2
          clear hK hD ho
          dsimp only
          go_simp
          have h := HK.out _ _ (Below.refl _ _) rfl
          simp only [upd, Nat.reduceEqDiff, reduceIte, e4, e11] at h
          exact h
        | 13, ho =>
          obtain rfl := Option.some.inj ho
          intro vs W K hB hD hK
          have HK := Lib.hid hK
          have e4 : vs 4 = .bool false := dep_of hD 4 (by rfl)
          have e8 : vs 8 = .slice a1 x e1 := dep_of hD 8 (by rfl)
          have e12 : vs 12 = .slice a2 y e2 := dep_of hD 12 (by rfl)
          clear hK hD ho
          dsimp only
          go_simp
          refine (HLS.out W hB).mono ?_
          rintro e W' ⟨rfl, hb⟩
          have h := HK.out _ _ hb rfl
          simp only [upd, Nat.reduceEqDiff, reduceIte, e4, e8, e12] at h
          exact h
        | 14, ho =>
          obtain rfl := Option.some.inj ho
          intro vs W K hB hD hK
          have HK := Lib.hid hK
          have e4 : vs 4 = .bool false := dep_of hD 4 (by rfl)
          have e13 : vs 13 = .bool false := dep_of hD 13 (by rfl)
          clear hK hD ho
          dsimp only
          go_simp
          have h := HK.out _ _ (Below.refl _ _) rfl
          simp only [upd, Nat.reduceEqDiff, reduceIte, e4, e13] at h
          exact h
        | q + 15, ho => exact absurd ho (by simp)
      case fin =>
        intro vs wz hB hall
        have el : vs 14 = .bool false := hall 14 (by decide)
        have HB3 := Lib.hid (HBx.out.trans ((HBD.out _ hB).mono HBx.out.size))
        clear hall hB HCl HLS
        rw [el]
        clear el
        generalize vs 0 = z0q
        generalize vs 1 = z1q
        generalize vs 2 = z2q
        generalize vs 3 = z3q
        generalize vs 4 = z4q
        generalize vs 5 = z5q
        generalize vs 6 = z6q
        generalize vs 7 = z7q
        generalize vs 8 = z8q
        generalize vs 9 = z9q
        generalize vs 10 = z10q
        generalize vs 11 = z11q
        generalize vs 12 = z12q
        generalize vs 13 = z13q
        clear vs
        go_wp2
        go_roundg (n0 - (k + 1))
        case measure => have := HGK.out; omega
        case rel => exact ⟨k + 1, rfl, by go_num, by omega, HB3⟩
    · have i1 : ¬ (k : Int) < (n0 : Int) := by omega
      go_wp2
      go_ret
      exact ⟨rfl, HBB.out.trans (HBx.out.mono HBB.out.size)⟩

end Go.Proofs.Ytijkjhcigdfdgaa
