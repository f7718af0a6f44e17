/- The law RankWinners: its walk. -/
import Derived.Test.YtijkjhcigdfdgaaQRkA0
namespace Go.Proofs.Ytijkjhcigdfdgaa
open Go.RowKit
def RWa (bA oA bB oB bW oW n0 c3 c4 c5 k : Nat) (a1 a2 : Option Addr) (x y e1 e2 : Nat) (ix : Nat) (u : Value) (_ : World) : Prop :=
  match ix with
  | 0 => u = .slice (some ⟨bA, oA, none⟩) n0 c3
  | 1 => u = .int .i64 (k : Int)
  | 2 => u = .pointer (some ⟨bA, oA + k, none⟩)
  | 3 => u = .slice a1 x e1
  | 4 => u = .bool false
  | 5 => u = .slice (some ⟨bB, oB, none⟩) n0 c4
  | 6 => u = .int .i64 (k : Int)
  | 7 => u = .pointer (some ⟨bB, oB + k, none⟩)
  | 8 => u = .slice a2 y e2
  | 9 => u = .bool true
  | 10 => u = .bool false
  | 11 => u = .bool false
  | 12 => u = .slice (some ⟨bA, oA, none⟩) n0 c3
  | 13 => u = .int .i64 (k : Int)
  | 14 => u = .pointer (some ⟨bA, oA + k, none⟩)
  | 15 => u = .slice a1 x e1
  | 16 => u = .bool false
  | 17 => u = .slice (some ⟨bW, oW, none⟩) n0 c5
  | 18 => u = .int .i64 (k : Int)
  | 19 => u = .pointer (some ⟨bW, oW + k, none⟩)
  | 20 => u = .int .i64 0
  | 21 => u = .bool false
  | 22 => u = .bool false
  | 23 => u = .bool false
  | _ => True
theorem RWa.below {ix : Nat} {u : Value} {W W' : World} {bA oA bB oB bW oW n0 c3 c4 c5 k : Nat} {a1 a2 : Option Addr} {x y e1 e2 : Nat} (h : RWa bA oA bB oB bW oW n0 c3 c4 c5 k a1 a2 x y e1 e2 ix u W) (_ : Below W.heap.size W W') : RWa bA oA bB oB bW oW n0 c3 c4 c5 k a1 a2 x y e1 e2 ix u W' := by
  unfold RWa at *
  split at h <;> first | exact h | trivial
def RWb (bA oA bB oB bW oW n0 c3 c4 c5 k : Nat) (a1 a2 : Option Addr) (x y e1 e2 : Nat) (ix : Nat) (u : Value) (_ : World) : Prop :=
  match ix with
  | 0 => u = .slice (some ⟨bA, oA, none⟩) n0 c3
  | 1 => u = .int .i64 (k : Int)
  | 2 => u = .pointer (some ⟨bA, oA + k, none⟩)
  | 3 => u = .slice a1 x e1
  | 4 => u = .bool true
  | 5 => u = .slice (some ⟨bB, oB, none⟩) n0 c4
  | 6 => u = .int .i64 (k : Int)
  | 7 => u = .pointer (some ⟨bB, oB + k, none⟩)
  | 8 => u = .slice a2 y e2
  | 9 => u = .bool false
  | 10 => u = .bool false
  | 11 => u = .bool false
  | 12 => u = .slice (some ⟨bA, oA, none⟩) n0 c3
  | 13 => u = .int .i64 (k : Int)
  | 14 => u = .pointer (some ⟨bA, oA + k, none⟩)
  | 15 => u = .slice a1 x e1
  | 16 => u = .bool true
  | 17 => u = .slice (some ⟨bW, oW, none⟩) n0 c5
  | 18 => u = .int .i64 (k : Int)
  | 19 => u = .pointer (some ⟨bW, oW + k, none⟩)
  | 20 => u = .int .i64 1
  | 21 => u = .bool true
  | 22 => u = .bool false
  | 23 => u = .bool false
  | _ => True
theorem RWb.below {ix : Nat} {u : Value} {W W' : World} {bA oA bB oB bW oW n0 c3 c4 c5 k : Nat} {a1 a2 : Option Addr} {x y e1 e2 : Nat} (h : RWb bA oA bB oB bW oW n0 c3 c4 c5 k a1 a2 x y e1 e2 ix u W) (_ : Below W.heap.size W W') : RWb bA oA bB oB bW oW n0 c3 c4 c5 k a1 a2 x y e1 e2 ix u W' := by
  unfold RWb at *
  split at h <;> first | exact h | trivial


theorem IsRows.dat2 {w : World} {a : Option Addr} {n c : Nat} {ll : List (List Int)} (h : IsRows w (.slice a n c) ll) : ∃ b o, (0 < n → a = some ⟨b, o, none⟩) ∧ n ≤ 140737488351232 ∧ ∀ j, j < n → ∃ ao cap, w.cell? ⟨b, o + j, none⟩ = some (.slice ao (ll.getD j []).length cap) ∧ IsInts w (.slice ao (ll.getD j []).length cap) (ll.getD j []) := by
  obtain ⟨a', c', b, o, V, hv, d, hn, f⟩ := h.data
  injection hv with h1 h2 h3
  subst h1 h2 h3
  refine ⟨b, o, d, hn, fun j hj => ?_⟩
  obtain ⟨f1, f2⟩ := f j hj
  obtain ⟨ao, cap, e⟩ := f2.shape
  rw [e] at f1 f2
  exact ⟨ao, cap, f1, f2⟩

set_option maxRecDepth 100000 in
set_option maxHeartbeats 8000000 in
theorem Winners_walk (w : World) (vg : Value) (g : Gm) (hg : IsGame w vg g) : Calls Try.prog 5 #[vg] w (Calm (.bool true) w) := by
  have hmx : Try.prog.follows .mixedOrders = true := by kernel_rfl
  obtain ⟨a0, c0, a1, c1, a2, c2, rfl⟩ := hg.shape
  generalize hn0 : g.owner.length = n0 at *
  generalize hn1 : g.prio.length = n1 at *
  generalize hn2 : g.succ.length = n2 at *
  have HN0 := Lib.hid hn0
  clear hn0 hn1 hn2
  go_enter Try.func5, Try.ntmps5
  go_upto_region 1 with (fail)
  obtain ⟨hx, hb, hB⟩ := box_new (w0 := w) (Below.refl _ _) (Nat.le_refl _) #[.slice a0 n0 c0, .slice a1 n1 c1, .slice a2 n2 c2] 25
  replace hg := hg.below hb
  generalize w.alloc (.cells #[.slice a0 n0 c0, .slice a1 n1 c1, .slice a2 n2 c2] 25) = w1 at *
  clear hb
  go_wp2_with fail
  refine (head_c _).mono ?_
  rintro e w2 ⟨rfl, hb⟩
  replace hx := (hb.block _ (Array.getElem?_eq_some_iff.1 hx).1).trans hx
  replace hg := hg.below hb
  replace hB := hB.trans (hb.mono hB.size)
  clear hb 
  have k0 := cell_of_row _ _ 0 _ _ _ hx
  have k1 := cell_of_row _ _ 1 _ _ _ hx
  have k2 := cell_of_row _ _ 2 _ _ _ hx
  go_wp2_with fail
  refine (fine_c _ _ g hg).mono ?_
  rintro e w3 ⟨rfl, hb⟩
  replace hx := (hb.block _ (Array.getElem?_eq_some_iff.1 hx).1).trans hx
  replace hg := hg.below hb
  replace hB := hB.trans (hb.mono hB.size)
  clear hb k0 k1 k2
  cases hf : fineB g with
  | false =>
    clear hf
    go_wp2_with fail
    go_ret
    exact ⟨rfl, hB⟩
  | true =>
  have HF := Lib.hid (fine_h hf)
  clear hf
  go_upto_region 4 with (fail)
  have k0 := cell_of_row _ _ 0 _ _ _ hx
  have k1 := cell_of_row _ _ 1 _ _ _ hx
  have k2 := cell_of_row _ _ 2 _ _ _ hx
  go_wp2_with fail
  refine (Measure_c _ _ g 0 hg HF.out.look fun h e hw => top_work e hw).mono ?_
  intro e w4 h
  obtain ⟨a3, c3, rfl, hm0, hb⟩ : ∃ a c, e = .returned (.tuple #[.slice a n0 c, .int .i64 0]) ∧ IsRows w4 (.slice a n0 c) (lstG g 0) ∧ Below w3.heap.size w3 w4 := by have := h.ex (HF.out.meas (.inl rfl)); rw [lst_len, HN0.out] at this; exact this
  clear h
  replace hx := (hb.block _ (Array.getElem?_eq_some_iff.1 hx).1).trans hx
  replace hg := hg.below hb
  replace hB := hB.trans (hb.mono hB.size)
  clear hb k0 k1 k2
  go_upto_region 5 with (fail)
  have k0 := cell_of_row _ _ 0 _ _ _ hx
  have k1 := cell_of_row _ _ 1 _ _ _ hx
  have k2 := cell_of_row _ _ 2 _ _ _ hx
  go_wp2_with fail
  refine (Measure_c _ _ g 1 hg HF.out.look fun h e hw => top_work e hw).mono ?_
  intro e w5 h
  obtain ⟨a4, c4, rfl, hm1, hb⟩ : ∃ a c, e = .returned (.tuple #[.slice a n0 c, .int .i64 0]) ∧ IsRows w5 (.slice a n0 c) (lstG g 1) ∧ Below w4.heap.size w4 w5 := by have := h.ex (HF.out.meas (.inr rfl)); rw [lst_len, HN0.out] at this; exact this
  clear h
  replace hx := (hb.block _ (Array.getElem?_eq_some_iff.1 hx).1).trans hx
  replace hg := hg.below hb
  replace hm0 := hm0.below hb
  replace hB := hB.trans (hb.mono hB.size)
  clear hb k0 k1 k2
  go_upto_region 6 with (fail)
  have k0 := cell_of_row _ _ 0 _ _ _ hx
  have k1 := cell_of_row _ _ 1 _ _ _ hx
  have k2 := cell_of_row _ _ 2 _ _ _ hx
  go_wp2_with fail
  refine (Solve_c _ _ g hg HF.out.look.s).mono ?_
  rintro e w6 ⟨v, l, rfl, hs, hS, hb⟩
  have hll : l.length = n0 := by rw [(hS.2 HF.out.v).1]; exact HN0.out
  obtain ⟨a5, c5, rfl⟩ : ∃ a c, v = .slice a n0 c := by have := hs.shape; rw [hll] at this; exact this
  have HLL := Lib.hid hll
  have HS := Lib.hid hS
  clear hS hll
  replace hx := (hb.block _ (Array.getElem?_eq_some_iff.1 hx).1).trans hx
  replace hg := hg.below hb
  replace hm0 := hm0.below hb
  replace hm1 := hm1.below hb
  replace hB := hB.trans (hb.mono hB.size)
  clear hb k0 k1 k2
  go_upto_region 7 with (fail)
  have k0 := cell_of_row _ _ 0 _ _ _ hx
  have k1 := cell_of_row _ _ 1 _ _ _ hx
  have k2 := cell_of_row _ _ 2 _ _ _ hx
  go_upto_region 9 with (fail)
  clear k0 k1 k2 hx hg
  obtain ⟨bA, oA, dA, nA, fA⟩ := hm0.dat2
  obtain ⟨bB, oB, dB, nB, fB⟩ := hm1.dat2
  obtain ⟨bW, oW, dW, nW, fW⟩ := hs.data
  clear hm0 hm1 hs
  have HW : Hid (∀ k, k < n0 → (((lstG g 0).getD k [] = [] ↔ l.getD k 0 ≠ 0) ∧ (l.getD k 0 = 0 ∨ l.getD k 0 = 1)) ∧ ((lstG g 1).getD k [] = [] ↔ l.getD k 0 ≠ 1)) := fun k hk => by
    have hk' : k < g.owner.length := by rw [HN0.out]; exact hk
    exact ⟨HF.out.won HS.out (.inl rfl) hk', (HF.out.won HS.out (.inr rfl) hk').1⟩
  generalize lstG g 0 = A at *
  generalize lstG g 1 = C at *
  have HFA := Lib.hid fA
  have HFB := Lib.hid fB
  have HFW := Lib.hid fW
  have HBB := Lib.hid hB
  clear fA fB fW hB HF HS HLL HN0
  go_wp2_with fail
  go_loopg [9] n0 (fun gh i wr => ∃ k : Nat, gh = n0 - k ∧ i = .int .i64 (k : Int) ∧ k ≤ n0 ∧ Hid (Below w6.heap.size w6 wr))
  case atStart => exact ⟨0, rfl, rfl, by omega, Below.refl _ _⟩
  case round =>
    obtain ⟨k, hgk, rfl, hk, HBx⟩ := hrel
    have HGK := Lib.hid hgk
    clear hgk
    by_cases hlt : k < n0
    · obtain rfl := dA (by omega)
      obtain rfl := dB (by omega)
      obtain rfl := dW (by omega)
      have i1 : (k : Int) < (n0 : Int) := by omega
      obtain ⟨a1, e1, cA, -⟩ := HFA.out k hlt
      obtain ⟨a2, e2, cB, -⟩ := HFB.out k hlt
      have cW := HFW.out k hlt
      replace cA := cellB HBx.out cA
      replace cB := cellB HBx.out cB
      replace cW := cellB HBx.out cW
      have hi0 : (0 : Int) ≤ (k : Int) := by omega
      have HBD : Hid (∀ W, Below wr.drew.heap.size wr.drew W → Below wr.heap.size wr W) := fun W h => (Below.drew (B := wr.heap.size) (Below.refl _ _)).trans h
      obtain ⟨⟨hA, hw⟩, hC⟩ := HW.out k hlt
      generalize A.getD k [] = rA at *
      generalize C.getD k [] = rC at *
      generalize l.getD k 0 = z at *
      rcases hw with rfl | rfl
      · have tA : ((rA.length : Int) == 0) = false := by
          rw [beq_eq_false_iff_ne]
          intro e
          have : rA = [] := List.length_eq_zero_iff.1 (by omega)
          exact hA.1 this rfl
        have tB : ((rC.length : Int) == 0) = true := by
          rw [hC.2 (by decide)]; rfl
        clear hA hC
        generalize rA.length = x at *
        generalize rC.length = y at *
        have HTA : Hid (∀ W a e, Calls Try.prog 24 #[.slice a x e] W (Calm (.bool false) W)) := fun W a e => (Top_c W a x e _ tA).mono fun _ _ h => ⟨h.1, by rw [h.2]; exact Below.refl _ _⟩
        have HTB : Hid (∀ W a e, Calls Try.prog 24 #[.slice a y e] W (Calm (.bool true) W)) := fun W a e => (Top_c W a y e _ tB).mono fun _ _ h => ⟨h.1, by rw [h.2]; exact Below.refl _ _⟩
        clear tA tB
        have HCl : Hid (∀ W, Below wr.drew.heap.size wr.drew W → W.cell? ⟨bA, oA + k, none⟩ = some (.slice a1 x e1) ∧ W.cell? ⟨bB, oB + k, none⟩ = some (.slice a2 y e2) ∧ W.cell? ⟨bW, oW + k, none⟩ = some (.int .i64 0)) := fun W h => ⟨cellB (HBD.out W h) cA, cellB (HBD.out W h) cB, cellB (HBD.out W h) cW⟩
        clear cA cB cW
        go_upto_region 12 with (fail)
        refine region_stable hmx (RWa bA oA bB oB bW oW n0 c3 c4 c5 k a1 a2 x y e1 e2) (fun vs => { tmps := (_ :: _ :: _ :: _ :: _ :: _ :: _ :: _ :: _ :: _ :: _ :: _ :: _ :: _ :: _ :: _ :: _ :: _ :: _ :: _ :: _ :: _ :: _ :: _ :: _ :: _ :: _ :: _ :: _ :: _ :: _ :: _ :: _ :: _ :: _ :: _ :: _ :: _ :: _ :: _ :: _ :: _ :: _ :: _ :: _ :: _ :: _ :: _ :: _ :: _ :: _ :: _ :: _ :: _ :: _ :: _ :: _ :: _ :: _ :: _ :: _ :: vs 0 :: vs 1 :: vs 2 :: vs 3 :: vs 4 :: vs 5 :: vs 6 :: vs 7 :: vs 8 :: vs 9 :: vs 10 :: vs 11 :: vs 12 :: vs 13 :: vs 14 :: vs 15 :: vs 16 :: vs 17 :: vs 18 :: vs 19 :: vs 20 :: vs 21 :: vs 22 :: vs 23 :: _ :: []).toArray, defers := _ }) (fun n => [u61, u62, u63, u64, u65, u66, u67, u68, u69, u70, u71, u72, u73, u74, u75, u76, u77, u78, u79, u80, u81, u82, u83, u84].getD n undef) rfl (by kernel_rfl) (fun _ _ _ _ h hb => h.below hb) ?step ?fin
        case step =>
          intro ix o ho
          match ix, ho with
          | 0, ho =>
            obtain rfl := Option.some.inj ho
            intro vs W K hB hD hK
            have HK := Lib.hid hK
            clear hK hD ho
            dsimp only
            go_simp
            have h := HK.out _ _ (Below.refl _ _) rfl
            simp only [upd, Nat.reduceEqDiff, reduceIte] at h
            exact h
          | 1, ho =>
            obtain rfl := Option.some.inj ho
            intro vs W K hB hD hK
            have HK := Lib.hid hK
            clear hK hD ho
            dsimp only
            go_simp
            have h := HK.out _ _ (Below.refl _ _) rfl
            simp only [upd, Nat.reduceEqDiff, reduceIte] at h
            exact h
          | 2, ho =>
            obtain rfl := Option.some.inj ho
            intro vs W K hB hD hK
            have HK := Lib.hid hK
            have e0 : vs 0 = .slice (some ⟨bA, oA, none⟩) n0 c3 := dep_of hD 0 (by rfl)
            have e1 : vs 1 = .int .i64 (k : Int) := dep_of hD 1 (by rfl)
            clear hK hD ho
            dsimp only
            go_simp
            have h := HK.out _ _ (Below.refl _ _) rfl
            simp only [upd, Nat.reduceEqDiff, reduceIte, e0, e1] at h
            exact h
          | 3, ho =>
            obtain rfl := Option.some.inj ho
            intro vs W K hB hD hK
            have HK := Lib.hid hK
            have e2 : vs 2 = .pointer (some ⟨bA, oA + k, none⟩) := dep_of hD 2 (by rfl)
            have q := (HCl.out W hB).1
            clear hK hD ho
            dsimp only
            go_simp
            have h := HK.out _ _ (Below.refl _ _) rfl
            simp only [upd, Nat.reduceEqDiff, reduceIte, e2] at h
            exact h
          | 4, ho =>
            obtain rfl := Option.some.inj ho
            intro vs W K hB hD hK
            have HK := Lib.hid hK
            have e3 : vs 3 = .slice a1 x e1 := dep_of hD 3 (by rfl)
            clear hK hD ho
            dsimp only
            go_simp
            refine (HTA.out W a1 e1).mono ?_
            rintro e W' ⟨rfl, hb⟩
            have h := HK.out _ _ hb rfl
            simp only [upd, Nat.reduceEqDiff, reduceIte, e3] at h
            exact h
          | 5, ho =>
            obtain rfl := Option.some.inj ho
            intro vs W K hB hD hK
            have HK := Lib.hid hK
            clear hK hD ho
            dsimp only
            go_simp
            have h := HK.out _ _ (Below.refl _ _) rfl
            simp only [upd, Nat.reduceEqDiff, reduceIte] at h
            exact h
          | 6, ho =>
            obtain rfl := Option.some.inj ho
            intro vs W K hB hD hK
            have HK := Lib.hid hK
            clear hK hD ho
            dsimp only
            go_simp
            have h := HK.out _ _ (Below.refl _ _) rfl
            simp only [upd, Nat.reduceEqDiff, reduceIte] at h
            exact h
          | 7, ho =>
            obtain rfl := Option.some.inj ho
            intro vs W K hB hD hK
            have HK := Lib.hid hK
            have e5 : vs 5 = .slice (some ⟨bB, oB, none⟩) n0 c4 := dep_of hD 5 (by rfl)
            have e6 : vs 6 = .int .i64 (k : Int) := dep_of hD 6 (by rfl)
            clear hK hD ho
            dsimp only
            go_simp
            have h := HK.out _ _ (Below.refl _ _) rfl
            simp only [upd, Nat.reduceEqDiff, reduceIte, e5, e6] at h
            exact h
          | 8, ho =>
            obtain rfl := Option.some.inj ho
            intro vs W K hB hD hK
            have HK := Lib.hid hK
            have e7 : vs 7 = .pointer (some ⟨bB, oB + k, none⟩) := dep_of hD 7 (by rfl)
            have q := (HCl.out W hB).2.1
            clear hK hD ho
            dsimp only
            go_simp
            have h := HK.out _ _ (Below.refl _ _) rfl
            simp only [upd, Nat.reduceEqDiff, reduceIte, e7] at h
            exact h
          | 9, ho =>
            obtain rfl := Option.some.inj ho
            intro vs W K hB hD hK
            have HK := Lib.hid hK
            have e8 : vs 8 = .slice a2 y e2 := dep_of hD 8 (by rfl)
            clear hK hD ho
            dsimp only
            go_simp
            refine (HTB.out W a2 e2).mono ?_
            rintro e W' ⟨rfl, hb⟩
            have h := HK.out _ _ hb rfl
            simp only [upd, Nat.reduceEqDiff, reduceIte, e8] at h
            exact h
          | 10, ho =>
            obtain rfl := Option.some.inj ho
            intro vs W K hB hD hK
            have HK := Lib.hid hK
            have e4 : vs 4 = .bool false := dep_of hD 4 (by rfl)
            have e9 : vs 9 = .bool true := dep_of hD 9 (by rfl)
            clear hK hD ho
            dsimp only
            go_simp
            have h := HK.out _ _ (Below.refl _ _) rfl
            simp only [upd, Nat.reduceEqDiff, reduceIte, e4, e9] at h
            exact h
          | 11, ho =>
            obtain rfl := Option.some.inj ho
            intro vs W K hB hD hK
            have HK := Lib.hid hK
            have e10 : vs 10 = .bool false := dep_of hD 10 (by rfl)
            clear hK hD ho
            dsimp only
            go_simp
            have h := HK.out _ _ (Below.refl _ _) rfl
            simp only [upd, Nat.reduceEqDiff, reduceIte, e10] at h
            exact h
          | 12, ho =>
            obtain rfl := Option.some.inj ho
            intro vs W K hB hD hK
            have HK := Lib.hid hK
            have e11 : vs 11 = .bool false := dep_of hD 11 (by rfl)
            clear hK hD ho
            dsimp only
            go_simp
            have h := HK.out _ _ (Below.refl _ _) rfl
            simp only [upd, Nat.reduceEqDiff, reduceIte, e11] at h
            exact h
          | 13, ho =>
            obtain rfl := Option.some.inj ho
            intro vs W K hB hD hK
            have HK := Lib.hid hK
            have e11 : vs 11 = .bool false := dep_of hD 11 (by rfl)
            clear hK hD ho
            dsimp only
            go_simp
            have h := HK.out _ _ (Below.refl _ _) rfl
            simp only [upd, Nat.reduceEqDiff, reduceIte, e11] at h
            exact h
          | 14, ho =>
            obtain rfl := Option.some.inj ho
            intro vs W K hB hD hK
            have HK := Lib.hid hK
            have e11 : vs 11 = .bool false := dep_of hD 11 (by rfl)
            have e12 : vs 12 = .slice (some ⟨bA, oA, none⟩) n0 c3 := dep_of hD 12 (by rfl)
            have e13 : vs 13 = .int .i64 (k : Int) := dep_of hD 13 (by rfl)
            clear hK hD ho
            dsimp only
            go_simp
            have h := HK.out _ _ (Below.refl _ _) rfl
            simp only [upd, Nat.reduceEqDiff, reduceIte, e11, e12, e13] at h
            exact h
          | 15, ho =>
            obtain rfl := Option.some.inj ho
            intro vs W K hB hD hK
            have HK := Lib.hid hK
            have e11 : vs 11 = .bool false := dep_of hD 11 (by rfl)
            have e14 : vs 14 = .pointer (some ⟨bA, oA + k, none⟩) := dep_of hD 14 (by rfl)
            have q := (HCl.out W hB).1
            clear hK hD ho
            dsimp only
            go_simp
            have h := HK.out _ _ (Below.refl _ _) rfl
            simp only [upd, Nat.reduceEqDiff, reduceIte, e11, e14] at h
            exact h
          | 16, ho =>
            obtain rfl := Option.some.inj ho
            intro vs W K hB hD hK
            have HK := Lib.hid hK
            have e11 : vs 11 = .bool false := dep_of hD 11 (by rfl)
            have e15 : vs 15 = .slice a1 x e1 := dep_of hD 15 (by rfl)
            clear hK hD ho
            dsimp only
            go_simp
            refine (HTA.out W a1 e1).mono ?_
            rintro e W' ⟨rfl, hb⟩
            have h := HK.out _ _ hb rfl
            simp only [upd, Nat.reduceEqDiff, reduceIte, e11, e15] at h
            exact h
          | 17, ho =>
            obtain rfl := Option.some.inj ho
            intro vs W K hB hD hK
            have HK := Lib.hid hK
            have e11 : vs 11 = .bool false := dep_of hD 11 (by rfl)
            clear hK hD ho
            dsimp only
            go_simp
            have h := HK.out _ _ (Below.refl _ _) rfl
            simp only [upd, Nat.reduceEqDiff, reduceIte, e11] at h
            exact h
          | 18, ho =>
            obtain rfl := Option.some.inj ho
            intro vs W K hB hD hK
            have HK := Lib.hid hK
            have e11 : vs 11 = .bool false := dep_of hD 11 (by rfl)
            clear hK hD ho
            dsimp only
            go_simp
            have h := HK.out _ _ (Below.refl _ _) rfl
            simp only [upd, Nat.reduceEqDiff, reduceIte, e11] at h
            exact h
          | 19, ho =>
            obtain rfl := Option.some.inj ho
            intro vs W K hB hD hK
            have HK := Lib.hid hK
            have e11 : vs 11 = .bool false := dep_of hD 11 (by rfl)
            have e17 : vs 17 = .slice (some ⟨bW, oW, none⟩) n0 c5 := dep_of hD 17 (by rfl)
            have e18 : vs 18 = .int .i64 (k : Int) := dep_of hD 18 (by rfl)
            clear hK hD ho
            dsimp only
            go_simp
            have h := HK.out _ _ (Below.refl _ _) rfl
            simp only [upd, Nat.reduceEqDiff, reduceIte, e11, e17, e18] at h
            exact h
          | 20, ho =>
            obtain rfl := Option.some.inj ho
            intro vs W K hB hD hK
            have HK := Lib.hid hK
            have e11 : vs 11 = .bool false := dep_of hD 11 (by rfl)
            have e19 : vs 19 = .pointer (some ⟨bW, oW + k, none⟩) := dep_of hD 19 (by rfl)
            have q := (HCl.out W hB).2.2
            clear hK hD ho
            dsimp only
            go_simp
            have h := HK.out _ _ (Below.refl _ _) rfl
            simp only [upd, Nat.reduceEqDiff, reduceIte, e11, e19] at h
            exact h
          | 21, ho =>
            obtain rfl := Option.some.inj ho
            intro vs W K hB hD hK
            have HK := Lib.hid hK
            have e11 : vs 11 = .bool false := dep_of hD 11 (by rfl)
            have e20 : vs 20 = .int .i64 0 := dep_of hD 20 (by rfl)
            clear hK hD ho
            dsimp only
            go_simp
            have h := HK.out _ _ (Below.refl _ _) rfl
            simp only [upd, Nat.reduceEqDiff, reduceIte, e11, e20] at h
            exact h
          | 22, ho =>
            obtain rfl := Option.some.inj ho
            intro vs W K hB hD hK
            have HK := Lib.hid hK
            have e11 : vs 11 = .bool false := dep_of hD 11 (by rfl)
            have e16 : vs 16 = .bool false := dep_of hD 16 (by rfl)
            have e21 : vs 21 = .bool false := dep_of hD 21 (by rfl)
            clear hK hD ho
            dsimp only
            go_simp
            have h := HK.out _ _ (Below.refl _ _) rfl
            simp only [upd, Nat.reduceEqDiff, reduceIte, e11, e16, e21] at h
            exact h
          | 23, ho =>
            obtain rfl := Option.some.inj ho
            intro vs W K hB hD hK
            have HK := Lib.hid hK
            have e11 : vs 11 = .bool false := dep_of hD 11 (by rfl)
            have e22 : vs 22 = .bool false := dep_of hD 22 (by rfl)
            clear hK hD ho
            dsimp only
            go_simp
            have h := HK.out _ _ (Below.refl _ _) rfl
            simp only [upd, Nat.reduceEqDiff, reduceIte, e11, e22] at h
            exact h
          | q + 24, ho => exact absurd ho (by simp)
        case fin =>
          intro vs wz hB hall
          have e23 : vs 23 = .bool false := hall 23 (by decide)
          have HB3 := Lib.hid (HBx.out.trans ((HBD.out _ hB).mono HBx.out.size))
          clear hall hB HCl HTA HTB
          rw [e23]
          clear e23
          generalize vs 0 = z0q
          generalize vs 1 = z1q
          generalize vs 2 = z2q
          generalize vs 3 = z3q
          generalize vs 4 = z4q
          generalize vs 5 = z5q
          generalize vs 6 = z6q
          generalize vs 7 = z7q
          generalize vs 8 = z8q
          generalize vs 9 = z9q
          generalize vs 10 = z10q
          generalize vs 11 = z11q
          generalize vs 12 = z12q
          generalize vs 13 = z13q
          generalize vs 14 = z14q
          generalize vs 15 = z15q
          generalize vs 16 = z16q
          generalize vs 17 = z17q
          generalize vs 18 = z18q
          generalize vs 19 = z19q
          generalize vs 20 = z20q
          generalize vs 21 = z21q
          generalize vs 22 = z22q
          clear vs
          go_wp2
          go_roundg (n0 - (k + 1))
          case measure => have := HGK.out; omega
          case rel => exact ⟨k + 1, rfl, by go_num, by omega, HB3⟩
      · have tA : ((rA.length : Int) == 0) = true := by
          rw [hA.2 (by decide)]; rfl
        have tB : ((rC.length : Int) == 0) = false := by
          rw [beq_eq_false_iff_ne]
          intro e
          have : rC = [] := List.length_eq_zero_iff.1 (by omega)
          exact hC.1 this rfl
        clear hA hC
        generalize rA.length = x at *
        generalize rC.length = y at *
        have HTA : Hid (∀ W a e, Calls Try.prog 24 #[.slice a x e] W (Calm (.bool true) W)) := fun W a e => (Top_c W a x e _ tA).mono fun _ _ h => ⟨h.1, by rw [h.2]; exact Below.refl _ _⟩
        have HTB : Hid (∀ W a e, Calls Try.prog 24 #[.slice a y e] W (Calm (.bool false) W)) := fun W a e => (Top_c W a y e _ tB).mono fun _ _ h => ⟨h.1, by rw [h.2]; exact Below.refl _ _⟩
        clear tA tB
        have HCl : Hid (∀ W, Below wr.drew.heap.size wr.drew W → W.cell? ⟨bA, oA + k, none⟩ = some (.slice a1 x e1) ∧ W.cell? ⟨bB, oB + k, none⟩ = some (.slice a2 y e2) ∧ W.cell? ⟨bW, oW + k, none⟩ = some (.int .i64 1)) := fun W h => ⟨cellB (HBD.out W h) cA, cellB (HBD.out W h) cB, cellB (HBD.out W h) cW⟩
        clear cA cB cW
        go_upto_region 12 with (fail)
        refine region_stable hmx (RWb bA oA bB oB bW oW n0 c3 c4 c5 k a1 a2 x y e1 e2) (fun vs => { tmps := (_ :: _ :: _ :: _ :: _ :: _ :: _ :: _ :: _ :: _ :: _ :: _ :: _ :: _ :: _ :: _ :: _ :: _ :: _ :: _ :: _ :: _ :: _ :: _ :: _ :: _ :: _ :: _ :: _ :: _ :: _ :: _ :: _ :: _ :: _ :: _ :: _ :: _ :: _ :: _ :: _ :: _ :: _ :: _ :: _ :: _ :: _ :: _ :: _ :: _ :: _ :: _ :: _ :: _ :: _ :: _ :: _ :: _ :: _ :: _ :: _ :: vs 0 :: vs 1 :: vs 2 :: vs 3 :: vs 4 :: vs 5 :: vs 6 :: vs 7 :: vs 8 :: vs 9 :: vs 10 :: vs 11 :: vs 12 :: vs 13 :: vs 14 :: vs 15 :: vs 16 :: vs 17 :: vs 18 :: vs 19 :: vs 20 :: vs 21 :: vs 22 :: vs 23 :: _ :: []).toArray, defers := _ }) (fun n => [u61, u62, u63, u64, u65, u66, u67, u68, u69, u70, u71, u72, u73, u74, u75, u76, u77, u78, u79, u80, u81, u82, u83, u84].getD n undef) rfl (by kernel_rfl) (fun _ _ _ _ h hb => h.below hb) ?step ?fin
        case step =>
          intro ix o ho
          match ix, ho with
          | 0, ho =>
            obtain rfl := Option.some.inj ho
            intro vs W K hB hD hK
            have HK := Lib.hid hK
            clear hK hD ho
            dsimp only
            go_simp
            have h := HK.out _ _ (Below.refl _ _) rfl
            simp only [upd, Nat.reduceEqDiff, reduceIte] at h
            exact h
          | 1, ho =>
            obtain rfl := Option.some.inj ho
            intro vs W K hB hD hK
            have HK := Lib.hid hK
            clear hK hD ho
            dsimp only
            go_simp
            have h := HK.out _ _ (Below.refl _ _) rfl
            simp only [upd, Nat.reduceEqDiff, reduceIte] at h
            exact h
          | 2, ho =>
            obtain rfl := Option.some.inj ho
            intro vs W K hB hD hK
            have HK := Lib.hid hK
            have e0 : vs 0 = .slice (some ⟨bA, oA, none⟩) n0 c3 := dep_of hD 0 (by rfl)
            have e1 : vs 1 = .int .i64 (k : Int) := dep_of hD 1 (by rfl)
            clear hK hD ho
            dsimp only
            go_simp
            have h := HK.out _ _ (Below.refl _ _) rfl
            simp only [upd, Nat.reduceEqDiff, reduceIte, e0, e1] at h
            exact h
          | 3, ho =>
            obtain rfl := Option.some.inj ho
            intro vs W K hB hD hK
            have HK := Lib.hid hK
            have e2 : vs 2 = .pointer (some ⟨bA, oA + k, none⟩) := dep_of hD 2 (by rfl)
            have q := (HCl.out W hB).1
            clear hK hD ho
            dsimp only
            go_simp
            have h := HK.out _ _ (Below.refl _ _) rfl
            simp only [upd, Nat.reduceEqDiff, reduceIte, e2] at h
            exact h
          | 4, ho =>
            obtain rfl := Option.some.inj ho
            intro vs W K hB hD hK
            have HK := Lib.hid hK
            have e3 : vs 3 = .slice a1 x e1 := dep_of hD 3 (by rfl)
            clear hK hD ho
            dsimp only
            go_simp
            refine (HTA.out W a1 e1).mono ?_
            rintro e W' ⟨rfl, hb⟩
            have h := HK.out _ _ hb rfl
            simp only [upd, Nat.reduceEqDiff, reduceIte, e3] at h
            exact h
          | 5, ho =>
            obtain rfl := Option.some.inj ho
            intro vs W K hB hD hK
            have HK := Lib.hid hK
            clear hK hD ho
            dsimp only
            go_simp
            have h := HK.out _ _ (Below.refl _ _) rfl
            simp only [upd, Nat.reduceEqDiff, reduceIte] at h
            exact h
          | 6, ho =>
            obtain rfl := Option.some.inj ho
            intro vs W K hB hD hK
            have HK := Lib.hid hK
            clear hK hD ho
            dsimp only
            go_simp
            have h := HK.out _ _ (Below.refl _ _) rfl
            simp only [upd, Nat.reduceEqDiff, reduceIte] at h
            exact h
          | 7, ho =>
            obtain rfl := Option.some.inj ho
            intro vs W K hB hD hK
            have HK := Lib.hid hK
            have e5 : vs 5 = .slice (some ⟨bB, oB, none⟩) n0 c4 := dep_of hD 5 (by rfl)
            have e6 : vs 6 = .int .i64 (k : Int) := dep_of hD 6 (by rfl)
            clear hK hD ho
            dsimp only
            go_simp
            have h := HK.out _ _ (Below.refl _ _) rfl
            simp only [upd, Nat.reduceEqDiff, reduceIte, e5, e6] at h
            exact h
          | 8, ho =>
            obtain rfl := Option.some.inj ho
            intro vs W K hB hD hK
            have HK := Lib.hid hK
            have e7 : vs 7 = .pointer (some ⟨bB, oB + k, none⟩) := dep_of hD 7 (by rfl)
            have q := (HCl.out W hB).2.1
            clear hK hD ho
            dsimp only
            go_simp
            have h := HK.out _ _ (Below.refl _ _) rfl
            simp only [upd, Nat.reduceEqDiff, reduceIte, e7] at h
            exact h
          | 9, ho =>
            obtain rfl := Option.some.inj ho
            intro vs W K hB hD hK
            have HK := Lib.hid hK
            have e8 : vs 8 = .slice a2 y e2 := dep_of hD 8 (by rfl)
            clear hK hD ho
            dsimp only
            go_simp
            refine (HTB.out W a2 e2).mono ?_
            rintro e W' ⟨rfl, hb⟩
            have h := HK.out _ _ hb rfl
            simp only [upd, Nat.reduceEqDiff, reduceIte, e8] at h
            exact h
          | 10, ho =>
            obtain rfl := Option.some.inj ho
            intro vs W K hB hD hK
            have HK := Lib.hid hK
            have e4 : vs 4 = .bool true := dep_of hD 4 (by rfl)
            have e9 : vs 9 = .bool false := dep_of hD 9 (by rfl)
            clear hK hD ho
            dsimp only
            go_simp
            have h := HK.out _ _ (Below.refl _ _) rfl
            simp only [upd, Nat.reduceEqDiff, reduceIte, e4, e9] at h
            exact h
          | 11, ho =>
            obtain rfl := Option.some.inj ho
            intro vs W K hB hD hK
            have HK := Lib.hid hK
            have e10 : vs 10 = .bool false := dep_of hD 10 (by rfl)
            clear hK hD ho
            dsimp only
            go_simp
            have h := HK.out _ _ (Below.refl _ _) rfl
            simp only [upd, Nat.reduceEqDiff, reduceIte, e10] at h
            exact h
          | 12, ho =>
            obtain rfl := Option.some.inj ho
            intro vs W K hB hD hK
            have HK := Lib.hid hK
            have e11 : vs 11 = .bool false := dep_of hD 11 (by rfl)
            clear hK hD ho
            dsimp only
            go_simp
            have h := HK.out _ _ (Below.refl _ _) rfl
            simp only [upd, Nat.reduceEqDiff, reduceIte, e11] at h
            exact h
          | 13, ho =>
            obtain rfl := Option.some.inj ho
            intro vs W K hB hD hK
            have HK := Lib.hid hK
            have e11 : vs 11 = .bool false := dep_of hD 11 (by rfl)
            clear hK hD ho
            dsimp only
            go_simp
            have h := HK.out _ _ (Below.refl _ _) rfl
            simp only [upd, Nat.reduceEqDiff, reduceIte, e11] at h
            exact h
          | 14, ho =>
            obtain rfl := Option.some.inj ho
            intro vs W K hB hD hK
            have HK := Lib.hid hK
            have e11 : vs 11 = .bool false := dep_of hD 11 (by rfl)
            have e12 : vs 12 = .slice (some ⟨bA, oA, none⟩) n0 c3 := dep_of hD 12 (by rfl)
            have e13 : vs 13 = .int .i64 (k : Int) := dep_of hD 13 (by rfl)
            clear hK hD ho
            dsimp only
            go_simp
            have h := HK.out _ _ (Below.refl _ _) rfl
            simp only [upd, Nat.reduceEqDiff, reduceIte, e11, e12, e13] at h
            exact h
          | 15, ho =>
            obtain rfl := Option.some.inj ho
            intro vs W K hB hD hK
            have HK := Lib.hid hK
            have e11 : vs 11 = .bool false := dep_of hD 11 (by rfl)
            have e14 : vs 14 = .pointer (some ⟨bA, oA + k, none⟩) := dep_of hD 14 (by rfl)
            have q := (HCl.out W hB).1
            clear hK hD ho
            dsimp only
            go_simp
            have h := HK.out _ _ (Below.refl _ _) rfl
            simp only [upd, Nat.reduceEqDiff, reduceIte, e11, e14] at h
            exact h
          | 16, ho =>
            obtain rfl := Option.some.inj ho
            intro vs W K hB hD hK
            have HK := Lib.hid hK
            have e11 : vs 11 = .bool false := dep_of hD 11 (by rfl)
            have e15 : vs 15 = .slice a1 x e1 := dep_of hD 15 (by rfl)
            clear hK hD ho
            dsimp only
            go_simp
            refine (HTA.out W a1 e1).mono ?_
            rintro e W' ⟨rfl, hb⟩
            have h := HK.out _ _ hb rfl
            simp only [upd, Nat.reduceEqDiff, reduceIte, e11, e15] at h
            exact h
          | 17, ho =>
            obtain rfl := Option.some.inj ho
            intro vs W K hB hD hK
            have HK := Lib.hid hK
            have e11 : vs 11 = .bool false := dep_of hD 11 (by rfl)
            clear hK hD ho
            dsimp only
            go_simp
            have h := HK.out _ _ (Below.refl _ _) rfl
            simp only [upd, Nat.reduceEqDiff, reduceIte, e11] at h
            exact h
          | 18, ho =>
            obtain rfl := Option.some.inj ho
            intro vs W K hB hD hK
            have HK := Lib.hid hK
            have e11 : vs 11 = .bool false := dep_of hD 11 (by rfl)
            clear hK hD ho
            dsimp only
            go_simp
            have h := HK.out _ _ (Below.refl _ _) rfl
            simp only [upd, Nat.reduceEqDiff, reduceIte, e11] at h
            exact h
          | 19, ho =>
            obtain rfl := Option.some.inj ho
            intro vs W K hB hD hK
            have HK := Lib.hid hK
            have e11 : vs 11 = .bool false := dep_of hD 11 (by rfl)
            have e17 : vs 17 = .slice (some ⟨bW, oW, none⟩) n0 c5 := dep_of hD 17 (by rfl)
            have e18 : vs 18 = .int .i64 (k : Int) := dep_of hD 18 (by rfl)
            clear hK hD ho
            dsimp only
            go_simp
            have h := HK.out _ _ (Below.refl _ _) rfl
            simp only [upd, Nat.reduceEqDiff, reduceIte, e11, e17, e18] at h
            exact h
          | 20, ho =>
            obtain rfl := Option.some.inj ho
            intro vs W K hB hD hK
            have HK := Lib.hid hK
            have e11 : vs 11 = .bool false := dep_of hD 11 (by rfl)
            have e19 : vs 19 = .pointer (some ⟨bW, oW + k, none⟩) := dep_of hD 19 (by rfl)
            have q := (HCl.out W hB).2.2
            clear hK hD ho
            dsimp only
            go_simp
            have h := HK.out _ _ (Below.refl _ _) rfl
            simp only [upd, Nat.reduceEqDiff, reduceIte, e11, e19] at h
            exact h
          | 21, ho =>
            obtain rfl := Option.some.inj ho
            intro vs W K hB hD hK
            have HK := Lib.hid hK
            have e11 : vs 11 = .bool false := dep_of hD 11 (by rfl)
            have e20 : vs 20 = .int .i64 1 := dep_of hD 20 (by rfl)
            clear hK hD ho
            dsimp only
            go_simp
            have h := HK.out _ _ (Below.refl _ _) rfl
            simp only [upd, Nat.reduceEqDiff, reduceIte, e11, e20] at h
            exact h
          | 22, ho =>
            obtain rfl := Option.some.inj ho
            intro vs W K hB hD hK
            have HK := Lib.hid hK
            have e11 : vs 11 = .bool false := dep_of hD 11 (by rfl)
            have e16 : vs 16 = .bool true := dep_of hD 16 (by rfl)
            have e21 : vs 21 = .bool true := dep_of hD 21 (by rfl)
            clear hK hD ho
            dsimp only
            go_simp
            have h := HK.out _ _ (Below.refl _ _) rfl
            simp only [upd, Nat.reduceEqDiff, reduceIte, e11, e16, e21] at h
            exact h
          | 23, ho =>
            obtain rfl := Option.some.inj ho
            intro vs W K hB hD hK
            have HK := Lib.hid hK
            have e11 : vs 11 = .bool false := dep_of hD 11 (by rfl)
            have e22 : vs 22 = .bool false := dep_of hD 22 (by rfl)
            clear hK hD ho
            dsimp only
            go_simp
            have h := HK.out _ _ (Below.refl _ _) rfl
            simp only [upd, Nat.reduceEqDiff, reduceIte, e11, e22] at h
            exact h
          | q + 24, ho => exact absurd ho (by simp)
        case fin =>
          intro vs wz hB hall
          have e23 : vs 23 = .bool false := hall 23 (by decide)
          have HB3 := Lib.hid (HBx.out.trans ((HBD.out _ hB).mono HBx.out.size))
          clear hall hB HCl HTA HTB
          rw [e23]
          clear e23
          generalize vs 0 = z0q
          generalize vs 1 = z1q
          generalize vs 2 = z2q
          generalize vs 3 = z3q
          generalize vs 4 = z4q
          generalize vs 5 = z5q
          generalize vs 6 = z6q
          generalize vs 7 = z7q
          generalize vs 8 = z8q
          generalize vs 9 = z9q
          generalize vs 10 = z10q
          generalize vs 11 = z11q
          generalize vs 12 = z12q
          generalize vs 13 = z13q
          generalize vs 14 = z14q
          generalize vs 15 = z15q
          generalize vs 16 = z16q
          generalize vs 17 = z17q
          generalize vs 18 = z18q
          generalize vs 19 = z19q
          generalize vs 20 = z20q
          generalize vs 21 = z21q
          generalize vs 22 = z22q
          clear vs
          go_wp2
          go_roundg (n0 - (k + 1))
          case measure => have := HGK.out; omega
          case rel => exact ⟨k + 1, rfl, by go_num, by omega, HB3⟩
    · have i1 : ¬ (k : Int) < (n0 : Int) := by omega
      go_wp2
      go_ret
      exact ⟨rfl, HBB.out.trans (HBx.out.mono HBB.out.size)⟩

end Go.Proofs.Ytijkjhcigdfdgaa
