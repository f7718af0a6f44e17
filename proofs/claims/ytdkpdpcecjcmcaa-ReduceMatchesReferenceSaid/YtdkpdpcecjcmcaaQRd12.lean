/- What newFlow makes. -/
import Derived.Test.YtdkpdpcecjcmcaaQRd11
namespace Go.Proofs.Ytdkpdpcecjcmcaa
open Go.RowKit

/-- The moves of the first s states, and x of the next one. -/
def mvsU (k s x : Nat) : List Mv := ((List.range s).flatMap fun i => (List.range k).map fun j => (i, j)) ++ (List.range x).map fun j => (s, j)
theorem mvsU_x (k s x : Nat) : mvsU k s (x + 1) = mvsU k s x ++ [(s, x)] := by simp [mvsU, List.range_succ]
theorem mvsU_s (k s : Nat) : mvsU k s k = mvsU k (s + 1) 0 := by simp [mvsU, List.range_succ]
theorem mvsU_len (k s x : Nat) : (mvsU k s x).length = s * k + x := by
  unfold mvsU
  rw [List.length_append, List.length_map, List.length_range]
  congr 1
  induction s with
  | zero => simp
  | succ s ih => rw [List.range_succ, List.flatMap_append, List.length_append, ih]; simp [Nat.succ_mul]
theorem mvsU_mem {k s : Nat} {m : Mv} : m ∈ mvsU k s 0 ↔ m.1 < s ∧ m.2 < k := by
  unfold mvsU
  simp only [List.range_zero, List.map_nil, List.append_nil, List.mem_flatMap, List.mem_range, List.mem_map]
  constructor
  · rintro ⟨i, hi, j, hj, rfl⟩; exact ⟨hi, hj⟩
  · rintro ⟨h1, h2⟩; exact ⟨m.1, h1, m.2, h2, rfl⟩

def rowsG (n k s : Nat) (G : Nat → Nat) : Array Value := ((List.range n).map fun j => if j < s then Value.slice (some ⟨G j, 0, none⟩) k k else .slice none 0 0).toArray
theorem rowsG_at {n k s : Nat} {G : Nat → Nat} {j : Nat} (hj : j < n) (h : s ≤ j) : (rowsG n k s G)[j]? = some (.slice none 0 0) := by
  simp [rowsG, hj, Nat.not_lt.2 h]
theorem rowsG_set (n k s g : Nat) (G : Nat → Nat) : (rowsG n k s G).setIfInBounds s (.slice (some ⟨g, 0, none⟩) k k) = rowsG n k (s + 1) (fun j => if j = s then g else G j) := by
  apply Array.ext (by simp [rowsG])
  intro i h1 h2
  have hi : i < n := by simpa [rowsG] using h2
  rw [Array.getElem_setIfInBounds (by simpa [rowsG] using hi)]
  simp only [rowsG, List.getElem_toArray, List.getElem_map, List.getElem_range]
  by_cases e : s = i
  · subst e; simp
  · rw [if_neg e]
    by_cases h3 : i < s
    · rw [if_pos h3, if_pos (by omega), if_neg (by omega)]
    · rw [if_neg h3, if_neg (by omega)]
theorem rowsG_zero (n k : Nat) (G : Nat → Nat) : rowsG n k 0 G = madeCells #[.slice none 0 0] n := by
  apply Array.ext'
  rw [toList_madeCells_one]
  apply List.ext_getElem (by simp [rowsG])
  intro i h1 h2
  simp [rowsG]
/-- While the rows of the sets are made. -/
structure NL (B1 : Nat) (W : World) (lt st : Int) (vN vP : Value) (n k fb sb pb ib lb s : Nat) (G : Nat → Nat) (v : Value) (l : List Mv) : Prop where
  f : W.heap[fb]? = some (.cells (mkV lt st vN vP (.slice (some ⟨sb, 0, none⟩) n n) (.slice (some ⟨pb, 0, none⟩) n n) (.slice (some ⟨ib, 0, none⟩) n n) (.slice (some ⟨lb, 0, none⟩) n n)) 81 (0, 0))
  sr : W.heap[sb]? = some (.cells (rowsG n k s G) 29 (0, 0))
  pa : NF W pb n fun _ => 0
  ia : NF W ib n fun _ => 0
  la : NF W lb n fun _ => 0
  r : ∀ j, j < s → NF W (G j) k (fun _ => 0) ∧ B1 ≤ G j
  inj : ∀ i j, i < s → j < s → G i = G j → i = j
  o : OM W B1 v l
  oa : ∀ j, j < s → ¬ v.ownBlock = some (G j)
  z : B1 ≤ W.heap.size
  lo : fb < B1 ∧ sb < B1 ∧ pb < B1 ∧ ib < B1 ∧ lb < B1
section
variable {B1 : Nat} {W W' : World} {lt st : Int} {vN vP : Value} {n k fb sb pb ib lb s : Nat} {G : Nat → Nat} {v v' : Value} {l : List Mv}
theorem NL.below (h : NL B1 W lt st vN vP n k fb sb pb ib lb s G v l) (hb : Below W.heap.size W W') : NL B1 W' lt st vN vP n k fb sb pb ib lb s G v l :=
  ⟨(hb.block _ (Array.getElem?_eq_some_iff.1 h.f).1).trans h.f, (hb.block _ (Array.getElem?_eq_some_iff.1 h.sr).1).trans h.sr, h.pa.below hb, h.ia.below hb, h.la.below hb, fun j hj => ⟨(h.r j hj).1.below hb, (h.r j hj).2⟩, h.inj, h.o.below hb, h.oa, Nat.le_trans h.z hb.size, h.lo⟩
theorem NL.app (h : NL B1 W lt st vN vP n k fb sb pb ib lb s G v l) {y : Mv} (h1 : OM W' B1 v' (l ++ [y])) (hg : W.grownBy W' v.ownBlock) (hm : Moved W v v') : NL B1 W' lt st vN vP n k fb sb pb ib lb s G v' (l ++ [y]) := by
  have ho : Only (fun q => v.ownBlock = some q) W W' := Only.of_grown hg
  have hno : ∀ q, q < B1 → ¬ v.ownBlock = some q := fun q hq e => by have := h.o.ge q e; omega
  refine ⟨(ho.block _ (Array.getElem?_eq_some_iff.1 h.f).1 (hno _ h.lo.1)).trans h.f, (ho.block _ (Array.getElem?_eq_some_iff.1 h.sr).1 (hno _ h.lo.2.1)).trans h.sr, h.pa.only ho (hno _ h.lo.2.2.1), h.ia.only ho (hno _ h.lo.2.2.2.1), h.la.only ho (hno _ h.lo.2.2.2.2), fun j hj => ⟨(h.r j hj).1.only ho (h.oa j hj), (h.r j hj).2⟩, h.inj, h1, fun j hj e => ?_, Nat.le_trans h.z ho.size, h.lo⟩
  rcases hm _ e with k | k
  · exact h.oa j hj k
  · have := (h.r j hj).1.lt; omega
theorem NL.row (h : NL B1 W lt st vN vP n k fb sb pb ib lb s G v l) (hb : sb ≠ fb ∧ sb ≠ pb ∧ sb ≠ ib ∧ sb ≠ lb) : NL B1 ((W.alloc (.cells (madeCells #[.int .i64 0] k) 3)).setCell ⟨sb, s, none⟩ (.slice (some ⟨W.heap.size, 0, none⟩) k k)) lt st vN vP n k fb sb pb ib lb (s + 1) (fun j => if j = s then W.heap.size else G j) v l := by
  have h1 := h.below (W' := W.alloc (.cells (madeCells #[.int .i64 0] k) 3)) (bel_box _)
  have hnew := heap_alloc_new W (.cells (madeCells #[.int .i64 0] k) 3)
  have hz := h.z
  have hsz : W.heap.size ≠ sb := fun e => by have := h.lo.2.1; omega
  generalize W.alloc (.cells (madeCells #[.int .i64 0] k) 3) = W1 at *
  have ho : Only (fun q => q = sb) W1 (W1.setCell ⟨sb, s, none⟩ (.slice (some ⟨W.heap.size, 0, none⟩) k k)) := Only.set _ _ _ rfl
  have hG : ∀ j, j < s + 1 → NF W1 ((fun j => if j = s then W.heap.size else G j) j) k (fun _ => 0) ∧ B1 ≤ (fun j => if j = s then W.heap.size else G j) j := fun j hj => by
    by_cases e : j = s
    · subst e
      simp only [if_pos rfl]
      exact ⟨NF.made hnew, hz⟩
    · simp only [if_neg e]
      exact h1.r j (by omega)
  have hlt : ∀ j, j < s → G j < W.heap.size := fun j hj => (h.r j hj).1.lt
  refine ⟨(ho.block _ (Array.getElem?_eq_some_iff.1 h1.f).1 (fun e => hb.1 e.symm)).trans h1.f, ?_, h1.pa.only ho (fun e => hb.2.1 e.symm), h1.ia.only ho (fun e => hb.2.2.1 e.symm), h1.la.only ho (fun e => hb.2.2.2 e.symm), fun j hj => ⟨(hG j hj).1.only ho (fun e => by have := (hG j hj).2; have := h.lo.2.1; omega), (hG j hj).2⟩, fun a b ha hb' e => ?_, h1.o.only ho (fun q hq e => by have := h1.o.ge q hq; have := h.lo.2.1; omega), fun j hj e => ?_, Nat.le_trans h1.z ho.size, h.lo⟩
  · rw [heap_setCell_same _ _ _ _ _ _ h1.sr, rowsG_set]
  · by_cases e1 : a = s <;> by_cases e2 : b = s
    · omega
    · simp only [if_pos e1, if_neg e2] at e
      have := hlt b (by omega); omega
    · simp only [if_neg e1, if_pos e2] at e
      have := hlt a (by omega); omega
    · simp only [if_neg e1, if_neg e2] at e
      exact h.inj a b (by omega) (by omega) e
  · by_cases e1 : j = s
    · simp only [if_pos e1] at e
      have := h.o.lt' _ e; omega
    · simp only [if_neg e1] at e
      exact h.oa j (by omega) e
end

theorem below_of_grown {w w' : World} {row : Option Nat} {B : Nat} (hg : w.grownBy w' row) (h : ∀ q, row = some q → B ≤ q) : B ≤ w.heap.size → Below B w w' := fun hb => (Only.of_grown hg).below B (fun q e => h q e) hb

/-- What newFlow leaves. -/
def FlowOut (w : World) (vN : Value) (k : Nat) (a : Au) (e : Ending) (w' : World) : Prop :=
  ∃ (A : Fa) (v : Value), e = .returned (.tuple #[.pointer (some ⟨A.fb, 0, none⟩), v]) ∧ (A.n = a.next.length ∧ A.k = k ∧ A.vN = vN) ∧ A.Ok w.heap.size ∧ FlM A w' (fun _ _ => 0) (fun _ _ => 0) ∧ Below w.heap.size w w' ∧
    ∀ W', Only (fun q => q < w.heap.size ∨ A.hotA q ∨ A.hotG q ∨ w'.heap.size ≤ q) w' W' → IsMvs W' v (mvsU k a.next.length 0)

set_option maxRecDepth 100000 in
set_option maxHeartbeats 8000000 in
theorem newFlow_c (w : World) (k : Nat) (vN vP : Value) (a : Au) (hN : IsRows w vN a.next) (hP : IsRows w vP a.prio) (hx : NX a.next.length k a.next) :
    Calls Try.prog 48 #[.agg #[.int .i64 a.letters, .int .i64 a.start, vN, vP]] w (FlowOut w vN k a) := by
  obtain ⟨aN, cN, bN, oN, V, rfl, hdN, hmN, hVN⟩ := hN.data
  obtain ⟨aP, cP, bP, oP, VP, rfl, -, -, -⟩ := hP.data
  have hn3 := hx.n3
  have HX := Lib.hid hx
  have HVN := Lib.hid hVN
  have HDN := Lib.hid hdN
  generalize hnn : a.next.length = n at *
  have HNN := Lib.hid hnn
  generalize a.prio.length = np at *
  have mki := fun wx => run_make_row' (P := Try.prog) 29 3 (.int .i64 0) 8 Try.underlying29 info_int rfl .i64 .i64 n (by omega) (by omega) wx
  have mkr := fun wx => run_make_row' (P := Try.prog) 22 29 (.slice none 0 0) 24 Try.underlying22 info_ints rfl .i64 .i64 n (by omega) (by omega) wx
  have hmx : Try.prog.follows .mixedOrders = true := by kernel_rfl
  have bx := heap_alloc_new w (.cells #[.int .i64 a.letters, .int .i64 a.start, .slice aN n cN, .slice aP np cP] 24)
  have hb1 : Below w.heap.size w (w.alloc (.cells #[.int .i64 a.letters, .int .i64 a.start, .slice aN n cN, .slice aP np cP] 24)) := bel_box _
  have HB1 := Lib.hid hb1
  clear hb1 hN hP hx hVN hdN hnn
  go_enter Try.func48, Try.ntmps48
  go_upto_region 2 with (fail)
  generalize w.alloc (.cells #[.int .i64 a.letters, .int .i64 a.start, .slice aN n cN, .slice aP np cP] 24) = w1 at *
  generalize hz : w.heap.size = zb at *
  have HZ := Lib.hid hz
  clear hz
  have HBox : Hid (∀ W, Below w1.heap.size w1 W → W.cell? ⟨zb, 0, none⟩ = some (.int .i64 a.letters) ∧ W.cell? ⟨zb, 1, none⟩ = some (.int .i64 a.start) ∧ W.cell? ⟨zb, 2, none⟩ = some (.slice aN n cN) ∧ W.cell? ⟨zb, 3, none⟩ = some (.slice aP np cP)) := fun W h => by
    have k := (h.block _ (Array.getElem?_eq_some_iff.1 bx).1).trans bx
    exact ⟨cell_of_row _ _ 0 _ _ _ k, cell_of_row _ _ 1 _ _ _ k, cell_of_row _ _ 2 _ _ _ k, cell_of_row _ _ 3 _ _ _ k⟩
  clear bx
  refine region_inv hmx (JN a.letters a.start (.slice aN n cN) (.slice aP np cP) n w1) (fun vs => { tmps := (_ :: _ :: _ :: _ :: _ :: vs 11 :: _ :: _ :: _ :: _ :: _ :: _ :: _ :: vs 0 :: vs 1 :: vs 2 :: vs 3 :: vs 4 :: vs 5 :: vs 6 :: vs 7 :: vs 8 :: vs 9 :: vs 10 :: _ :: _ :: _ :: _ :: _ :: _ :: _ :: _ :: _ :: _ :: _ :: _ :: _ :: _ :: _ :: _ :: _ :: _ :: _ :: _ :: _ :: _ :: _ :: _ :: _ :: _ :: _ :: _ :: _ :: _ :: _ :: _ :: []).toArray, defers := _ }) (fun _ => undef) rfl (by kernel_rfl) (JN.start w1) ?step ?fin
  case step =>
    intro ix o ho
    match ix, ho with
      | 0, ho =>
        obtain rfl := Option.some.inj ho
        intro S vs W K hSi hd hcl hJ hK
        have HK := Lib.hid hK
        have HJ := Lib.hid hJ
        have HSi := Lib.hid hSi
        have HCL := Lib.hid hcl
        obtain ⟨d0, d1, d2, d3⟩ := HBox.out W HJ.out.b
        clear hK hd hcl hJ hSi ho
        dsimp only
        go_simp
        have h := HK.out (.agg #[.int .i64 a.letters, .int .i64 a.start, .slice aN n cN, .slice aP np cP]) W (HJ.out.plain (.inl rfl) (fun _ => rfl) (fun h => absurd rfl h))
        simp only [upd, Nat.reduceEqDiff, reduceIte] at h
        exact h
      | 1, ho =>
        obtain rfl := Option.some.inj ho
        intro S vs W K hSi hd hcl hJ hK
        have HK := Lib.hid hK
        have HJ := Lib.hid hJ
        have HSi := Lib.hid hSi
        have HCL := Lib.hid hcl
        clear hK hd hcl hJ hSi ho
        dsimp only
        go_simp
        have h := HK.out (.int .i64 (n : Int)) W (HJ.out.plain (by omega) (by omega) (fun _ => rfl))
        simp only [upd, Nat.reduceEqDiff, reduceIte] at h
        exact h
      | 3, ho =>
        obtain rfl := Option.some.inj ho
        intro S vs W K hSi hd hcl hJ hK
        have HK := Lib.hid hK
        have HJ := Lib.hid hJ
        have HSi := Lib.hid hSi
        have HCL := Lib.hid hcl
        clear hK hd hcl hJ hSi ho
        dsimp only
        go_simp
        have h := HK.out (.int .i64 (n : Int)) W (HJ.out.plain (by omega) (by omega) (fun _ => rfl))
        simp only [upd, Nat.reduceEqDiff, reduceIte] at h
        exact h
      | 5, ho =>
        obtain rfl := Option.some.inj ho
        intro S vs W K hSi hd hcl hJ hK
        have HK := Lib.hid hK
        have HJ := Lib.hid hJ
        have HSi := Lib.hid hSi
        have HCL := Lib.hid hcl
        clear hK hd hcl hJ hSi ho
        dsimp only
        go_simp
        have h := HK.out (.int .i64 (n : Int)) W (HJ.out.plain (by omega) (by omega) (fun _ => rfl))
        simp only [upd, Nat.reduceEqDiff, reduceIte] at h
        exact h
      | 7, ho =>
        obtain rfl := Option.some.inj ho
        intro S vs W K hSi hd hcl hJ hK
        have HK := Lib.hid hK
        have HJ := Lib.hid hJ
        have HSi := Lib.hid hSi
        have HCL := Lib.hid hcl
        clear hK hd hcl hJ hSi ho
        dsimp only
        go_simp
        have h := HK.out (.int .i64 (n : Int)) W (HJ.out.plain (by omega) (by omega) (fun _ => rfl))
        simp only [upd, Nat.reduceEqDiff, reduceIte] at h
        exact h
      | 2, ho =>
        obtain rfl := Option.some.inj ho
        intro S vs W K hSi hd hcl hJ hK
        have HK := Lib.hid hK
        have HJ := Lib.hid hJ
        have HSi := Lib.hid hSi
        have HCL := Lib.hid hcl
        have e1 : vs 1 = .int .i64 (n : Int) := HJ.out.p.2 1 (by omega) (hd 1 (by rfl))
        have mk := mkr W
        clear hK hd hcl hJ hSi ho
        dsimp only
        go_simp
        have h := HK.out (.slice (some ⟨W.heap.size, 0, none⟩) n n) (W.alloc (mkO n 2)) (HJ.out.make rfl HSi.out)
        simp only [upd, Nat.reduceEqDiff, reduceIte, e1] at h
        exact h
      | 4, ho =>
        obtain rfl := Option.some.inj ho
        intro S vs W K hSi hd hcl hJ hK
        have HK := Lib.hid hK
        have HJ := Lib.hid hJ
        have HSi := Lib.hid hSi
        have HCL := Lib.hid hcl
        have e3 : vs 3 = .int .i64 (n : Int) := HJ.out.p.2 3 (by omega) (hd 3 (by rfl))
        have mk := mki W
        clear hK hd hcl hJ hSi ho
        dsimp only
        go_simp
        have h := HK.out (.slice (some ⟨W.heap.size, 0, none⟩) n n) (W.alloc (mkO n 4)) (HJ.out.make rfl HSi.out)
        simp only [upd, Nat.reduceEqDiff, reduceIte, e3] at h
        exact h
      | 6, ho =>
        obtain rfl := Option.some.inj ho
        intro S vs W K hSi hd hcl hJ hK
        have HK := Lib.hid hK
        have HJ := Lib.hid hJ
        have HSi := Lib.hid hSi
        have HCL := Lib.hid hcl
        have e5 : vs 5 = .int .i64 (n : Int) := HJ.out.p.2 5 (by omega) (hd 5 (by rfl))
        have mk := mki W
        clear hK hd hcl hJ hSi ho
        dsimp only
        go_simp
        have h := HK.out (.slice (some ⟨W.heap.size, 0, none⟩) n n) (W.alloc (mkO n 6)) (HJ.out.make rfl HSi.out)
        simp only [upd, Nat.reduceEqDiff, reduceIte, e5] at h
        exact h
      | 8, ho =>
        obtain rfl := Option.some.inj ho
        intro S vs W K hSi hd hcl hJ hK
        have HK := Lib.hid hK
        have HJ := Lib.hid hJ
        have HSi := Lib.hid hSi
        have HCL := Lib.hid hcl
        have e7 : vs 7 = .int .i64 (n : Int) := HJ.out.p.2 7 (by omega) (hd 7 (by rfl))
        have mk := mki W
        clear hK hd hcl hJ hSi ho
        dsimp only
        go_simp
        have h := HK.out (.slice (some ⟨W.heap.size, 0, none⟩) n n) (W.alloc (mkO n 8)) (HJ.out.make rfl HSi.out)
        simp only [upd, Nat.reduceEqDiff, reduceIte, e7] at h
        exact h
      | 9, ho =>
        obtain rfl := Option.some.inj ho
        intro S vs W K hSi hd hcl hJ hK
        have HK := Lib.hid hK
        have HJ := Lib.hid hJ
        have HSi := Lib.hid hSi
        have HCL := Lib.hid hcl
        have HS2 := Lib.hid (hd 2 (by rfl))
        have HS4 := Lib.hid (hd 4 (by rfl))
        have HS6 := Lib.hid (hd 6 (by rfl))
        have HS8 := Lib.hid (hd 8 (by rfl))
        have e0 : vs 0 = .agg #[.int .i64 a.letters, .int .i64 a.start, .slice aN n cN, .slice aP np cP] := HJ.out.p.1 (hd 0 (by rfl))
        have HA10 : Hid (S 10 = false) := by
          show _ = _
          cases e : S 10
          · rfl
          · have := HCL.out 9 10 (by rfl) e
            rw [HSi.out] at this; cases this
        have HA11 : Hid (S 11 = false) := by
          show _ = _
          cases e : S 11
          · rfl
          · have := HCL.out 10 11 (by rfl) e
            rw [HA10.out] at this; cases this
        obtain ⟨sb, s1, -, -⟩ := HJ.out.m 2 rfl HS2.out
        obtain ⟨pb, p1, -, -⟩ := HJ.out.m 4 rfl HS4.out
        obtain ⟨ib, i1, -, -⟩ := HJ.out.m 6 rfl HS6.out
        obtain ⟨lb, l1, -, -⟩ := HJ.out.m 8 rfl HS8.out
        clear hK hd hcl hJ hSi ho
        dsimp only
        go_simp
        have h := HK.out (.agg (mkV a.letters a.start (.slice aN n cN) (.slice aP np cP) (vs 2) (vs 4) (vs 6) (vs 8))) W (HJ.out.build HS2.out HS4.out HS6.out HS8.out HA10.out HA11.out)
        simp only [upd, Nat.reduceEqDiff, reduceIte, mkV, e0, s1, p1, i1, l1] at h
        exact h
      | 10, ho =>
        obtain rfl := Option.some.inj ho
        intro S vs W K hSi hd hcl hJ hK
        have HK := Lib.hid hK
        have HJ := Lib.hid hJ
        have HSi := Lib.hid hSi
        have HCL := Lib.hid hcl
        have HS9 := Lib.hid (hd 9 (by rfl))
        have HF := Lib.hid (HJ.out.f HS9.out)
        have HS2 := Lib.hid HF.out.2.1
        have HS4 := Lib.hid HF.out.2.2.1
        have HS6 := Lib.hid HF.out.2.2.2.1
        have HS8 := Lib.hid HF.out.2.2.2.2
        have HA11 : Hid (S 11 = false) := by
          show _ = _
          cases e : S 11
          · rfl
          · have := HCL.out 10 11 (by rfl) e
            rw [HSi.out] at this; cases this
        obtain ⟨sb, s1, -, -⟩ := HJ.out.m 2 rfl HS2.out
        obtain ⟨pb, p1, -, -⟩ := HJ.out.m 4 rfl HS4.out
        obtain ⟨ib, i1, -, -⟩ := HJ.out.m 6 rfl HS6.out
        obtain ⟨lb, l1, -, -⟩ := HJ.out.m 8 rfl HS8.out
        have e9 := HF.out.1
        unfold mkV at e9
        rw [s1, p1, i1, l1] at e9
        clear hK hd hcl hJ hSi ho
        dsimp only
        go_simp
        have h := HK.out _ _ (HJ.out.box HS9.out HA11.out)
        simp only [upd, Nat.reduceEqDiff, reduceIte, mkV, s1, p1, i1, l1, e9] at h
        exact h
      | 11, ho =>
        obtain rfl := Option.some.inj ho
        intro S vs W K hSi hd hcl hJ hK
        have HK := Lib.hid hK
        have HJ := Lib.hid hJ
        have HSi := Lib.hid hSi
        have HCL := Lib.hid hcl
        obtain ⟨-, gx, e10, -⟩ := HJ.out.x (hd 10 (by rfl))
        clear hK hd hcl hJ hSi ho
        dsimp only
        go_simp
        have h := HK.out _ W HJ.out.asg
        simp only [upd, Nat.reduceEqDiff, reduceIte, e10] at h
        exact h
      | q + 12, ho => exact absurd ho (by simp)
  case fin =>
    intro S vs W hS hJ
    obtain ⟨fb, sb, pb, ib, lb, e11, hF⟩ := hJ.fin fun i hi => hS i hi
    rw [e11]
    clear e11 hJ hS
    generalize vs 0 = q0 at *
    generalize vs 1 = q1 at *
    generalize vs 2 = q2 at *
    generalize vs 3 = q3 at *
    generalize vs 4 = q4 at *
    generalize vs 5 = q5 at *
    generalize vs 6 = q6 at *
    generalize vs 7 = q7 at *
    generalize vs 8 = q8 at *
    generalize vs 9 = q9 at *
    generalize vs 10 = q10 at *
    generalize vs 11 = q11 at *
    clear vs
    have hF := hF
    have HF := Lib.hid hF
    have HBW : Hid (Below w1.heap.size w1 W) := hF.b
    have HDd := Lib.hid hF.d
    have HGe := Lib.hid hF.g
    have HL0 : Hid (NL W.heap.size W a.letters a.start (.slice aN n cN) (.slice aP np cP) n k fb sb pb ib lb 0 (fun _ => 0) (.slice none 0 0) (mvsU k 0 0)) := ⟨hF.f, by rw [rowsG_zero]; exact hF.s, NF.made hF.p, NF.made hF.i, NF.made hF.l, fun j hj => absurd hj (by omega), fun i j hi => absurd hi (by omega), OM_nil _ _, fun j hj => absurd hj (by omega), Nat.le_refl _, (Array.getElem?_eq_some_iff.1 hF.f).1, (Array.getElem?_eq_some_iff.1 hF.s).1, (Array.getElem?_eq_some_iff.1 hF.p).1, (Array.getElem?_eq_some_iff.1 hF.i).1, (Array.getElem?_eq_some_iff.1 hF.l).1⟩
    clear hF HF mkr
    obtain ⟨d0, d1, d2, d3⟩ := HBox.out W HBW.out
    clear d0 d1 d3
    go_wp2
    clear d2
    obtain ⟨B1, hB1⟩ : ∃ B1, B1 = W.heap.size := ⟨_, rfl⟩
    obtain ⟨w2, hw2⟩ : ∃ w2, w2 = W := ⟨_, rfl⟩
    subst hw2
    rw [← hB1] at HL0
    have HB1e := Lib.hid hB1
    clear hB1
    go_loopg [6, 27] n (fun gh c6 i wr => ∃ (s : Nat) (G : Nat → Nat), gh = n - s ∧ i = .int .i64 s ∧ s ≤ n ∧ Hid (NL B1 wr a.letters a.start (.slice aN n cN) (.slice aP np cP) n k fb sb pb ib lb s G c6 (mvsU k s 0)) ∧ Hid (Below w1.heap.size w1 wr))
    case atStart => exact ⟨0, _, rfl, rfl, by omega, HL0, HBW.out⟩
    case round => as_aux_lemma =>
      clear HL0
      obtain ⟨s, G, hgs, rfl, hs, HLr, HBr⟩ := hrel
      have HGS := Lib.hid hgs
      clear hgs
      have HBo : Hid (Below w.heap.size w wr) := by show Below _ _ _; rw [HZ.out]; exact HB1.out.trans (HBr.out.mono (by rw [← HZ.out]; exact HB1.out.size))
      by_cases hlt : s < n
      · obtain rfl := HDN.out (by omega)
        obtain ⟨aR, cR, hVs⟩ := (HVN.out s hlt).2.shape
        rw [HX.out.lr s hlt] at hVs
        have e1 := cellB HBo.out (HVN.out s hlt).1
        rw [hVs] at e1
        have g4 : wr.cell? ⟨fb, 4, none⟩ = some (.slice (some ⟨sb, 0, none⟩) n n) := cell_of_row _ _ 4 _ _ _ HLr.out.f
        have x4 : wr.cell? ⟨sb, s, none⟩ = some (.slice none 0 0) := (cell_of_row _ _ s _ _ _ HLr.out.sr).trans (rowsG_at hlt (Nat.le_refl _))
        have f4 : wr.frozen? ⟨sb, s, none⟩ = false := frozen_of_row _ _ s _ _ HLr.out.sr
        have hk6 := HX.out.k6
        have mkk := fun wx => run_make_row' (P := Try.prog) 29 3 (.int .i64 0) 8 Try.underlying29 info_int rfl .i64 .i64 k (by omega) (by omega) wx
        have hl1 := (Array.getElem?_eq_some_iff.1 HLr.out.f).1
        have hl2 := (Array.getElem?_eq_some_iff.1 HLr.out.sr).1
        have hb : Below wr.heap.size wr (wr.alloc (.cells (madeCells #[.int .i64 0] k) 3)) := bel_box _
        have g4' := cellB hb g4
        have x4' := cellB hb x4
        have f4' := (hb.frozen (p := ⟨sb, s, none⟩) hl2).trans f4
        have HR := Lib.hid (HLr.out.row ⟨fun e => HDd.out.1 e.symm, HDd.out.2.2.2.2.1, HDd.out.2.2.2.2.2.1, HDd.out.2.2.2.2.2.2.1⟩)
        clear hb hVs
        go_upto_region 7 with (fail)
        have HR2 : Hid (NL B1 ((wr.setCell ⟨sb, s, none⟩ (.slice (some ⟨wr.heap.size, 0, none⟩) k k)).alloc (.cells (madeCells #[.int .i64 0] k) 3)).drew a.letters a.start (.slice (some ⟨bN, oN, none⟩) n cN) (.slice aP np cP) n k fb sb pb ib lb (s + 1) (fun j => if j = s then wr.heap.size else G j) u6 (mvsU k (s + 0) 0)) := by
          show NL _ _ _ _ _ _ _ _ _ _ _ _ _ _ _ _ _
          rw [← World.setCell_alloc_past _ _ _ _ hl2]
          exact HR.out.below (Below.drew (Below.refl _ _))
        have HBn : Hid (Below w1.heap.size w1 ((wr.setCell ⟨sb, s, none⟩ (.slice (some ⟨wr.heap.size, 0, none⟩) k k)).alloc (.cells (madeCells #[.int .i64 0] k) 3)).drew) := by
          have h1 := HBr.out.setCell (p := ⟨sb, s, none⟩) HGe.out.2.1 (.slice (some ⟨wr.heap.size, 0, none⟩) k k)
          exact Below.drew (h1.alloc h1.size _)
        go_region
        clear e1 g4 x4 f4 mkk hl1 hl2 g4' x4' f4' HR HLr HBr HBo
        generalize wr.heap.size = zg at *
        generalize ((wr.setCell ⟨sb, s, none⟩ (.slice (some ⟨zg, 0, none⟩) k k)).alloc (.cells (madeCells #[.int .i64 0] k) 3)).drew = w3 at *
        generalize (fun j => if j = s then zg else G j) = G2 at *
        go_wp2
        go_loopg [6, 43] k (fun gh c6 i wr => ∃ x : Nat, gh = k - x ∧ i = .int .i64 x ∧ x ≤ k ∧ Hid (NL B1 wr a.letters a.start (.slice (some ⟨bN, oN, none⟩) n cN) (.slice aP np cP) n k fb sb pb ib lb (s + 1) G2 c6 (mvsU k s x)) ∧ Hid (Below w1.heap.size w1 wr))
        case atStart => exact ⟨0, rfl, rfl, by omega, HR2, HBn⟩
        case round =>
          clear HR2 HBn
          obtain ⟨wo, hwo⟩ : ∃ wo, wo = wr := ⟨_, rfl⟩
          obtain ⟨x, hgx, rfl, hxk, HLx, HBx⟩ := hrel
          have HGX := Lib.hid hgx
          clear hgx hwo
          by_cases hlx : x < k
          · have hOM := HLx.out.o
            have hz := HLx.out.z
            have hlen : (mvsU k s x).length < 8796093022207 := by
              rw [mvsU_len]
              have : s * k ≤ 3000 * 64 := Nat.mul_le_mul (by omega) hk6
              omega
            go_wp2_with (at_builtin; refine app_mv rfl _ _ (s, x) rfl B1 _ _ hOM rfl _ (by simp) rfl hlen hz ?_; intro v' w' hown' hg hmv; have HL2 := Lib.hid (HLx.out.app hown' hg hmv); have HB2 := Lib.hid (HBx.out.trans (below_of_grown hg (fun q hq => by have h1 := hOM.ge q hq; have h2 := HB1e.out; have h3 := HBW.out.size; omega) HBx.out.size)); clear hown' hg hmv hOM)
            rw [← mvsU_x] at HL2
            go_roundg (k - (x + 1))
            case measure => have := HGX.out; omega
            case rel => exact ⟨x + 1, rfl, by go_num, by omega, HL2, HB2⟩
          · obtain rfl : x = k := by omega
            rw [mvsU_s] at HLx
            go_wp2
            go_roundg (n - (s + 1))
            case measure => have := HGS.out; omega
            case rel => exact ⟨s + 1, G2, rfl, by go_num, by omega, HLx, HBx⟩
      · obtain rfl : s = n := by omega
        have HF : Hid (FlowOut w (.slice aN s cN) k a (.returned (.tuple #[.pointer (some ⟨fb, 0, none⟩), u6])) wr) := by
          have h := HLr.out
          have hd := HDd.out
          have hg := HGe.out
          have hw : w.heap.size ≤ w1.heap.size := HB1.out.size
          have hlo := h.lo
          have hlt : B1 ≤ wr.heap.size := h.z
          refine ⟨⟨fb, sb, fun x => match x with | .prt => pb | .idx => ib | .low => lb, G, s, k, a.letters, a.start, .slice aN s cN, .slice aP np cP⟩, u6, rfl, ⟨HNN.out.symm, rfl, rfl⟩, ⟨hd.1, fun x => ?_, fun x => ?_, fun x y e => ?_, fun j hj e => ?_, fun j hj e => ?_, fun j hj x e => ?_, h.inj, ⟨Nat.le_trans hw hg.1, Nat.le_trans hw hg.2.1, fun x => ?_, fun j hj => ?_⟩⟩, ⟨h.f, ?_, fun j hj => (h.r j hj).1, fun x => ?_⟩, HBo.out, fun W' hW => ?_⟩
          · cases x
            · exact hd.2.1
            · exact hd.2.2.1
            · exact hd.2.2.2.1
          · cases x
            · exact hd.2.2.2.2.1
            · exact hd.2.2.2.2.2.1
            · exact hd.2.2.2.2.2.2.1
          · cases x <;> cases y <;> first | rfl | (exfalso; simp only at e; omega)
          · have := (h.r j hj).2; simp only at e; omega
          · have := (h.r j hj).2; simp only at e; omega
          · have := (h.r j hj).2; cases x <;> (simp only at e; omega)
          · cases x <;> (simp only; omega)
          · have := (h.r j hj).2; have := HB1e.out; have := HBW.out.size; simp only; omega
          · have hr : rowsG s k s G = (Fa.rows ⟨fb, sb, fun x => match x with | .prt => pb | .idx => ib | .low => lb, G, s, k, a.letters, a.start, .slice aN s cN, .slice aP np cP⟩) := by
              unfold rowsG Fa.rows
              congr 1
              apply List.map_congr_left
              intro j hj
              rw [if_pos (List.mem_range.1 hj)]
            rw [← hr]; exact h.sr
          · cases x
            · exact h.pa
            · exact h.ia
            · exact h.la
          · rw [HNN.out]
            have hk6 := HX.out.k6
            refine (h.o.only hW fun q hq hS => ?_).is (by rw [mvsU_len]; have : s * k ≤ 3000 * 64 := Nat.mul_le_mul (by omega) hk6; unfold maxN; omega)
            have h1 := h.o.ge q hq
            have h2 := h.o.lt' q hq
            rcases hS with e | ⟨x, e⟩ | ⟨j, hj, e⟩ | e
            · have := HB1e.out; have := HBW.out.size; omega
            · cases x <;> (simp only at e; omega)
            · exact h.oa j hj (by rw [hq, e])
            · omega
        go_wp2
        go_ret2
        exact HF.out

end Go.Proofs.Ytdkpdpcecjcmcaa
