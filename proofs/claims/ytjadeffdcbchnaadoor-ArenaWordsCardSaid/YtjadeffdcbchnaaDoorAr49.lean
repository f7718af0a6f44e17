/- What parity.Word computes: whether the least priority over a cycle of the rounds is even. -/
import Derived.Test.YtjadeffdcbchnaaDoorAr48
namespace Go.Proofs.YtjadeffdcbchnaaDoor
open Go.RowKit

/-- The word is accepted: told by some cycle of the rounds of its loop. -/
def WordP (a : Au) (w : Ls) (b : Bool) : Prop := ∃ (j d : Nat) (v : Int), 0 < d ∧ stN a w (j + d) = stN a w j ∧ IsMin (lsN a w) j d v ∧ b = (Int.tmod v 2 == 0)
def stL (a : Au) (w : Ls) (n : Nat) : List Int := (List.range n).map (stN a w)
def lsL (a : Au) (w : Ls) (n : Nat) : List Int := (List.range n).map (lsN a w)
theorem stL_succ (a : Au) (w : Ls) (n : Nat) : stL a w (n + 1) = stL a w n ++ [stN a w n] := by simp [stL, List.range_succ]
theorem lsL_succ (a : Au) (w : Ls) (n : Nat) : lsL a w (n + 1) = lsL a w n ++ [lsN a w n] := by simp [lsL, List.range_succ]
theorem stL_at (a : Au) (w : Ls) (n k : Nat) (h : k < (stL a w n).length) : (stL a w n)[k] = stN a w k := by simp [stL]
theorem lsL_at (a : Au) (w : Ls) (n k : Nat) (h : k < n) : (lsL a w n).getD k 0 = lsN a w k := by simp [lsL, h]
theorem readF_pr {a : Au} (hv : validA a = true) {q m : Int} (h0 : 0 ≤ q) (h1 : q < a.next.length) (hm : 0 ≤ m) : ∀ {ls : List Int}, (∀ x ∈ ls, 0 ≤ x ∧ x < a.letters) → 0 ≤ (readF a (q, m) ls).2 ∧ (readF a (q, m) ls).2 ≤ m := by
  intro ls
  induction ls generalizing q m with
  | nil => intro _; exact ⟨hm, Int.le_refl _⟩
  | cons x ls ih =>
    intro hl
    have hx := hl x List.mem_cons_self
    have hn := nx_bd hv h0 h1 hx.1 hx.2
    have hr := validA_row hv (s := q.toNat) (by omega)
    have hp := validA_pr hv (s := q.toNat) (by omega) x.toNat (by omega)
    have hp' : 0 ≤ prL a q x := hp.1
    have := ih (m := min m (prL a q x)) hn.1 hn.2 (by omega) fun y hy => hl y (List.mem_cons_of_mem _ hy)
    exact ⟨this.1, Int.le_trans this.2 (by omega)⟩
theorem valid_let {w : Ls} {k : Int} (h : validI k w = true) : (∀ x ∈ w.stem, 0 ≤ x ∧ x < k) ∧ (∀ x ∈ w.loop, 0 ≤ x ∧ x < k) ∧ 0 < w.loop.length := by
  simp only [validI, Bool.and_eq_true, List.all_eq_true, decide_eq_true_eq] at h
  obtain ⟨⟨h1, h2⟩, h3⟩ := h
  obtain ⟨-, h4, -, h5, h6⟩ := (formB_iff w).1 h1
  exact ⟨fun x hx => ⟨((letB_iff x).1 (h5 x hx)).1, h2 x hx⟩, fun x hx => ⟨((letB_iff x).1 (h6 x hx)).1, h3 x hx⟩, h4⟩
theorem stN_bd {a : Au} {w : Ls} (hv : validA a = true) (hw : validI a.letters w = true) (i : Nat) : 0 ≤ stN a w i ∧ stN a w i < a.next.length := by
  obtain ⟨h1, h2, -⟩ := valid_let hw
  have h := hv
  simp only [validA, Bool.and_eq_true, decide_eq_true_eq] at h
  induction i with
  | zero => exact readF_bd hv h.1.2.1 h.1.2.2 h1
  | succ i ih => exact readF_bd hv ih.1 ih.2 h2
theorem ints_nodup_le {n : Nat} {L : List Int} (hn : L.Nodup) (h0 : ∀ q ∈ L, 0 ≤ q ∧ q < n) : L.length ≤ n := by
  have h1 : (L.map Int.toNat).Nodup := by
    induction L with
    | nil => simp
    | cons q L ih =>
      rw [List.map_cons, List.nodup_cons]
      rw [List.nodup_cons] at hn
      refine ⟨fun hm => ?_, ih hn.2 (fun y hy => h0 y (List.mem_cons_of_mem _ hy))⟩
      obtain ⟨y, hy, e⟩ := List.mem_map.1 hm
      have a1 := h0 y (List.mem_cons_of_mem _ hy)
      have a2 := h0 q List.mem_cons_self
      have : y = q := by omega
      exact hn.1 (this ▸ hy)
  have h2 : (L.map Int.toNat).Perm ((List.range n).filter fun x => decide (x ∈ L.map Int.toNat)) := (List.perm_ext_iff_of_nodup h1 (List.Nodup.sublist List.filter_sublist List.nodup_range)).2 fun x => by
    rw [List.mem_filter, List.mem_range, decide_eq_true_eq]
    refine ⟨fun hx => ⟨?_, hx⟩, fun hx => hx.2⟩
    obtain ⟨y, hy, rfl⟩ := List.mem_map.1 hx
    have := h0 y hy
    omega
  have h3 := h2.length_eq
  have h4 := List.length_filter_le (fun x => decide (x ∈ L.map Int.toNat)) (List.range n)
  rw [List.length_map] at h3
  rw [List.length_range] at h4
  omega
theorem IsInts.drop {w : World} {b off n c j : Nat} {l : List Int} (h : IsInts w (.slice (some ⟨b, off, none⟩) n c) l) (hj : j < n) : IsInts w (.slice (some ⟨b, off + j, none⟩) (n - j) (c - j)) (l.drop j) := by
  obtain ⟨⟨a', c', b', o', hv, ha⟩, hr⟩ := h
  simp only [Value.slice.injEq] at hv
  obtain ⟨rfl, rfl, rfl⟩ := hv
  have had := ha.ad (by omega)
  simp only [Option.some.injEq, Addr.mk.injEq, and_true] at had
  obtain ⟨rfl, rfl⟩ := had
  have h1 := ha.lc
  have h2 := ha.cm
  have h3 := ha.nm
  refine ⟨⟨_, c - j, b, off + j, by rw [List.length_drop], by rw [List.length_drop]; omega, by omega, by rw [List.length_drop]; omega, (fun h => by cases h), (fun _ => rfl), fun i hi => ?_⟩, fun x hx => hr x (List.mem_of_mem_drop hx)⟩
  rw [List.length_drop] at hi
  have := ha.el (j + i) (by omega)
  rw [show off + j + i = off + (j + i) by omega, this]
  simp [ivF, List.getD]

set_option maxRecDepth 100000 in
set_option maxHeartbeats 8000000 in
theorem Word_c (w : World) (va vw : Value) (a : Au) (l : Ls) (ha : IsAuto w va a) (hl : IsLs w vw l) (hv : validA a = true) (hw : validI a.letters l = true) :
    Calls Tryd.prog 34 #[va, vw] w (fun e w' => ∃ b, e = .returned (.bool b) ∧ WordP a l b ∧ Below w.heap.size w w') := by
  obtain ⟨p2, n2, k2, p3, n3, k3, rfl⟩ := ha.shp
  obtain ⟨a0, c0, a1, c1, rfl⟩ := hl.shp
  go_enter Tryd.func34, Tryd.ntmps34
  go_upto_region 1 with (fail)
  obtain ⟨hx, hz, hB⟩ : ((w.alloc (.cells #[.int .i64 a.letters, .int .i64 a.start, .slice p2 n2 k2, .slice p3 n3 k3] 25)).alloc (.cells #[.slice a0 l.stem.length c0, .slice a1 l.loop.length c1] 57)).heap[w.heap.size]? = some (.cells #[.int .i64 a.letters, .int .i64 a.start, .slice p2 n2 k2, .slice p3 n3 k3] 25 (0, 0)) ∧ ((w.alloc (.cells #[.int .i64 a.letters, .int .i64 a.start, .slice p2 n2 k2, .slice p3 n3 k3] 25)).alloc (.cells #[.slice a0 l.stem.length c0, .slice a1 l.loop.length c1] 57)).heap[w.heap.size + 1]? = some (.cells #[.slice a0 l.stem.length c0, .slice a1 l.loop.length c1] 57 (0, 0)) ∧ Below w.heap.size w ((w.alloc (.cells #[.int .i64 a.letters, .int .i64 a.start, .slice p2 n2 k2, .slice p3 n3 k3] 25)).alloc (.cells #[.slice a0 l.stem.length c0, .slice a1 l.loop.length c1] 57)) := ⟨(by (repeat (rw [alloc_get]; first | rw [if_pos (by first | (simp; done) | (simp; omega))] | rw [if_neg (by first | (simp; done) | (simp; omega))])); (try rfl)), (by (repeat (rw [alloc_get]; first | rw [if_pos (by first | (simp; done) | (simp; omega))] | rw [if_neg (by first | (simp; done) | (simp; omega))])); (try rfl)), (by repeat (first | exact Below.refl _ _ | assumption | (refine belA ?_ _) | (refine belD ?_ _)))⟩
  replace ha := ha.below hB
  replace hl := hl.below hB
  generalize (w.alloc (.cells #[.int .i64 a.letters, .int .i64 a.start, .slice p2 n2 k2, .slice p3 n3 k3] 25)).alloc (.cells #[.slice a0 l.stem.length c0, .slice a1 l.loop.length c1] 57) = w1 at *
  have HE : Hid (∀ W, Below w1.heap.size w1 W → Below w.heap.size w W) := fun W h => hB.trans (h.mono hB.size)
  clear hB
  generalize w.heap.size + 1 = zw at *
  generalize hza : w.heap.size = za at *
  have HZA := Lib.hid hza
  clear hza
  have d0 := cell_of_row _ _ 0 _ _ _ hx
  have d1 := cell_of_row _ _ 1 _ _ _ hx
  have d2 := cell_of_row _ _ 2 _ _ _ hx
  have d3 := cell_of_row _ _ 3 _ _ _ hx
  go_wp2_with fail
  refine (PValid_c _ _ a ha).mono ?_
  rw [hv]
  rintro e w2 ⟨rfl, hb⟩
  replace hx := (hb.block _ (Array.getElem?_eq_some_iff.1 hx).1).trans hx
  replace hz := (hb.block _ (Array.getElem?_eq_some_iff.1 hz).1).trans hz
  replace ha := ha.below hb
  replace hl := hl.below hb
  clear d0 d1 d2 d3
  have d0 := cell_of_row _ _ 0 _ _ _ hx
  have e0 := cell_of_row _ _ 0 _ _ _ hz
  have e1 := cell_of_row _ _ 1 _ _ _ hz
  go_wp2_with fail
  refine (WValid_c _ _ l a.letters hl).mono ?_
  rw [hw]
  rintro e w3 ⟨rfl, hb3⟩
  replace hx := (hb3.block _ (Array.getElem?_eq_some_iff.1 hx).1).trans hx
  replace hz := (hb3.block _ (Array.getElem?_eq_some_iff.1 hz).1).trans hz
  replace ha := ha.below hb3
  replace hl := hl.below hb3
  replace hb := hb.trans (hb3.mono hb.size)
  clear d0 e0 e1 hb3
  have d1 := cell_of_row _ _ 1 _ _ _ hx
  obtain ⟨h1, h2, hlp⟩ := valid_let hw
  obtain ⟨hl0, hl1⟩ := hl.parts
  obtain ⟨v2, v3, hve, hI64, hN, hP⟩ := id ha
  simp only [Value.agg.injEq, Array.mk.injEq, List.cons.injEq, and_true, true_and] at hve
  obtain ⟨rfl, rfl⟩ := hve
  have hstart : 0 ≤ a.start ∧ a.start < a.next.length := by
    have h := hv
    simp only [validA, Bool.and_eq_true, decide_eq_true_eq] at h
    exact h.1.2
  have hN3 : a.next.length ≤ 3000 := by
    have h := hv
    simp only [validA, Bool.and_eq_true, decide_eq_true_eq] at h
    omega
  have HRD : Hid (∀ W vls ls q, Below w3.heap.size w3 W → IsInts w3 vls ls → W.heap[w3.heap.size]? = some (.cells #[.int .i64 q] 3 (0, 0)) → 0 ≤ q → q < a.next.length → (∀ x ∈ ls, 0 ≤ x ∧ x < a.letters) → Calls Tryd.prog 57 #[vls, .pointer (some ⟨za, 0, none⟩), .pointer (some ⟨w3.heap.size, 0, none⟩)] W (fun e w' => e = .returned (.int .i64 (readF a (q, 20000) ls).2) ∧ Below w3.heap.size w3 w' ∧ W.grownBy w' (some w3.heap.size) ∧ w'.heap[w3.heap.size]? = some (.cells #[.int .i64 (readF a (q, 20000) ls).1] 3 (0, 0)))) := fun W vls ls q hB hi hs h0 h1 hls => read_c w3 W vls ls a za w3.heap.size n2 k2 n3 k3 p2 p3 q hv hB hi hx hN hP (Nat.le_refl _) hs h0 h1 hls
  have HEZ : Hid (∀ W, Below w3.heap.size w3 W → W.cell? ⟨zw, 0, none⟩ = some (.slice a0 l.stem.length c0) ∧ W.cell? ⟨zw, 1, none⟩ = some (.slice a1 l.loop.length c1)) := fun W h => by
    have k := (h.block _ (Array.getElem?_eq_some_iff.1 hz).1).trans hz
    exact ⟨cell_of_row _ _ 0 _ _ _ k, cell_of_row _ _ 1 _ _ _ k⟩
  have HBD := Lib.hid (fun i => stN_bd hv hw i)
  have HN := Lib.hid hN3
  have HV := Lib.hid hv
  have HB := Lib.hid hb
  have HL0 := Lib.hid hl0
  have HL1 := Lib.hid hl1
  have HLT := Lib.hid (And.intro h1 (And.intro h2 hlp))
  go_upto_region 4 with (fail)
  have hb4 := bel_box (w := w3) (.cells #[.int .i64 a.start] 3)
  have hs := heap_alloc_new w3 (.cells #[.int .i64 a.start] 3)
  generalize w3.alloc (.cells #[.int .i64 a.start] 3) = w4 at *
  obtain ⟨e0, -⟩ := HEZ.out w4 hb4
  clear d1 hx hz ha hl hb hN hP hl0 hl1 hN3 h1 h2 hlp hI64 hv
  go_wp2_with fail
  refine (HRD.out w4 _ _ _ hb4 HL0.out hs hstart.1 hstart.2 HLT.out.1).mono ?_
  rintro e w5 ⟨rfl, hb5, -, hs5⟩
  clear e0 hb4 hs hstart
  have hs5' : w5.heap[w3.heap.size]? = some (.cells #[.int .i64 (stN a l 0)] 3 (0, 0)) := hs5
  clear hs5
  have HMM := @run_makeMap Tryd.prog
  have hb6 := bel_box (w := w5) (.map #[] 0)
  have hM6 := NumI.made w5
  have hz6 : w5.heap.size < (w5.alloc (.map #[] 0)).heap.size := by simp
  have hzs : w3.heap.size < w5.heap.size := (Array.getElem?_eq_some_iff.1 hs5').1
  have hs6 := (hb6.block _ hzs).trans hs5'
  have hB6 : Below w3.heap.size w3 (w5.alloc (.map #[] 0)) := hb5.trans (hb6.mono hb5.size)
  go_wp2_with fail
  clear HMM hb6 hs5' hb5
  generalize w5.alloc (.map #[] 0) = w6 at *
  generalize w5.heap.size = zm at *
  generalize hzq : w3.heap.size = zs at *
  go_loopg [7] (a.next.length + 1) (fun gh vL wr => ∃ n : Nat, gh = a.next.length + 1 - n ∧ n ≤ a.next.length ∧ Hid ((stL a l n).Nodup) ∧ wr.heap[zs]? = some (.cells #[.int .i64 (stN a l n)] 3 (0, 0)) ∧ NumI wr zm (stL a l n) ∧ OI wr (zm + 1) vL (lsL a l n) ∧ Below zs w3 wr ∧ zm + 1 ≤ wr.heap.size)
  case atStart => exact ⟨0, by omega, by omega, by simp [Hid, stL], hs6, hM6, OI_nil _ _, hB6, hz6⟩
  case round =>
    obtain ⟨n, hgn, hn, HND, hs, hM, hO, hBr, hmr⟩ := hrel
    have HGN := Lib.hid hgn
    clear hgn hs6 hM6 hB6 hz6
    obtain ⟨q0, q1⟩ := HBD.out n
    have hN3 := HN.out
    have hq64 : I64 (stN a l n) := by unfold I64; omega
    have hlen : (stL a l n).length = n := by simp [stL]
    have hlenL : (lsL a l n).length = n := by simp [lsL]
    obtain ⟨hyes, hno⟩ := hM.get hq64
    have s0 := cell_of_row _ _ 0 _ _ _ hs
    have HLB : Hid (∀ x ∈ lsL a l n, I64 x) := fun x hx => by
      obtain ⟨i, -, rfl⟩ := List.mem_map.1 hx
      have h1 := HBD.out i
      have := readF_pr HV.out h1.1 h1.2 (m := 20000) (by omega) HLT.out.2.1
      unfold lsN I64
      omega
    by_cases hm : stN a l n ∈ stL a l n
    case pos => as_aux_lemma =>
      have hrun := hyes hm
      have hj := idxI_lt hm
      have hjv : (stL a l n)[(stL a l n).idxOf (stN a l n)] = stN a l n := List.getElem_idxOf hj
      have HJ : Hid (stN a l ((stL a l n).idxOf (stN a l n)) = stN a l n) := by
        show _ = _
        rw [stL_at] at hjv
        exact hjv
      rw [hlen] at hj
      obtain ⟨g, cap, hvL, -, -⟩ := hO.row (by omega)
      subst hvL
      have hOi := hO.is (by rw [hlenL]; simp only [maxN]; omega) HLB.out
      rw [hlenL] at hOi ⊢
      have hcap : n ≤ cap := by
        obtain ⟨⟨_, _, _, _, hv', ha'⟩, -⟩ := hOi
        simp only [Value.slice.injEq] at hv'
        obtain ⟨-, -, rfl⟩ := hv'
        have := ha'.lc
        omega
      generalize (stL a l n).idxOf (stN a l n) = j at *
      have HDR := Lib.hid (hOi.drop hj)
      have HB5 := Lib.hid hBr
      have hjn : (j : Int) ≤ (n : Int) := by omega
      have hj0 : (0 : Int) ≤ (j : Int) := Int.natCast_nonneg _
      have hnc : (n : Int) ≤ (cap : Int) := by omega
      have HLEN : Hid (((lsL a l n).drop j).length = n - j) := by show _ = _; rw [List.length_drop, hlenL]
      have HJN : Hid (j < n) := hj
      clear hyes hno hjv hO hOi hM hs hBr hlenL
      go_wp2_with fail
      have hdr : IsInts wr (.slice (some ⟨g, j, none⟩) (n - j) (cap - j)) ((lsL a l n).drop j) := by
        have := HDR.out
        rwa [Nat.zero_add] at this
      refine (Min_c _ _ _ hdr (by rw [HLEN.out]; have := HJN.out; omega)).mono ?_
      rintro e w8 ⟨rfl, rfl⟩
      have hsp := minK_spec (l := (lsL a l n).drop j) (by rw [HLEN.out]; have := HJN.out; omega) (n - j) (by have := HJN.out; omega) (by rw [HLEN.out]; omega)
      rw [HLEN.out]
      have hdg : ∀ i, i < n - j → ((lsL a l n).drop j).getD i 0 = lsN a l (j + i) := fun i hi => by
        rw [← lsL_at a l n (j + i) (by omega)]
        simp [List.getD]
      generalize minK ((lsL a l n).drop j) (n - j) = v at *
      have HW : Hid (WordP a l (Int.tmod v 2 == 0)) := by
        have hjn' := HJN.out
        refine ⟨j, n - j, v, by omega, by rw [show j + (n - j) = n by omega]; exact HJ.out.symm, ⟨?_, fun i hi => ?_⟩, rfl⟩
        · obtain ⟨⟨i, hi, e⟩, -⟩ := hsp
          exact ⟨i, hi, by rw [← hdg i hi]; exact e⟩
        · rw [← hdg i hi]
          exact hsp.2 i hi
      clear hsp hdg hdr HDR
      go_wp2
      go_ret
      exact ⟨_, rfl, HW.out, by rw [HZA.out]; exact HE.out _ (HB.out.trans (HB5.out.mono (by rw [← hzq]; exact HB.out.size)))⟩
    case neg => as_aux_lemma =>
      obtain ⟨c, hrun⟩ := hno hm
      obtain ⟨w7, hupd, hM7, hg7⟩ := hM.upd hq64 hm (by omega)
      rw [hlen] at hupd
      have HND1 : Hid ((stL a l (n + 1)).Nodup) := by
        show List.Nodup _
        rw [stL_succ, List.nodup_append]
        exact ⟨HND.out, by simp, fun x hx y hy => by rw [List.mem_singleton.1 hy]; rintro rfl; exact hm hx⟩
      have hn1 : n + 1 ≤ a.next.length := by
        have h1 := ints_nodup_le (n := a.next.length) HND1.out fun q hq => by
          obtain ⟨i, -, rfl⟩ := List.mem_map.1 hq
          exact HBD.out i
        simpa [stL] using h1
      rw [← stL_succ] at hM7
      have hzl : zs < wr.heap.size := by omega
      have hs7 := (hg7.block zs hzl (fun e => by injection e with e; omega)).trans hs
      have hB7 : Below zs w3 w7 := hBr.grown hg7 (by omega) (fun k hk => by injection hk with hk; omega)
      have hO7 := hO.grown hg7 (by
        cases hvb : u7.ownBlock with
        | none => exact .inl rfl
        | some g => exact .inr (fun e => by have := hO.ge g hvb; injection e with e; omega))
      obtain ⟨-, e1⟩ := HEZ.out w7 hB7
      obtain ⟨aoL, capL, hvL⟩ := hO.slice
      rw [hlenL] at hvL
      have s7 := cell_of_row _ _ 0 _ _ _ hs7
      subst hvL
      have HO7 := Lib.hid hO7
      have HM7 := Lib.hid hM7
      have HB7 := Lib.hid hB7
      have HS7 := Lib.hid hs7
      have hz7 : zm + 1 ≤ w7.heap.size := Nat.le_trans hmr hg7.size
      clear hyes hno hO hM hs hBr hO7 hM7 hg7 hB7 hs7
      go_wp2_with fail
      refine (HRD.out w7 _ _ _ HB7.out HL1.out HS7.out q0 q1 HLT.out.2.1).mono ?_
      rintro e w8 ⟨rfl, hB8, hg8, hs8⟩
      have HS8 : Hid (w8.heap[zs]? = some (.cells #[.int .i64 (stN a l (n + 1))] 3 (0, 0))) := hs8
      have HM8 := Lib.hid (HM7.out.kept hg8 (fun e => by injection e with e; omega))
      have hO8 := HO7.out.grown hg8 (by
        cases hvb : (Value.slice aoL n capL).ownBlock with
        | none => exact .inl rfl
        | some g => exact .inr (fun e => by have := HO7.out.ge g hvb; injection e with e; omega))
      have HO8 := Lib.hid hO8
      have HB8 := Lib.hid hB8
      have hz8 : zm + 1 ≤ w8.heap.size := Nat.le_trans hz7 hg8.size
      have hnl : (lsL a l n).length < 17592186043904 := by omega
      clear hs8 hO8 hB8 hg8 e1 s7 s0 hrun hupd
      go_wp2_with (at_builtin; refine app_int rfl _ _ (lsN a l n) rfl (zm + 1) _ _ HO8.out rfl _ (by simp) rfl hnl hz8 ?_; intro v' w9 hown' hg9 hmv)
      have hne9 : ∀ k, k < zm + 1 → some k ≠ (Value.slice aoL n capL).ownBlock := fun k hk e => by
        have := HO8.out.ge k e.symm
        omega
      go_roundg (a.next.length + 1 - (n + 1))
      case measure => have := HGN.out; omega
      case rel =>
        refine ⟨n + 1, rfl, hn1, HND1, (hg9.block zs (by omega) (hne9 zs (by omega))).trans HS8.out, HM8.out.kept hg9 (hne9 zm (by omega)), by rw [lsL_succ]; exact hown', HB8.out.grown hg9 (by omega) (fun k hk => by have := HO8.out.ge k hk; omega), Nat.le_trans hz8 hg9.size⟩

end Go.Proofs.YtjadeffdcbchnaaDoor
