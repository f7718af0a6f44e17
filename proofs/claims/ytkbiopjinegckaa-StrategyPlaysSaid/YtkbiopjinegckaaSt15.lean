/- What Winner of strategies returns. -/
import Derived.Test.YtkbiopjinegckaaSt4
import Derived.Test.YtkbiopjinegckaaStCc
import Derived.StillTailTactics
import Derived.BigQuiet
namespace Go.Proofs.Ytkbiopjinegckaa
open Go.RowKit

/-- A play in memory. -/
structure Ph where
  stem : List Int
  loop : List Int
def IsPath (w : World) (v : Value) (P : Ph) : Prop := ∃ v0 v1, v = .agg #[v0, v1] ∧ IsInts w v0 P.stem ∧ IsInts w v1 P.loop
theorem IsPath.below {w wr : World} {v : Value} {P : Ph} (h : IsPath w v P) (hb : Below w.heap.size w wr) : IsPath wr v P := by
  obtain ⟨v0, v1, rfl, h0, h1⟩ := h
  exact ⟨v0, v1, rfl, h0.below hb, h1.below hb⟩
/-- Behind the boxes of a game and a play. -/
structure Bx2 (w W : World) (cs ps : Array Value) : Prop where
  bl : Below w.heap.size w W
  b1 : W.heap[w.heap.size]? = some (.cells cs 25 (0, 0))
  b2 : W.heap[w.heap.size + 1]? = some (.cells ps 28 (0, 0))
theorem Bx2.start (w : World) (cs ps : Array Value) : Bx2 w ((w.alloc (.cells cs 25)).alloc (.cells ps 28)) cs ps := ⟨(by repeat (first | exact Below.refl _ _ | assumption | (refine belA ?_ _) | (refine belD ?_ _))), (by (repeat (rw [alloc_get]; first | rw [if_pos (by first | (simp; done) | (simp; omega))] | rw [if_neg (by first | (simp; done) | (simp; omega))])); (try rfl)), (by (repeat (rw [alloc_get]; first | rw [if_pos (by first | (simp; done) | (simp; omega))] | rw [if_neg (by first | (simp; done) | (simp; omega))])); (try rfl))⟩
theorem Bx2.step {w W W1 : World} {cs ps : Array Value} (h : Bx2 w W cs ps) (hb : Below W.heap.size W W1) : Bx2 w W1 cs ps :=
  ⟨h.bl.trans (hb.mono h.bl.size), (hb.block _ (Array.getElem?_eq_some_iff.1 h.b1).1).trans h.b1, (hb.block _ (Array.getElem?_eq_some_iff.1 h.b2).1).trans h.b2⟩
theorem Bx2.c1 {w W : World} {cs ps : Array Value} (h : Bx2 w W cs ps) (k : Nat) {v : Value} (hv : cs[k]? = some v) : W.cell? ⟨w.heap.size, k, none⟩ = some v := (cell_of_row _ _ k _ _ _ h.b1).trans hv
theorem Bx2.c2 {w W : World} {cs ps : Array Value} (h : Bx2 w W cs ps) (k : Nat) {v : Value} (hv : ps[k]? = some v) : W.cell? ⟨w.heap.size + 1, k, none⟩ = some v := (cell_of_row _ _ k _ _ _ h.b2).trans hv

/-- Whether each place of a way is a position, and follows the one before. -/
def okAt (g : Gm) (way : List Int) (i : Nat) : Bool :=
  decide (0 ≤ way.getD i 0) && decide (way.getD i 0 < g.owner.length) && (decide (i = 0) || decide (way.getD i 0 ∈ g.succ.getD (way.getD (i - 1) 0).toNat []))
def okW (g : Gm) (way : List Int) : Bool := (List.range way.length).all (okAt g way)
def leastW (g : Gm) (l : List Int) : Int := l.foldl (fun m v => min m (g.prio.getD v.toNat 0)) (g.prio.getD (l.getD 0 0).toNat 0)
def leastK (g : Gm) (l : List Int) (k : Nat) : Int := (l.take k).foldl (fun m v => min m (g.prio.getD v.toNat 0)) (g.prio.getD (l.getD 0 0).toNat 0)
theorem leastK_all (g : Gm) (l : List Int) : leastK g l l.length = leastW g l := by unfold leastK; rw [List.take_length]; rfl
theorem leastK_snoc (g : Gm) (l : List Int) (k : Nat) (hk : k < l.length) : leastK g l (k + 1) = min (leastK g l k) (g.prio.getD (l.getD k 0).toNat 0) := by
  unfold leastK
  rw [List.take_succ_eq_append_getElem hk, List.foldl_append, getD_lt _ _ _ hk]; rfl
theorem prio_nn {g : Gm} (h : validB g = true) (v : Nat) : 0 ≤ g.prio.getD v 0 := by
  by_cases hv : v < g.owner.length
  · exact (valid_at h v hv).2.1.1
  · have := (valid_lens h).2.1
    rw [List.getD_eq_getElem?_getD, List.getElem?_eq_none (by omega)]; exact Int.le_refl _
theorem least_nn {g : Gm} (h : validB g = true) (l : List Int) (m : Int) (hm : 0 ≤ m) : 0 ≤ l.foldl (fun m v => min m (g.prio.getD v.toNat 0)) m := by
  induction l generalizing m with
  | nil => exact hm
  | cons x l ih =>
    refine ih _ ?_
    have := prio_nn h x.toNat
    show 0 ≤ min m (g.prio.getD x.toNat 0)
    omega
def wayL (P : Ph) : List Int := P.stem ++ P.loop ++ P.loop.take 1
def winrB (g : Gm) (P : Ph) : Int := if validB g && !P.loop.isEmpty && okW g (wayL P) then leastW g P.loop % 2 else -1
theorem okW_at {g : Gm} {way : List Int} (h : okW g way = true) {i : Nat} (hi : i < way.length) : 0 ≤ way.getD i 0 ∧ way.getD i 0 < g.owner.length := by
  have := List.all_eq_true.1 h i (List.mem_range.2 hi)
  simp only [okAt, Bool.and_eq_true, decide_eq_true_eq] at this
  exact this.1

theorem wayL_len (P : Ph) (h : P.loop ≠ []) : (wayL P).length = P.stem.length + P.loop.length + 1 := by
  unfold wayL
  have : 0 < P.loop.length := List.length_pos_iff.2 h
  simp only [List.length_append, List.length_take]; omega
theorem wayL_loop (P : Ph) (k : Nat) (hk : k < P.loop.length) : (wayL P).getD (P.stem.length + k) 0 = P.loop.getD k 0 := by
  unfold wayL
  simp only [List.getD_eq_getElem?_getD]
  rw [List.append_assoc, List.getElem?_append_right (by omega), show P.stem.length + k - P.stem.length = k by omega, List.getElem?_append_left hk]
theorem flat3 (P : Ph) : flatL [P.stem, P.loop, P.loop.take 1] = wayL P := by simp [flatL, wayL, List.append_assoc]
theorem IsRows.three {w : World} {v0 v1 v2 : Value} {l0 l1 l2 : List Int} (m : Nat) (e : TypeId) (h0 : IsInts w v0 l0) (h1 : IsInts w v1 l1) (h2 : IsInts w v2 l2) (hm : m = w.heap.size) : IsRows (w.alloc (.cells #[v0, v1, v2] e)) (.slice (some ⟨m, 0, none⟩) 3 3) [l0, l1, l2] := by
  subst hm
  have hb := (Below.refl w.heap.size w).alloc (Nat.le_refl _) (Obj.cells #[v0, v1, v2] e)
  refine ⟨fun j => #[v0, v1, v2].getD j undef, ⟨_, _, w.heap.size, 0, rfl, Nat.le_refl _, by simp [maxLen], by simp [maxN], (fun h => by cases h), fun _ => rfl, ?_⟩, ?_⟩
  · intro j hj
    have hj3 : j < 3 := by simpa using hj
    rw [Nat.zero_add, cell_of_row _ _ j _ _ _ (heap_alloc_new w _)]
    match j, hj3 with
    | 0, _ => rfl
    | 1, _ => rfl
    | 2, _ => rfl
  · intro j hj
    have hj3 : j < 3 := by simpa using hj
    match j, hj3 with
    | 0, _ => exact h0.below hb
    | 1, _ => exact h1.below hb
    | 2, _ => exact h2.below hb

set_option maxRecDepth 100000 in
set_option maxHeartbeats 8000000 in
theorem Winner_c (w : World) (vg vp : Value) (g : Gm) (P : Ph) (hg : IsGame w vg g) (hp : IsPath w vp P) (hlen : P.stem.length + P.loop.length ≤ 90000) :
    Calls Try.prog 18 #[vg, vp] w (Calm (.int .i64 (winrB g P)) w) := by
  have HV : Hid (∀ W, Below w.heap.size w W → Calls Try.prog 29 #[vg] W (Calm (.bool (validB g)) W)) := fun W hW => AValid_c W _ g (hg.below hW)
  obtain ⟨v0, v1, v2, rfl, i0, i1, i2⟩ := id hg
  obtain ⟨a0, c0, rfl⟩ := i0.shape
  obtain ⟨a1, c1, rfl⟩ := i1.shape
  obtain ⟨u0, u1, rfl, j0, j1⟩ := id hp
  obtain ⟨aS, cS, rfl⟩ := j0.shape
  obtain ⟨aL, cL, rfl⟩ := j1.shape
  obtain ⟨a2, c2, b2, o2, V, hv2, hd2, m2, dd2⟩ := i2.data
  subst hv2
  have HD2 := Lib.hid hd2
  have HDD := Lib.hid dd2
  clear hd2 dd2 m2
  have HI0 := Lib.hid i0
  have HI1 := Lib.hid i1
  have HI2 := Lib.hid i2
  have HJ0 := Lib.hid j0
  have HJ1 := Lib.hid j1
  clear hg hp i0 i1 i2 j0 j1
  have HB := Lib.hid (Bx2.start w #[.slice a0 g.owner.length c0, .slice a1 g.prio.length c1, .slice a2 g.succ.length c2] #[.slice aS P.stem.length cS, .slice aL P.loop.length cL])
  have hB0 := HB.out.bl
  cases hv : validB g
  · have HW : Hid (winrB g P = -1) := by show _ = _; unfold winrB; rw [hv]; rfl
    go_enter Try.func18, Try.ntmps18
    go_wp2_with fail
    refine (HV.out _ hB0).mono ?_
    rintro e w1 ⟨rfl, hb1⟩
    rw [hv]
    have hE := hB0.trans (hb1.mono hB0.size)
    clear hv hb1
    go_wp2
    go_ret
    exact ⟨ret_int HW.out.symm, hE⟩
  by_cases hl : P.loop.length = 0
  · have hnil := List.eq_nil_of_length_eq_zero hl
    have HW : Hid (winrB g P = -1) := by show _ = _; unfold winrB; rw [hnil]; simp
    have hl' : ((P.loop.length : Int) == 0) = true := by simp [hl]
    clear hnil hl
    go_enter Try.func18, Try.ntmps18
    go_wp2_with fail
    refine (HV.out _ hB0).mono ?_
    rintro e w1 ⟨rfl, hb1⟩
    rw [hv]
    have d1 := (HB.out.step hb1).c2 1 rfl
    have hE := hB0.trans (hb1.mono hB0.size)
    clear hv hb1
    go_wp2
    go_ret
    exact ⟨ret_int HW.out.symm, hE⟩
  · have hl' : ((P.loop.length : Int) == 0) = false := by rw [beq_eq_false_iff_ne]; omega
    have hne : P.loop ≠ [] := fun e => hl (by rw [e]; rfl)
    have HWA : Hid (winrB g P = if okW g (wayL P) then leastW g P.loop % 2 else -1) := by
      show _ = _
      unfold winrB
      rw [hv]
      have : P.loop.isEmpty = false := by simpa using hne
      rw [this]; rfl
    have HVT := Lib.hid hv
    have HWL := Lib.hid (wayL_len P hne)
    have hl0 : 0 < P.loop.length := by omega
    clear hl hne
    go_enter Try.func18, Try.ntmps18
    go_wp2_with fail
    refine (HV.out _ hB0).mono ?_
    rintro e w1 ⟨rfl, hb1⟩
    rw [HVT.out]
    have HB1 := Lib.hid (HB.out.step hb1)
    have e0 := HB1.out.c2 0 rfl
    have e1 := HB1.out.c2 1 rfl
    clear hv hb1 HB hB0
    have ⟨hlc1, hlc2⟩ : 1 ≤ cL ∧ cL ≤ maxLen := by
      obtain ⟨⟨ao, cp, b, off, hvv, ha⟩, -⟩ := HJ1.out
      injection hvv with k1 k2 k3
      have := ha.lc
      have := ha.cm
      omega
    have hl1 : (1 : Int) ≤ P.loop.length := by omega
    have hcI : (1 : Int) ≤ cL := by omega
    go_wp2_with fail
    go_upto_region 3 with (fail)
    go_still_tail 7, (by kernel_rfl)
    change wpList _ _ _ _ _ w1.drew
    clear e0 e1
    have HB2 := Lib.hid (HB1.out.step (Below.drew (Below.refl _ _)))
    clear HB1
    generalize w1.drew = w2 at *
    have HR3 : Hid (IsRows (w2.alloc (.cells #[.slice aS P.stem.length cS, .slice aL P.loop.length cL, .slice aL 1 cL] 22)) (.slice (some ⟨w2.heap.size, 0, none⟩) 3 3) [P.stem, P.loop, P.loop.take 1]) := by
      refine IsRows.three _ _ (HJ0.out.below HB2.out.bl) (HJ1.out.below HB2.out.bl) ?_ rfl
      obtain ⟨⟨ao, cp, b, off, hvv, ha⟩, hr⟩ := HJ1.out
      injection hvv with k1 k2 k3
      subst k1 k3
      exact (IsInts.take ha hr 1 hl0).below HB2.out.bl
    have hfl : (flatL [P.stem, P.loop, P.loop.take 1]).length ≤ 100000 := by rw [flat3, HWL.out]; omega
    go_wp2_with fail
    refine (Concat_c _ _ [P.stem, P.loop, P.loop.take 1] HR3.out hfl).mono ?_
    rintro e w3 ⟨vw, rfl, hw, hb3⟩
    rw [flat3] at hw
    obtain ⟨aW, cW, rfl⟩ := hw.shape
    have HW := Lib.hid hw
    have HB3 := Lib.hid ((HB2.out.step (bel_box _)).step hb3)
    have hwl3 : (wayL P).length ≤ 100000 := by rw [HWL.out]; omega
    have HLW : Hid (∀ k, k < P.loop.length → (wayL P).getD (P.stem.length + k) 0 = P.loop.getD k 0) := fun k hk => wayL_loop P k hk
    clear hw hb3 hfl HR3 HB2
    generalize wayL P = way at *
    go_wp2
    go_loopg [6, 7, 31] way.length (fun gh _ _ i wr => ∃ (k nn : Nat), gh = way.length - k ∧ i = .int .i64 k ∧ k ≤ way.length ∧ wr = w3.drewN nn ∧ Hid (∀ j, j < k → okAt g way j = true))
    case atStart => exact ⟨0, 0, rfl, rfl, by omega, rfl, fun j hj => absurd hj (by omega)⟩
    case round =>
      obtain ⟨k, nn, hgk, rfl, hk, rfl, HOk⟩ := hrel
      have HGK := Lib.hid hgk
      clear hgk
      by_cases hlt : k < way.length
      · obtain ⟨bW, oW, had, -, hdt⟩ := HW.out.dat
        obtain rfl := had (by omega)
        have ev := hdt k hlt
        have e0 := HB3.out.c1 0 rfl
        have e2 := HB3.out.c1 2 rfl
        have HBad : Hid (okAt g way k = false → winrB g P = -1) := fun h => by
          rw [HWA.out, show okW g way = false from List.all_eq_false.2 ⟨k, List.mem_range.2 hlt, by rw [h]; decide⟩]; rfl
        have HAt : Hid (okAt g way k = (decide (0 ≤ way.getD k 0) && decide (way.getD k 0 < g.owner.length) && (decide (k = 0) || decide (way.getD k 0 ∈ g.succ.getD (way.getD (k - 1) 0).toNat [])))) := rfl
        generalize hx : way.getD k 0 = x at *
        have HX := Lib.hid hx
        have HDT := Lib.hid hdt
        clear hx had hdt
        by_cases hx0 : x < 0
        · have hx0' : decide (x < 0) = true := by simpa using hx0
          have HE := Lib.hid (HBad.out (by rw [HAt.out, show decide (0 ≤ x) = false by simp; omega]; rfl))
          have hE := HB3.out.bl.trans (below_draws w3 w.heap.size nn)
          clear hx0
          go_wp2
          go_quiet (fail)
          go_wp2
          go_ret
          exact ⟨ret_int HE.out.symm, by rw [World.drewN_drewN]; exact HB3.out.bl.trans (below_draws _ _ _)⟩
        · have hx0' : decide (x < 0) = false := by simp; omega
          obtain ⟨u, rfl⟩ : ∃ u : Nat, x = u := ⟨x.toNat, by omega⟩
          clear hx0
          by_cases hx1 : g.owner.length ≤ u
          · have hx1' : decide (g.owner.length ≤ u) = true := by simpa using hx1
            have HE := Lib.hid (HBad.out (by rw [HAt.out, show decide ((u : Int) < g.owner.length) = false by simp; omega]; simp))
            clear hx1
            go_wp2
            go_quiet (fail)
            go_wp2
            go_ret
            exact ⟨ret_int HE.out.symm, by rw [World.drewN_drewN]; exact HB3.out.bl.trans (below_draws _ _ _)⟩
          · have hx1' : decide (g.owner.length ≤ u) = false := by simpa using hx1
            have HAt2 : Hid (okAt g way k = (decide (k = 0) || decide ((u : Int) ∈ g.succ.getD (way.getD (k - 1) 0).toNat []))) := by
              show _ = _
              rw [HAt.out, show decide ((0 : Int) ≤ (u : Int)) = true by simp, show decide ((u : Int) < g.owner.length) = true by simp; omega]; rfl
            clear hx1
            by_cases hk0 : k = 0
            · have HOk0 := Lib.hid HOk.out
              have HOk1 : Hid (∀ j, j < k + 1 → okAt g way j = true) := fun j hj => by
                by_cases e : j = k
                · rw [e, HAt2.out, show decide (k = 0) = true by simp [hk0]]; rfl
                · exact HOk0.out j (by omega)
              have hk1 : decide ((0 : Int) < k) = false := by simp; omega
              have hk2 : decide (0 < k) = false := by simp; omega
              clear hk0
              go_wp2
              go_quiet (fail)
              go_wp2
              go_roundg (way.length - (k + 1))
              case measure => have := HGK.out; omega
              case rel => exact ⟨k + 1, _, rfl, by go_num, by omega, rfl, HOk1⟩
            · obtain ⟨q, hkq⟩ : ∃ q, k = q + 1 := ⟨k - 1, by omega⟩
              have hk1 : decide ((0 : Int) < k) = true := by simp; omega
              have hk2 : decide (0 < k) = true := by simp; omega
              have hw1 : IntKind.i64.wrap ((k : Int) - 1) = (q : Int) := by
                rw [hkq]
                have : ((q + 1 : Nat) : Int) - 1 = q := by omega
                rw [this]
                exact IntWalk.i64_in _ ⟨by omega, by omega⟩
              have ep := HDT.out q (by omega)
              have hpq := HOk.out q (by omega)
              simp only [okAt, Bool.and_eq_true, decide_eq_true_eq] at hpq
              obtain ⟨⟨y0, y1⟩, -⟩ := hpq
              have HAt3 : Hid (okAt g way k = decide ((u : Int) ∈ g.succ.getD (way.getD q 0).toNat [])) := by
                show _ = _
                rw [HAt2.out, show decide (k = 0) = false by simpa using hk0, show k - 1 = q by omega]; rfl
              generalize way.getD q 0 = yi at *
              obtain ⟨y, rfl⟩ : ∃ y : Nat, yi = y := ⟨yi.toNat, by omega⟩
              rw [Int.toNat_natCast] at HAt3
              have hys : y < g.succ.length := by rw [(valid_lens HVT.out).2.2]; omega
              have hysI : (y : Int) < g.succ.length := by omega
              have hqI : (q : Int) < way.length := by omega
              have hq0 : (0 : Int) ≤ q := by omega
              obtain rfl := HD2.out (by omega)
              obtain ⟨e7, i7⟩ := HDD.out y hys
              have e7 := cellB HB3.out.bl e7
              have i7 := i7.below HB3.out.bl
              obtain ⟨aV, cV, hvV⟩ := i7.shape
              rw [hvV] at e7 i7
              have HCt : Hid (∀ n', Calls Try.prog 32 #[.slice aV (g.succ.getD y []).length cV, .int .i64 (u : Int)] (w3.drewN n') (Quiet (.bool (decide ((u : Int) ∈ g.succ.getD y []))) (w3.drewN n'))) := fun n' => Contains_c _ _ _ _ (i7.below (below_draws _ _ _))
              have HKQ := Lib.hid hkq
              have HOk0 := Lib.hid HOk.out
              clear hk0 hkq hvV i7 y0 y1
              generalize (g.succ.getD y []).length = lx at *
              cases hd : decide ((u : Int) ∈ g.succ.getD y [])
              · have HE := Lib.hid (HBad.out (by rw [HAt3.out, hd]))
                rw [hd] at HCt
                clear hd
                go_wp2
                go_quiet ((go_at_call 32; refine (HCt.out _).mono ?_; rintro e w' ⟨rfl, n, rfl⟩; exact ⟨rfl, _, by rw [World.drewN_drewN, Nat.add_assoc]⟩))
                go_wp2
                go_ret
                exact ⟨ret_int HE.out.symm, by rw [World.drewN_drewN]; exact HB3.out.bl.trans (below_draws _ _ _)⟩
              · have HOk1 : Hid (∀ j, j < k + 1 → okAt g way j = true) := fun j hj => by
                  by_cases e : j = k
                  · rw [e, HAt3.out, hd]
                  · exact HOk0.out j (by omega)
                rw [hd] at HCt
                clear hd
                go_wp2
                go_quiet ((go_at_call 32; refine (HCt.out _).mono ?_; rintro e w' ⟨rfl, n, rfl⟩; exact ⟨rfl, _, by rw [World.drewN_drewN, Nat.add_assoc]⟩))
                go_wp2
                go_roundg (way.length - (k + 1))
                case measure => have := HGK.out; omega
                case rel => exact ⟨k + 1, _, rfl, by go_num, by omega, rfl, HOk1⟩
      · obtain rfl : k = way.length := by omega
        have HOW : Hid (okW g way = true) := List.all_eq_true.2 fun j hj => HOk.out j (List.mem_range.1 hj)
        have HWE : Hid (winrB g P = leastW g P.loop % 2) := by
          show _ = _
          rw [HWA.out, if_pos HOW.out]
        have HLo : Hid (∀ j, j < P.loop.length → 0 ≤ P.loop.getD j 0 ∧ P.loop.getD j 0 < g.owner.length) := fun j hj => by
          have := okW_at HOW.out (i := P.stem.length + j) (by rw [HWL.out]; omega)
          rw [HLW.out j hj] at this
          exact this
        have HB4 := Lib.hid (HB3.out.step (below_draws w3 _ nn))
        have e1 := HB3.out.c1 1 rfl
        have p1 := HB3.out.c2 1 rfl
        obtain ⟨bL, oL, hld, -, hlt2⟩ := (HJ1.out.below HB3.out.bl).dat
        obtain rfl := hld hl0
        have HLT := Lib.hid hlt2
        have el := hlt2 0 hl0
        rw [Nat.add_zero] at el
        obtain ⟨f0, f1⟩ := HLo.out 0 hl0
        have hpl : g.prio.length = g.owner.length := (valid_lens HVT.out).2.1
        obtain ⟨bP, oP, hpd, -, hpt⟩ := (HI1.out.below HB3.out.bl).dat
        obtain rfl := hpd (by omega)
        have HPT := Lib.hid hpt
        have HLS := Lib.hid (fun k hk => leastK_snoc g P.loop k hk)
        have HLd := Lib.hid (leastK_all g P.loop)
        have HNN : Hid (∀ k, 0 ≤ leastK g P.loop k) := fun k => least_nn HVT.out _ _ (prio_nn HVT.out _)
        have HZ : Hid (leastK g P.loop 0 = g.prio.getD (P.loop.getD 0 0).toNat 0) := rfl
        generalize hx0 : P.loop.getD 0 0 = x0 at *
        have HX0 := Lib.hid hx0
        obtain ⟨u0, rfl⟩ : ∃ u : Nat, x0 = u := ⟨x0.toNat, by omega⟩
        have ep := hpt u0 (by omega)
        have hu0 : (u0 : Int) < g.prio.length := by omega
        have hl0I : (0 : Int) < P.loop.length := by omega
        rw [Int.toNat_natCast] at HZ
        have HPL := Lib.hid hpl
        clear hld hlt2 hpd hpt f0 f1 hx0 hpl
        generalize g.prio.getD u0 0 = pv0 at *
        go_wp2
        go_quiet (fail)
        go_wp2
        clear el ep hu0 hl0I e1
        go_loopg [8, 10, 75] P.loop.length (fun gh m _ i wr => ∃ k : Nat, gh = P.loop.length - k ∧ i = .int .i64 k ∧ m = .int .i64 (leastK g P.loop k) ∧ k ≤ P.loop.length ∧ wr = w3.drewN (nn + nq))
        case atStart => exact ⟨0, rfl, rfl, by rw [HZ.out], by omega, rfl⟩
        case round =>
          obtain ⟨k, hgk, rfl, rfl, hk, rfl⟩ := hrel
          have HGK2 := Lib.hid hgk
          clear hgk
          have e1 := HB3.out.c1 1 rfl
          by_cases hkl : k < P.loop.length
          · have el := HLT.out k hkl
            obtain ⟨f0, f1⟩ := HLo.out k hkl
            have HSn := Lib.hid (HLS.out k hkl)
            generalize P.loop.getD k 0 = x at *
            obtain ⟨u, rfl⟩ : ∃ u : Nat, x = u := ⟨x.toNat, by omega⟩
            have hup : u < g.prio.length := by rw [HPL.out]; omega
            have ep := HPT.out u hup
            have hui : (u : Int) < g.prio.length := by omega
            rw [Int.toNat_natCast] at HSn
            generalize g.prio.getD u 0 = pv at *
            generalize leastK g P.loop k = lk at *
            clear f0 f1
            go_wp2
            all_goals
              go_roundg (P.loop.length - (k + 1))
              case measure => have := HGK2.out; omega
              case rel => exact ⟨k + 1, rfl, by go_num, by rw [HSn.out]; congr 1; omega, by omega, rfl⟩
          · obtain rfl : k = P.loop.length := by omega
            have hnn := HNN.out P.loop.length
            have HLd2 := Lib.hid HLd.out
            generalize leastK g P.loop P.loop.length = lk at *
            go_wp2
            go_ret
            exact ⟨ret_int (by rw [HWE.out, ← HLd2.out]), HB3.out.bl.trans (below_draws _ _ _)⟩

end Go.Proofs.Ytkbiopjinegckaa
