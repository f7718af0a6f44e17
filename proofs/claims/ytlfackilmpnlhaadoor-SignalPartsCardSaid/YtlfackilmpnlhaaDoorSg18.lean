/- What the program's Make computes: the letter. -/
import Derived.Test.YtlfackilmpnlhaaDoorSg17
namespace Go.Proofs.YtlfackilmpnlhaaDoor
open Go.RowKit Go.Shelf
attribute [local go_sem] Oper.semAt_some

theorem keeps_drewN (B : Nat) (W : World) (n : Nat) : KeepsFrom B W (W.drewN n) := (show KeepsOthers W (W.drewN n) from ⟨Nat.le_refl _, fun _ _ h _ => h⟩).from _
theorem MkY.drewN {w W : World} {vs vv : Value} {r : Int} {q : Bool} (h : MkY w vs vv r q W) (n : Nat) : MkY w vs vv r q (W.drewN n) := ⟨h.b0, h.b1, h.b2, h.b3⟩
theorem MkX.drewN {w W : World} {vs vv : Value} {B n r : Int} {b4 : Nat} {q : Bool} (h : MkX w vs vv B n r b4 q W) (k : Nat) : MkX w vs vv B n r b4 q (W.drewN k) := ⟨h.b0, h.b1, h.b2, h.b3, h.b5⟩
theorem keeps_set (B : Nat) (W : World) (b : Nat) (v : Value) : KeepsFrom B W (W.setCell ⟨b, 0, none⟩ v) := (KeepsOthers.setCell W ⟨b, 0, none⟩ v).from _

set_option maxRecDepth 100000 in
set_option maxHeartbeats 4000000 in
theorem Make_yes (w : World) (vl vv : Value) (l : List Sig) (vals : List Int) (hK : Keys w) (hl : IsSigs w vl l) (hvv : IsInts w vv vals)
    (hv : validS l = true) (hlen : vals.length = l.length) :
    Calls Tryd.prog 11 #[vl, vv] w (MkPost (match mkL l vals with | some x => (x, true) | none => (0, false)) w) := by
  have hV : Hid (∀ W, Below w.heap.size w W → Calls Tryd.prog 13 #[vl] W (Quiet (.bool true) W)) := fun W hW => by
    have := SValid_c W _ l (hK.below hW) (hl.below hW)
    rwa [hv] at this
  obtain ⟨R, HR⟩ : ∃ R : Int × Bool, Hid ((match mkL l vals with | some x => (x, true) | none => (0, false)) = R) := ⟨_, rfl⟩
  rw [HR.out]
  obtain ⟨hz, hl1, hl6, -⟩ := valid_sizes hv
  obtain ⟨ao, cap, b, off, rfl, hl⟩ := hl
  obtain ⟨⟨av, cv, bv, ov, rfl, hvv⟩, hvr⟩ := hvv
  have hn := hl.nb
  have hnv := hvv.nb
  have hb : b < w.heap.size := World.block_lt_of_cell? w _ (hl.nn 0 (by omega))
  have hbv : bv < w.heap.size := World.block_lt_of_cell? w _ (hvv.el 0 (by omega))
  have hne : ((vals.length : Int) != l.length) = false := by simp; omega
  have HLN := Lib.hid hlen
  have HV := Lib.hid hv
  have HZ := Lib.hid hz
  have HVR := Lib.hid hvr
  clear hz hv hK hlen hvr
  have hmx : Tryd.prog.follows .mixedOrders = true := by kernel_rfl
  refine callsIn_wide (n := 5) |>.1 ?_
  refine callsIn_of_wp_marks0 Tryd.func11 rfl trivial ?_
  simp only [Tryd.ntmps11, List.size_toArray, List.length_cons, List.length_nil, Nat.reduceAdd, Nat.reduceSub, Array.replicate_succ, Array.replicate_zero, List.push_toArray, List.append_toArray, List.nil_append, List.cons_append]
  gi_wp2_with fail
  refine ⟨trivial, ?_⟩
  refine (callsIn_wide.2 (hV.out _ (by repeat (first | exact Below.refl _ _ | assumption | (refine belA ?_ _) | (refine belD ?_ _))))).mono ?_
  rintro e w1 ⟨rfl, n1, hw1⟩
  have hY := MkY.mk' w (.slice ao l.length cap) (.slice av vals.length cv)
  have hB0 : Below w.heap.size w ((((w.alloc (.cells #[.slice ao l.length cap] 22)).alloc (.cells #[.slice av vals.length cv] 23)).alloc (.cells #[.int .i64 0] 3)).alloc (.cells #[.bool false] 4)) := (by repeat (first | exact Below.refl _ _ | assumption | (refine belA ?_ _) | (refine belD ?_ _)))
  generalize ((((w.alloc (.cells #[.slice ao l.length cap] 22)).alloc (.cells #[.slice av vals.length cv] 23)).alloc (.cells #[.int .i64 0] 3)).alloc (.cells #[.bool false] 4)) = w4 at *
  have hY1 : MkY w (.slice ao l.length cap) (.slice av vals.length cv) 0 false w1 := by rw [hw1]; exact hY.below (below_draws _ _ _)
  have hB1 : Below w.heap.size w w1 := by rw [hw1]; exact belD hB0 _
  clear hw1 hY hB0 hV
  have q0 := hY1.b0.cell
  have q1 := hY1.b1.cell
  have hz1 : w.heap.size + 4 ≤ w1.heap.size := by have := hY1.b3.lt; omega
  have hz9 : w.heap.size < w1.heap.size := by omega
  have hne1 : ¬ w.heap.size = w1.heap.size := by omega
  gi_wp2_with fail
  refine ⟨trivial, ?_⟩
  refine (callsIn_wide.2 (weights_c _ _ _ _)).mono ?_
  rintro e w2 ⟨rfl, hw2⟩
  gi_wp2_with fail
  rw [← hw2]
  have hB2 : Below w.heap.size w w2 := by rw [hw2]; exact hB1.trans ((((Below.refl _ w1).alloc (Nat.le_refl _) _).alloc (by simp) _).mono hB1.size)
  have hX2 : MkX w (.slice ao l.length cap) (.slice av vals.length cv) 0 0 0 w1.heap.size false w2 := by
    rw [hw2]
    exact ⟨(hY1.b0.alloc _).alloc _, (hY1.b1.alloc _).alloc _, (hY1.b2.alloc _).alloc _, (hY1.b3.alloc _).alloc _, (Boxed.new w1 3 (.int .i64 0)).alloc _⟩
  have hZ2 : w1.heap.size + 1 < w2.heap.size := by rw [hw2]; simp
  have e4 : w2.cell? ⟨w1.heap.size + 1, 0, none⟩ = some (.slice ao l.length cap) := by
    have := new1 (w1.alloc (.cells #[.int .i64 0] 3)) (.slice ao l.length cap) 22
    rw [World.size_alloc] at this
    rw [hw2]; exact this
  clear hw2 hY1 hB1 q0 q1 hz9 hne1
  generalize w1.heap.size = b4 at *
  refine wpIn_rangeFunc_ownG rfl (by omega) (gf := 47) (lb := #[.pointer (some ⟨b4 + 1, 0, none⟩)]) rfl trivial (enters_of Tryd.func47 (by kernel_rfl) rfl)
    (weights_stops Fence.wide (5 - 1) trivial rfl (by omega) (b4 + 1) w.heap.size b off cap ao l HV.out hb w2 (by omega) (by omega) e4 (hl.below hB2)) KpW.trans (KpW.put (by omega) (by omega)) (Below.refl _ _) (fun _ => rfl)
    (fun pre W => (MkX w (.slice ao l.length cap) (.slice av vals.length cv) 0 (mF l vals pre) 0 b4 false W ∧ (∀ x ∈ pre, okV l vals x)) ∧ Below w.heap.size w W)
    (fun c _ W => (MkY w (.slice ao l.length cap) (.slice av vals.length cv) 0 false W ∧ (c = .ret ∧ mkL l vals = none)) ∧ Below w.heap.size w W)
    (OwnFrom.and (OwnFrom.and (Own.from (mkX_own w _ _ 0 (fun pre => mF l vals pre) 0 b4 false) _) (ownFrom_pure _ _)) (ownFrom_below (Nat.le_refl _) (by omega)))
    (fun c => OwnFrom.and (OwnFrom.and (Own.from (fun _ X Y row h hg hr => ⟨boxed_own _ _ (fun (_ : Unit) => _) () X Y row h.b0 hg hr, boxed_own _ _ (fun (_ : Unit) => _) () X Y row h.b1 hg hr, boxed_own _ _ (fun (_ : Unit) => Value.int .i64 0) () X Y row h.b2 hg hr, boxed_own _ _ (fun (_ : Unit) => Value.bool false) () X Y row h.b3 hg hr⟩) _) (ownFrom_pure _ _)) (ownFrom_below (Nat.le_refl _) (by omega)))
    ⟨⟨hX2, by simp⟩, hB2⟩
    ?a1 ?assign ?body ?done ?stop
  case assign =>
    intro lY x W K hK
    unfold encW
    gi_wp2
    exact hK
  case body =>
    rintro lY pre x W ⟨⟨hX, hp⟩, hB⟩ hpl
    obtain ⟨x, hx⟩ := x
    have hd : 1 ≤ 5 - 1 - 1 := by omega
    have q0 := hX.b0.cell
    have q1 := hX.b1.cell
    have q2 := hX.b2.cell
    have f2 := hX.b2.frozen
    have q3 := hX.b3.cell
    have f3 := hX.b3.frozen
    have q5 := hX.b5.cell
    have f5 := hX.b5.frozen
    have hlW := hl.below hB
    have n2 := hlW.nz x hx
    have hxv : x < vals.length := by rw [HLN.out]; exact hx
    have c3 := cellB hB (hvv.el x hxv)
    unfold ivF at c3
    rw [getD_lt _ _ _ hxv] at c3
    obtain rfl := hl.ad (by omega)
    obtain rfl := hvv.ad (by omega)
    obtain ⟨hs1, hs2⟩ := sizes_posV HZ.out _ (List.getElem_mem hx)
    obtain ⟨hp1, hp2⟩ := prodL_takeV HZ.out hl6 x
    obtain ⟨hm0, hm1⟩ := mF_bd HZ.out hl6 vals pre hp
    have HOK : Hid (0 ≤ vals[x] ∧ vals[x] < l[x].size ↔ okV l vals x) := by
      show _ ↔ _
      unfold okV
      rw [getD_lt _ _ _ hxv, getD_lt _ _ _ hx]
    have HSN : Hid (mF l vals (pre ++ [⟨x, hx⟩]) = mF l vals pre + prodL (l.take x) * vals[x]) := by
      show _ = _
      rw [mF_snoc, getD_lt _ _ _ hxv]
    have HPR := Lib.hid hp
    have HX := Lib.hid hX
    have hpl6 : (pre.length : Int) ≤ 5 := by omega
    have HBAD : Hid (¬ (0 ≤ vals[x] ∧ vals[x] < l[x].size) → mkL l vals = none) := fun h => mkL_bad hx (fun h2 => h (HOK.out.2 h2))
    have HMB : Hid (0 ≤ vals[x] → vals[x] < l[x].size → (0 ≤ prodL (l.take x) * vals[x] ∧ prodL (l.take x) * vals[x] ≤ 16384)) := fun h0 h1 => (mk_bounds hp1 hp2 h0 h1 hs2).1
    clear hlW hX hp
    generalize prodL (l.take x) = pw at *
    generalize mF l vals pre = m at *
    generalize l[x].size = z at *
    generalize vals[x] = v at *
    rcases (by omega : v < 0 ∨ (0 ≤ v ∧ z ≤ v) ∨ (0 ≤ v ∧ v < z)) with hc | ⟨hc, hc2⟩ | ⟨hc, hc2⟩
    · have hd0 : decide (v < 0) = true := decide_eq_true hc
      gi_wp2
      refine region_quiet_round hmx (by kernel_rfl) (by kernel_rfl) ?_
      ((repeat (go_big_quiet_step (fail))); refine wpQuiet_nil ?_; rintro _ ⟨nq, rfl⟩)
      gi_wp2
      have hY : MkY w (.slice (some ⟨b, off, none⟩) l.length cap) (.slice (some ⟨bv, ov, none⟩) vals.length cv) 0 false W := ⟨HX.out.b0, HX.out.b1, HX.out.b2, HX.out.b3⟩
      exact ⟨(keeps_drewN _ _ _).trans ((keeps_set _ _ _ _).trans (keeps_set _ _ _ _)), ⟨(hY.drewN _).res 0 false, rfl, HBAD.out (by omega)⟩, ((hB.trans (below_draws _ _ _)).setCell (p := ⟨w.heap.size + 1 + 1, 0, none⟩) (by simp; omega) _).setCell (p := ⟨w.heap.size + 1 + 1 + 1, 0, none⟩) (by simp; omega) _⟩
    · have hd0 : decide (v < 0) = false := decide_eq_false (by omega)
      have hd1 : decide (z ≤ v) = true := decide_eq_true hc2
      gi_wp2
      refine region_quiet_round hmx (by kernel_rfl) (by kernel_rfl) ?_
      ((repeat (go_big_quiet_step (fail))); refine wpQuiet_nil ?_; rintro _ ⟨nq, rfl⟩)
      gi_wp2
      have hY : MkY w (.slice (some ⟨b, off, none⟩) l.length cap) (.slice (some ⟨bv, ov, none⟩) vals.length cv) 0 false W := ⟨HX.out.b0, HX.out.b1, HX.out.b2, HX.out.b3⟩
      exact ⟨(keeps_drewN _ _ _).trans ((keeps_set _ _ _ _).trans (keeps_set _ _ _ _)), ⟨(hY.drewN _).res 0 false, rfl, HBAD.out (by omega)⟩, ((hB.trans (below_draws _ _ _)).setCell (p := ⟨w.heap.size + 1 + 1, 0, none⟩) (by simp; omega) _).setCell (p := ⟨w.heap.size + 1 + 1 + 1, 0, none⟩) (by simp; omega) _⟩
    · have hd0 : decide (v < 0) = false := decide_eq_false (by omega)
      have hd1 : decide (z ≤ v) = false := decide_eq_false (by omega)
      obtain ⟨hm2, hm3⟩ := HMB.out hc hc2
      have hw1 : IntKind.i64.wrap (v * pw) = pw * v := by rw [Int.mul_comm v pw]; exact IntWalk.i64_in _ ⟨by omega, by omega⟩
      have hw2 : IntKind.i64.wrap (m + pw * v) = m + pw * v := IntWalk.i64_in _ ⟨by omega, by omega⟩
      have HP2 : Hid (∀ y : Fin l.length, y ∈ pre ++ [⟨x, hx⟩] → okV l vals y) := fun y hy => (List.mem_append.1 hy).elim (HPR.out y) (fun e => by simp at e; subst e; exact HOK.out.1 ⟨hc, hc2⟩)
      generalize pw * v = pv at *
      gi_wp2
      refine region_quiet_round hmx (by kernel_rfl) (by kernel_rfl) ?_
      ((repeat (go_big_quiet_step (fail))); refine wpQuiet_nil ?_; rintro _ ⟨nq, rfl⟩)
      gi_wp2
      refine region_tail_round 8 hmx (by kernel_rfl) (by kernel_rfl) ?_
      simp only [List.take_succ_cons, List.take_zero, List.drop_succ_cons, List.drop_zero]
      repeat still_step
      refine wpStill_nil ?_
      gi_wp2
      have hb2 : Below w.heap.size W (((W.drewN nq).drew).setCell ⟨b4, 0, none⟩ (.int .i64 (m + pv))) := ((below_draws _ _ _).trans (Below.drew (Below.refl _ _))).setCell (p := ⟨b4, 0, none⟩) (by simp; omega) _
      exact ⟨(keeps_drewN _ _ _).trans (((KeepsOthers.drew _).from _).trans (keeps_set _ _ _ _)), ⟨hb2, by
        show (((W.drewN nq).drew).setCell ⟨b4, 0, none⟩ (.int .i64 (m + pv))).heap[b4 + 1]? = _
        rw [heap_setCell_other _ ⟨b4, 0, none⟩ (b4 + 1) _ (by simp)]; rfl⟩, ⟨by rw [HSN.out]; exact ((HX.out.drewN nq).drew).letter hz1 _, HP2.out⟩, hB.trans hb2⟩
  case done =>
    rintro D ys W hD rfl ⟨⟨hX, hp⟩, hB⟩ hK
    have hm := mkL_all HZ.out HLN.out hp
    have hr := HR.out
    rw [hm] at hr
    subst hr
    have q5 := hX.b5.cell
    have q2 := hX.b2.cell
    have f2 := hX.b2.frozen
    have q3 := hX.b3.cell
    have f3 := hX.b3.frozen
    have HX := Lib.hid hX
    clear hX hm hp HR
    generalize mF l vals (allF l.length) = m at *
    gi_wp2
    have hY : MkY w (.slice ao l.length cap) (.slice av vals.length cv) 0 false W := ⟨HX.out.b0, HX.out.b1, HX.out.b2, HX.out.b3⟩
    have hR := hY.res m true
    have hK' := (KeepsOthers.setCell (W.setCell ⟨w.heap.size + 1 + 1, 0, none⟩ (.int .i64 m)) ⟨w.heap.size + 1 + 1 + 1, 0, none⟩ (.bool true)).same D _ ((KeepsOthers.setCell W ⟨w.heap.size + 1 + 1, 0, none⟩ (.int .i64 m)).same D _ hK rfl) rfl
    have r2 := cell_kept hR.b2.cell (grownBy_putObj' _ D (.deferred none)) (fun r e => by cases e; exact ⟨_, hK', rfl⟩)
    have r3 := cell_kept hR.b3.cell (grownBy_putObj' _ D (.deferred none)) (fun r e => by cases e; exact ⟨_, hK', rfl⟩)
    have hB3 : Below w.heap.size w ((W.setCell ⟨w.heap.size + 1 + 1, 0, none⟩ (.int .i64 m)).setCell ⟨w.heap.size + 1 + 1 + 1, 0, none⟩ (.bool true)) := (hB.setCell (p := ⟨w.heap.size + 1 + 1, 0, none⟩) (by simp; omega) _).setCell (p := ⟨w.heap.size + 1 + 1 + 1, 0, none⟩) (by simp; omega) _
    refine ⟨by simp, .inl ⟨_, _, rfl, run_takeDeferred hK', ?_⟩⟩
    refine ⟨.tuple #[.int .i64 m, .bool true], by simp [results, Tryd.results11, go_sem, r2, r3], rfl, hB3.trans (belowK_b (w := w) (Nat.le_refl _) _ D _ _ (by omega) hK' rfl rfl)⟩
  case stop =>
    rintro D c pre W hD _ ⟨⟨hY, rfl, hm⟩, hB⟩ hK
    have hr := HR.out
    rw [hm] at hr
    subst hr
    have r2 := cell_kept hY.b2.cell (grownBy_putObj' _ D (.deferred none)) (fun r e => by cases e; exact ⟨_, hK, rfl⟩)
    have r3 := cell_kept hY.b3.cell (grownBy_putObj' _ D (.deferred none)) (fun r e => by cases e; exact ⟨_, hK, rfl⟩)
    gi_wp2
    refine ⟨by simp, .inl ⟨_, _, rfl, run_takeDeferred hK, ?_⟩⟩
    refine ⟨.tuple #[.int .i64 0, .bool false], by simp [results, Tryd.results11, go_sem, r2, r3], rfl, hB.trans (belowK_b (w := w) (Nat.le_refl _) W D _ _ (by omega) hK rfl rfl)⟩

theorem Make_c (w : World) (vl vv : Value) (l : List Sig) (vals : List Int) (hK : Keys w) (hl : IsSigs w vl l) (hvv : IsInts w vv vals) :
    Calls Tryd.prog 11 #[vl, vv] w (MkPost (mkR l vals) w) := by
  by_cases h : validS l = true ∧ vals.length = l.length
  · have := Make_yes w vl vv l vals hK hl hvv h.1 h.2
    unfold mkR
    rw [h.1, decide_eq_true h.2]
    exact this
  · have := Make_no w vl vv l vals hK hl hvv h
    unfold mkR
    rw [if_neg (by simp only [Bool.and_eq_true, decide_eq_true_eq]; exact h)]
    exact this

end Go.Proofs.YtlfackilmpnlhaaDoor
