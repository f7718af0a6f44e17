/- What the program's halves computes: the closure half. -/
import Derived.Test.YtlfackilmpnlhaaDoorSg18
namespace Go.Proofs.YtlfackilmpnlhaaDoor
open Go.RowKit Go.Shelf
attribute [local go_sem] Oper.semAt_some

/-- What a round keeps, told step by step. -/
def KK (B n₀ Bs : Nat) (W A : World) : Prop := KeepsFrom B W A ∧ KpW n₀ Bs W A
theorem KK.refl (B n₀ Bs : Nat) (W : World) : KK B n₀ Bs W W := ⟨KeepsFrom.refl _ _, KpW.refl _ _ _⟩
theorem KK.drewN {B n₀ Bs : Nat} {W A : World} (h : KK B n₀ Bs W A) (n : Nat) : KK B n₀ Bs W (A.drewN n) := ⟨h.1.trans (keeps_drewN _ _ _), h.2.1.trans (below_draws _ _ _), h.2.2⟩
theorem KK.drew {B n₀ Bs : Nat} {W A : World} (h : KK B n₀ Bs W A) : KK B n₀ Bs W A.drew := ⟨h.1.trans ((KeepsOthers.drew _).from _), h.2.1.trans (Below.drew (Below.refl _ _)), h.2.2⟩
theorem KK.set {B n₀ Bs : Nat} {W A : World} (h : KK B n₀ Bs W A) {b : Nat} (hne : Bs ≠ b) (hle : n₀ ≤ b) (v : Value) : KK B n₀ Bs W (A.setCell ⟨b, 0, none⟩ v) :=
  ⟨h.1.trans (keeps_set _ _ _ _), h.2.1.setCell (p := ⟨b, 0, none⟩) hle v, (heap_setCell_other A ⟨b, 0, none⟩ Bs v hne).trans h.2.2⟩

/-- The boxes of half: the parameter, the sum, the product. -/
structure HvX (w : World) (q : Bool) (st : Int × Int) (W : World) : Prop where
  b0 : Boxed W w.heap.size 4 (.bool q)
  b1 : Boxed W (w.heap.size + 1) 3 (.int .i64 st.1)
  b2 : Boxed W (w.heap.size + 1 + 1) 3 (.int .i64 st.2)

theorem HvX.below {w W W3 : World} {q : Bool} {st : Int × Int} (h : HvX w q st W) (hb : Below W.heap.size W W3) : HvX w q st W3 := ⟨box_bel hb h.b0, box_bel hb h.b1, box_bel hb h.b2⟩
theorem HvX.drew {w W : World} {q : Bool} {st : Int × Int} (h : HvX w q st W) : HvX w q st W.drew := ⟨h.b0, h.b1, h.b2⟩
theorem HvX.drewN {w W : World} {q : Bool} {st : Int × Int} (h : HvX w q st W) (n : Nat) : HvX w q st (W.drewN n) := ⟨h.b0, h.b1, h.b2⟩
theorem HvX.sum {w W : World} {q : Bool} {st : Int × Int} (h : HvX w q st W) (s : Int) : HvX w q (s, st.2) (W.setCell ⟨w.heap.size + 1, 0, none⟩ (.int .i64 s)) :=
  ⟨h.b0.other (by omega) _, h.b1.set _, h.b2.other (by omega) _⟩
theorem HvX.own {w W : World} {q : Bool} {st : Int × Int} (h : HvX w q st W) (o : Int) : HvX w q (st.1, o) (W.setCell ⟨w.heap.size + 1 + 1, 0, none⟩ (.int .i64 o)) :=
  ⟨h.b0.other (by omega) _, h.b1.other (by omega) _, h.b2.set _⟩
theorem hvX_own (w : World) (q : Bool) {α : Type} (f : α → Int × Int) : Own (fun (s : α) W => HvX w q (f s) W) := fun s X Y row h hg hr =>
  ⟨boxed_own _ _ (fun (_ : Unit) => Value.bool q) () X Y row h.b0 hg hr, boxed_own _ _ (fun s => Value.int .i64 (f s).1) s X Y row h.b1 hg hr, boxed_own _ _ (fun s => Value.int .i64 (f s).2) s X Y row h.b2 hg hr⟩

set_option maxRecDepth 100000 in
set_option maxHeartbeats 4000000 in
theorem half1_c (w : World) (ao : Option Addr) (cap b off A0 A1 : Nat) (l : List Sig) (a : Int) (q : Bool) (hl : SArr w ao cap b off l) (hv : validS l = true) (h0 : 0 ≤ a) (ha : I64 a)
    (hc0 : w.cell? ⟨A0, 0, none⟩ = some (.slice ao l.length cap)) (hc1 : w.cell? ⟨A1, 0, none⟩ = some (.int .i64 a)) :
    Calls Tryd.prog 48 #[.bool q, .pointer (some ⟨A0, 0, none⟩), .pointer (some ⟨A1, 0, none⟩)] w (Calm (.int .i64 (halfL q l a)) w) := by
  obtain ⟨hz, hl1, hl6, -⟩ := valid_sizes hv
  have hn := hl.nb
  unfold I64 at ha
  have hb : b < w.heap.size := World.block_lt_of_cell? w _ (hl.nn 0 (by omega))
  have hA0 : A0 < w.heap.size := World.block_lt_of_cell? w _ hc0
  have hA1 : A1 < w.heap.size := World.block_lt_of_cell? w _ hc1
  have hne0 : ¬ A0 = w.heap.size := by omega
  have hne1 : ¬ A0 = w.heap.size + 1 := by omega
  have hne2 : ¬ A0 = w.heap.size + 1 + 1 := by omega
  have HV := Lib.hid hv
  have HZ := Lib.hid hz
  have HALL := Lib.hid (hF_all hz q a)
  clear hz hv
  have hmx : Tryd.prog.follows .mixedOrders = true := by kernel_rfl
  refine callsIn_wide (n := 5) |>.1 ?_
  refine callsIn_of_wp_marks0 Tryd.func48 rfl trivial ?_
  simp only [Tryd.ntmps48, List.size_toArray, List.length_cons, List.length_nil, Nat.reduceAdd, Nat.reduceSub, Array.replicate_succ, Array.replicate_zero, List.push_toArray, List.append_toArray, List.nil_append, List.cons_append]
  gi_upto_region 2 with (fail)
  have hX0 : HvX w q (0, 1) (((w.alloc (.cells #[.bool q] 4)).alloc (.cells #[.int .i64 0] 3)).alloc (.cells #[.int .i64 1] 3)) := by
    have e2 := Boxed.new ((w.alloc (.cells #[.bool q] 4)).alloc (.cells #[.int .i64 0] 3)) 3 (.int .i64 1)
    have e1 := (Boxed.new (w.alloc (.cells #[.bool q] 4)) 3 (.int .i64 0)).alloc (.cells #[.int .i64 1] 3)
    have e0 := ((Boxed.new w 4 (.bool q)).alloc (.cells #[.int .i64 0] 3)).alloc (.cells #[.int .i64 1] 3)
    simp only [World.size_alloc] at e2 e1
    exact ⟨e0, e1, e2⟩
  have hB0 : Below w.heap.size w (((w.alloc (.cells #[.bool q] 4)).alloc (.cells #[.int .i64 0] 3)).alloc (.cells #[.int .i64 1] 3)) := (by repeat (first | exact Below.refl _ _ | assumption | (refine belA ?_ _) | (refine belD ?_ _)))
  generalize (((w.alloc (.cells #[.bool q] 4)).alloc (.cells #[.int .i64 0] 3)).alloc (.cells #[.int .i64 1] 3)) = w1 at *
  have q0 := cellB hB0 hc0
  have hz1 : w.heap.size + 3 ≤ w1.heap.size := by have := hX0.b2.lt; omega
  gi_wp2_with fail
  refine ⟨trivial, ?_⟩
  refine (callsIn_wide.2 (weights_c _ _ _ _)).mono ?_
  rintro e w2 ⟨rfl, hw2⟩
  gi_wp2_with fail
  rw [← hw2]
  have hB2 : Below w.heap.size w w2 := by rw [hw2]; exact hB0.trans (((Below.refl _ w1).alloc (Nat.le_refl _) _).mono hB0.size)
  have hX2 : HvX w q (0, 1) w2 := by rw [hw2]; exact hX0.below (bel_box _)
  have hZ2 : w1.heap.size < w2.heap.size := by rw [hw2]; simp
  have e4 : w2.cell? ⟨w1.heap.size, 0, none⟩ = some (.slice ao l.length cap) := by rw [hw2]; exact new1 _ _ _
  clear hw2 hX0 hB0 q0
  generalize w1.heap.size = Bs at *
  refine wpIn_rangeFunc_ownG rfl (by omega) (gf := 47) (lb := #[.pointer (some ⟨Bs, 0, none⟩)]) rfl trivial (enters_of Tryd.func47 (by kernel_rfl) rfl)
    (weights_stops Fence.wide (5 - 1) trivial rfl (by omega) Bs w.heap.size b off cap ao l HV.out hb w2 (by omega) (by omega) e4 (hl.below hB2)) KpW.trans (KpW.put (by omega) (by omega)) (Below.refl _ _) (fun _ => rfl)
    (fun pre W => HvX w q (hF l q a pre) W ∧ Below w.heap.size w W)
    (fun _ _ _ => False)
    (OwnFrom.and (Own.from (hvX_own w q (fun pre => hF l q a pre)) _) (ownFrom_below (Nat.le_refl _) (by omega)))
    (fun _ _ _ _ _ hs _ _ => hs)
    ⟨hX2, hB2⟩
    ?a1 ?assign ?body ?done ?stop
  case assign =>
    intro lY x W K hK
    unfold encW
    gi_wp2
    exact hK
  case body =>
    rintro lY pre x W ⟨hX, hB⟩ hpl
    obtain ⟨x, hx⟩ := x
    have hd : 1 ≤ 5 - 1 - 1 := by omega
    have q0 := hX.b0.cell
    have q1 := hX.b1.cell
    have f1 := hX.b1.frozen
    have q2 := hX.b2.cell
    have f2 := hX.b2.frozen
    have c0 := cellB hB hc0
    have c1 := cellB hB hc1
    have hlW := hl.below hB
    have n1 := hlW.ni x hx
    have n2 := hlW.nz x hx
    obtain rfl := hl.ad (by omega)
    obtain ⟨hs1, hs2⟩ := sizes_posV HZ.out _ (List.getElem_mem hx)
    obtain ⟨hp1, hp2⟩ := prodL_takeV HZ.out hl6 x
    obtain ⟨hb0, hb1, hb2⟩ := hF_bd HZ.out q a pre
    have hb3 : (hF l q a pre).2 ≤ 4096 := Int.le_trans hb2 (pow4 (by omega))
    have HSN : Hid (hF l q a (pre ++ [⟨x, hx⟩]) = if (l[x].inp == q) = true then ((hF l q a pre).1 + (hF l q a pre).2 * (a / prodL (l.take x) % l[x].size), (hF l q a pre).2 * l[x].size) else hF l q a pre) := hF_snoc _ _ _ _ _
    have HX := Lib.hid hX
    have hq0 : 0 ≤ a / prodL (l.take x) := Int.ediv_nonneg h0 (by omega)
    have hq1 : a / prodL (l.take x) ≤ a := Int.ediv_le_self _ h0
    have hr0 := Int.emod_nonneg (a / prodL (l.take x)) (show l[x].size ≠ 0 by omega)
    have hr1 := Int.emod_lt_of_pos (a / prodL (l.take x)) (show 0 < l[x].size by omega)
    have ht1 : a.tdiv (prodL (l.take x)) = a / prodL (l.take x) := Int.tdiv_eq_ediv_of_nonneg h0
    have ht2 : (a / prodL (l.take x)).tmod l[x].size = a / prodL (l.take x) % l[x].size := Int.tmod_eq_emod_of_nonneg hq0
    have hw1 : IntKind.i64.wrap (a / prodL (l.take x)) = a / prodL (l.take x) := IntWalk.i64_in _ ⟨by omega, by omega⟩
    have hw3 : IntKind.i64.wrap (a / prodL (l.take x) % l[x].size) = a / prodL (l.take x) % l[x].size := IntWalk.i64_in _ ⟨by omega, by omega⟩
    have hz0 : ¬ prodL (l.take x) = 0 := by omega
    have hz1 : ¬ l[x].size = 0 := by omega
    have hm := mk_bounds (show 1 ≤ (hF l q a pre).2 by omega) hb3 hr0 hr1 hs2
    have hpw := prod_wrap' (show 1 ≤ (hF l q a pre).2 by omega) hb3 hs1 hs2
    clear hlW hX hb2 hp2
    generalize prodL (l.take x) = pw at *
    generalize l[x].size = z at *
    generalize a / pw % z = rm at *
    generalize a / pw = qt at *
    generalize hst : hF l q a pre = st at *
    have HST := Lib.hid hst
    clear hst
    obtain ⟨s, o⟩ := st
    simp only at hb0 hb1 hb3 q1 q2 hm hpw
    obtain ⟨⟨hm0, hm1⟩, hmw⟩ := hm
    have hmw2 : IntKind.i64.wrap (rm * o) = o * rm := by rw [Int.mul_comm rm o]; exact hmw
    have hmw3 : IntKind.i64.wrap (s + o * rm) = s + o * rm := IntWalk.i64_in _ ⟨by omega, by omega⟩
    clear hmw
    cases hq : (l[x].inp == q)
    · gi_wp2
      refine region_quiet_round hmx (by kernel_rfl) (by kernel_rfl) ?_
      ((repeat (go_big_quiet_step (fail))); refine wpQuiet_nil ?_; rintro _ ⟨nq, rfl⟩)
      gi_wp2
      exact ⟨keeps_drewN _ _ _, ⟨below_draws _ _ _, rfl⟩, by rw [HSN.out, hq]; exact HX.out.drewN nq, hB.trans (below_draws _ _ _)⟩
    · have HSN2 : Hid (hF l q a (pre ++ [⟨x, hx⟩]) = (s + o * rm, o * z)) := by
        show _ = _
        rw [HSN.out, hq]; rfl
      gi_wp2
      refine region_quiet_round hmx (by kernel_rfl) (by kernel_rfl) ?_
      ((repeat (go_big_quiet_step (fail))); refine wpQuiet_nil ?_; rintro _ ⟨nq, rfl⟩)
      gi_wp2
      refine region_tail_round 13 hmx (by kernel_rfl) (by kernel_rfl) ?_
      simp only [List.take_succ_cons, List.take_zero, List.drop_succ_cons, List.drop_zero]
      repeat still_step
      refine wpStill_nil ?_
      gi_wp2
      refine region_tail_round 7 hmx (by kernel_rfl) (by kernel_rfl) ?_
      simp only [List.take_succ_cons, List.take_zero, List.drop_succ_cons, List.drop_zero]
      repeat still_step
      refine wpStill_nil ?_
      gi_wp2
      have hk := ((((KK.refl w2.heap.size w.heap.size Bs W).drewN nq).drew.set (b := w.heap.size + 1) (by omega) (by omega) (.int .i64 (s + o * rm))).drew).set (b := w.heap.size + 1 + 1) (by omega) (by omega) (.int .i64 (o * z))
      exact ⟨hk.1, hk.2, by rw [HSN2.out]; exact ((((HX.out.drewN nq).drew).sum _).drew).own _, hB.trans hk.2.1⟩
  case done =>
    rintro D ys W hD rfl ⟨hX, hB⟩ hK
    have q1 := hX.b1.cell
    gi_wp2
    refine ⟨by simp, .inl ⟨_, _, rfl, run_takeDeferred hK, ?_⟩⟩
    exact ⟨_, results_tmp rfl _ _ _, by rw [HALL.out]; rfl, hB.trans (belowK_b (w := w) (Nat.le_refl _) W D _ _ (by omega) hK rfl rfl)⟩
  case stop =>
    rintro D c pre W _ _ h _
    exact h.elim

end Go.Proofs.YtlfackilmpnlhaaDoor
