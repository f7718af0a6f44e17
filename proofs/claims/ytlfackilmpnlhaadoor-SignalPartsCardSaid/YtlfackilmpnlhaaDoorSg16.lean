/- What the program's Value computes: where there is such a letter and signal. -/
import Derived.Test.YtlfackilmpnlhaaDoorSg15
import Derived.Sort.CutIn
import Derived.Test.YtlfackilmpnlhaaDoorSgRnd
namespace Go.Proofs.YtlfackilmpnlhaaDoor
open Go.RowKit Go.Shelf
attribute [local go_sem] Oper.semAt_some

theorem kpW_set {n₀ Bs : Nat} {W : World} {B : Nat} (hB : n₀ ≤ B) (hne : Bs ≠ B) (v : Value) : KpW n₀ Bs W (W.setCell ⟨B, 0, none⟩ v) :=
  ⟨(Below.refl n₀ W).setCell (p := ⟨B, 0, none⟩) hB v, heap_setCell_other W ⟨B, 0, none⟩ Bs v hne⟩

/-- A post that no panic meets. -/
abbrev noP (Q : Exit → Act → World → Prop) : Exit → Act → World → Prop
  | .panic _, _, _ => False
  | .normal, a, w => Q .normal a w
  | .ret, a, w => Q .ret a w
  | .exit i, a, w => Q (.exit i) a w
  | .goto t, a, w => Q (.goto t) a w
  | .outgrown, a, w => Q .outgrown a w

theorem callsIn_of_wp_marks0 {F : Fence} {n : Nat} {P : Program} {f : FuncId} {fn : Func} {c : Code} {args : Array Value} {w : World} {R : Ending → World → Prop}
    (hf : P.funcs[f]? = some fn) (hb : fn.body = some c) (hF : F.fn f)
    (h : c.wpIn F n P (noP (bodyPostM F n P fn R)) { tmps := args ++ Array.replicate (fn.ntmps - args.size) undef, defers := [] } w) (hro : F.round = none := by rfl) : CallsIn F n P f args w R :=
  callsIn_of_wp_marks hf hb hF (wpIn_mono h (fun e _ _ hq => by cases e <;> first | exact hq | exact hq.elim)) hro

theorem ValX.set {w W : World} {vs : Value} {a i r : Int} (h : ValX w vs a i r W) (r' : Int) : ValX w vs a i r' (W.setCell ⟨w.heap.size + 1 + 1 + 1, 0, none⟩ (.int .i64 r')) :=
  ⟨h.b0.other (by omega) _, h.b1.other (by omega) _, h.b2.other (by omega) _, h.b3.set _⟩

theorem ValX.drew {w W : World} {vs : Value} {a i r : Int} (h : ValX w vs a i r W) : ValX w vs a i r W.drew := ⟨h.b0, h.b1, h.b2, h.b3⟩

theorem sizes_posV {l : List Sig} (hz : ∀ s ∈ l, sizeB s = true) : ∀ s ∈ l, 2 ≤ s.size ∧ s.size ≤ 4 := fun s hs => by
  have := hz s hs
  simpa [sizeB] using this
theorem prodL_takeV {l : List Sig} (hz : ∀ s ∈ l, sizeB s = true) (h6 : l.length ≤ 6) (k : Nat) : 1 ≤ prodL (l.take k) ∧ prodL (l.take k) ≤ 4096 := by
  obtain ⟨hp1, hp2⟩ := prodL_bd (l.take k) (fun s hs => hz s (List.mem_of_mem_take hs))
  exact ⟨hp1, Int.le_trans hp2 (pow4 (by rw [List.length_take]; omega))⟩

set_option maxRecDepth 100000 in
set_option maxHeartbeats 4000000 in
theorem Value_yes (w : World) (vl : Value) (l : List Sig) (a : Int) (j : Nat) (ha : I64 a) (hK : Keys w) (hl : IsSigs w vl l)
    (h0 : 0 ≤ a) (h1 : a < lettersI l) (hj : j < l.length) :
    Calls Tryd.prog 25 #[vl, .int .i64 a, .int .i64 (j : Int)] w (Calm (.int .i64 (a / prodL (l.take j) % l[j].size)) w) := by
  have hL : Hid (∀ W, Below w.heap.size w W → Calls Tryd.prog 19 #[vl] W (Calm (.int .i64 (lettersI l)) W)) := fun W hW => Letters_c W vl l (hK.below hW) (hl.below hW)
  have hv := valid_of_letters h0 h1
  obtain ⟨hz, hl1, hl6, -⟩ := valid_sizes hv
  obtain ⟨ao, cap, b, off, rfl, hl⟩ := hl
  have hn := hl.nb
  unfold I64 at ha
  have hb : b < w.heap.size := World.block_lt_of_cell? w _ (hl.nn 0 (by omega))
  have hn6 : (l.length : Int) ≤ 6 := by omega
  have HV := Lib.hid hv
  have HZ := Lib.hid hz
  clear hz hv hK
  generalize lettersI l = x at *
  have d0 : decide (a < 0) = false := decide_eq_false (by omega)
  have d1 : decide (x ≤ a) = false := decide_eq_false (by omega)
  have d2 : decide ((j : Int) < 0) = false := decide_eq_false (by omega)
  have d3 : decide (l.length ≤ j) = false := decide_eq_false (by omega)
  have d4 : decide ((l.length : Int) ≤ (j : Int)) = false := decide_eq_false (by omega)
  have hmx : Tryd.prog.follows .mixedOrders = true := by kernel_rfl
  refine callsIn_wide (n := 5) |>.1 ?_
  refine callsIn_of_wp_marks0 Tryd.func25 rfl trivial ?_
  simp only [Tryd.ntmps25, List.size_toArray, List.length_cons, List.length_nil, Nat.reduceAdd, Nat.reduceSub, Array.replicate_succ, Array.replicate_zero, List.push_toArray, List.append_toArray, List.nil_append, List.cons_append]
  gi_upto_region 1 with (fail)
  have hV := ValX.mk' w (.slice ao l.length cap) a (j : Int)
  have hB0 : Below w.heap.size w ((((w.alloc (.cells #[.slice ao l.length cap] 22)).alloc (.cells #[.int .i64 a] 3)).alloc (.cells #[.int .i64 (j : Int)] 3)).alloc (.cells #[.int .i64 0] 3)) := (by repeat (first | exact Below.refl _ _ | assumption | (refine belA ?_ _) | (refine belD ?_ _)))
  generalize ((((w.alloc (.cells #[.slice ao l.length cap] 22)).alloc (.cells #[.int .i64 a] 3)).alloc (.cells #[.int .i64 (j : Int)] 3)).alloc (.cells #[.int .i64 0] 3)) = w4 at *
  gi_cut [26] from 43 (fun v wx => v = .bool false ∧ Below w4.heap.size w4 wx)
  case first =>
    have q0 := hV.b0.cell
    have q1 := hV.b1.cell
    have q2 := hV.b2.cell
    refine wpIn_wide.2 ?_
    go_region_with (go_at_call 19; refine (hL.out _ (by repeat (first | exact Below.refl _ _ | assumption | (refine belA ?_ _) | (refine belD ?_ _) | (refine Below.drew ?_)))).mono ?_; rintro e W3 ⟨rfl, hb3⟩; have hb4 : Below w4.heap.size w4 W3 := (by first | exact hb3 | exact (Below.drew (Below.refl _ _)).trans hb3 | exact (Below.drew (Below.drew (Below.refl _ _))).trans hb3); have p0 := (box_bel hb4 hV.b0).cell; have p1 := (box_bel hb4 hV.b1).cell; have p2 := (box_bel hb4 hV.b2).cell)
    all_goals go_wp2_with fail
    all_goals
      go_meet
      case rel => exact ⟨rfl, by first | assumption | exact (by assumption : Below _ _ _).trans (Below.drew (Below.refl _ _))⟩
  case rest =>
    obtain ⟨rfl, hb4⟩ := hcut
    have hW := hV.below hb4
    have hB := hB0.trans (hb4.mono hB0.size)
    clear hV hB0 hb4
    have q0 := hW.b0.cell
    gi_wp2_with fail
    refine ⟨trivial, ?_⟩
    refine (callsIn_wide.2 (weights_c _ _ _ _)).mono ?_
    rintro e w2 ⟨rfl, hw2⟩
    gi_wp2_with fail
    rw [← hw2]
    have hzc : w.heap.size + 4 ≤ wc.heap.size := by
      have := hW.b3.lt
      omega
    have hB2 : Below w.heap.size w w2 := by rw [hw2]; exact hB.trans (((Below.refl _ wc).alloc (Nat.le_refl _) _).mono hB.size)
    have hX2 : ValX w (.slice ao l.length cap) a (j : Int) 0 w2 := by rw [hw2]; exact hW.below (bel_box _)
    have hZ2 : wc.heap.size + 1 = w2.heap.size := by rw [hw2]; simp
    have e4 : w2.cell? ⟨wc.heap.size, 0, none⟩ = some (.slice ao l.length cap) := by rw [hw2]; exact new1 _ _ _
    clear hw2 hW hB q0
    generalize wc.heap.size = Bs at *
    refine wpIn_rangeFunc_ownG rfl (by omega) (gf := 47) (lb := #[.pointer (some ⟨Bs, 0, none⟩)]) rfl trivial (enters_of Tryd.func47 (by kernel_rfl) rfl)
      (weights_stops Fence.wide (5 - 1) trivial rfl (by omega) Bs w.heap.size b off cap ao l HV.out hb w2 (by omega) (by omega) e4 (hl.below hB2)) KpW.trans (KpW.put (by omega) (by omega)) (Below.refl _ _) (fun _ => rfl)
      (fun pre W => (ValX w (.slice ao l.length cap) a (j : Int) 0 W ∧ (∀ x ∈ pre, (x : Nat) ≠ j)) ∧ Below w.heap.size w W)
      (fun c _ W => (ValX w (.slice ao l.length cap) a (j : Int) (a / prodL (l.take j) % l[j].size) W ∧ c = .ret) ∧ Below w.heap.size w W)
      (OwnFrom.and (OwnFrom.and (Own.from (valX_own w _ a (j : Int) (fun _ => 0)) _) (ownFrom_pure _ _)) (ownFrom_below (Nat.le_refl _) (by omega)))
      (fun c => OwnFrom.and (OwnFrom.and (Own.from (valX_own w _ a (j : Int) (fun _ => a / prodL (l.take j) % l[j].size)) _) (ownFrom_pure _ _)) (ownFrom_below (Nat.le_refl _) (by omega)))
      ⟨⟨hX2, by simp⟩, hB2⟩
      ?a1 ?assign ?body ?done ?stop
    case assign =>
      intro lY x W K hK
      unfold encW
      gi_wp2
      exact hK
    case body =>
      rintro lY pre x W ⟨⟨hX, hp⟩, hB⟩ hpl
      obtain ⟨x, hx⟩ := x
      have hd : 1 ≤ 5 - 1 - 1 := by omega
      have q0 := hX.b0.cell
      have q1 := hX.b1.cell
      have q2 := hX.b2.cell
      have q3 := hX.b3.cell
      have f3 := hX.b3.frozen
      by_cases hxj : x = j
      · obtain rfl : x = j := hxj
        have hlW := hl.below hB
        have n2 := hlW.nz x hx
        obtain rfl := hl.ad (by omega)
        have hsz := sizes_posV HZ.out _ (List.getElem_mem hx)
        obtain ⟨hs1, hs2⟩ := hsz
        obtain ⟨hp1, hp2⟩ := prodL_takeV HZ.out hl6 x
        have hq0 : 0 ≤ a / prodL (l.take x) := Int.ediv_nonneg h0 (by omega)
        have hq1 : a / prodL (l.take x) ≤ a := Int.ediv_le_self _ h0
        have hr0 := Int.emod_nonneg (a / prodL (l.take x)) (show l[x].size ≠ 0 by omega)
        have hr1 := Int.emod_lt_of_pos (a / prodL (l.take x)) (show 0 < l[x].size by omega)
        have ht1 : a.tdiv (prodL (l.take x)) = a / prodL (l.take x) := Int.tdiv_eq_ediv_of_nonneg h0
        have ht2 : (a / prodL (l.take x)).tmod l[x].size = a / prodL (l.take x) % l[x].size := Int.tmod_eq_emod_of_nonneg hq0
        have hw1 : IntKind.i64.wrap (a / prodL (l.take x)) = a / prodL (l.take x) := IntWalk.i64_in _ ⟨by omega, by omega⟩
        have hw3 : IntKind.i64.wrap (a / prodL (l.take x) % l[x].size) = a / prodL (l.take x) % l[x].size := IntWalk.i64_in _ ⟨by omega, by omega⟩
        have hz0 : ¬ prodL (l.take x) = 0 := by omega
        have hz1 : ¬ l[x].size = 0 := by omega
        have HX := Lib.hid hX
        clear hlW hX hp
        generalize prodL (l.take x) = pw at *
        generalize l[x].size = z at *
        generalize a / pw % z = rm at *
        generalize a / pw = qt at *
        gi_wp2
        refine region_tail_round 9 hmx (by kernel_rfl) (by kernel_rfl) ?_
        simp only [List.take_succ_cons, List.take_zero, List.drop_succ_cons, List.drop_zero]
        repeat still_step
        refine wpStill_nil ?_
        gi_wp2
        exact ⟨((KeepsOthers.setCell _ _ _).from _).trans ((KeepsOthers.drew _).from _), ⟨(HX.out.set rm).drew, rfl⟩, (hB.setCell (p := ⟨w.heap.size + 1 + 1 + 1, 0, none⟩) (by simp; omega) _).trans (Below.drew (Below.refl _ _))⟩
      · have hne : (((x : Nat) : Int) == ((j : Nat) : Int)) = false := by simp; omega
        gi_wp2
        exact ⟨KeepsFrom.refl _ _, KpW.refl _ _ _, ⟨hX, fun y hy => (List.mem_append.1 hy).elim (hp y) (fun e => by simp at e; subst e; exact hxj)⟩, hB⟩
    case done =>
      rintro D ys W hD rfl ⟨⟨hX, hno⟩, hB⟩ hK
      exact absurd rfl (hno ⟨j, hj⟩ (by simp [allF]))
    case stop =>
      rintro D c pre W hD _ ⟨⟨hX, rfl⟩, hB⟩ hK
      have hc5 := cell_kept hX.b3.cell (grownBy_putObj' _ D (.deferred none)) (fun r e => by cases e; exact ⟨_, hK, rfl⟩)
      gi_wp2
      refine ⟨by simp, .inl ⟨_, _, rfl, run_takeDeferred hK, ?_⟩⟩
      refine ⟨_, by simp [results, Tryd.results25, go_sem, hc5], rfl, hB.trans (belowK_b (w := w) (Nat.le_refl _) W D _ _ (by omega) hK rfl rfl)⟩

end Go.Proofs.YtlfackilmpnlhaaDoor
