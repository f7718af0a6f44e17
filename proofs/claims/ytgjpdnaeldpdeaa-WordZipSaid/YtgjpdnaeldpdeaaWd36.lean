/- What Zip computes: the walk. -/
import Derived.Test.YtgjpdnaeldpdeaaWd35
import Derived.Laws.EntriesVeiled
import Derived.Deep.AppendLies
import Derived.Sort.CutIn
namespace Go.Proofs.Ytgjpdnaeldpdeaa
open Go.RowKit Go.Shelf
attribute [local go_sem] Oper.semAt_some

theorem blkB {W W' : World} {i : Nat} {o : Obj} (hb : Below W.heap.size W W') (h : W.heap[i]? = some o) : W'.heap[i]? = some o := (hb.block _ (Array.getElem?_eq_some_iff.1 h).1).trans h
theorem bel_none {W W' : World} (h : W.grownBy W' none) : Below W.heap.size W W' := (Below.refl _ _).grown h (Nat.le_refl _) (fun g h => by cases h)
theorem blk_lt {W : World} {i : Nat} {o : Obj} (h : W.heap[i]? = some o) : i < W.heap.size := (Array.getElem?_eq_some_iff.1 h).1

/-- The four blocks at the start: two lassos, the table, the result. -/
def WABTR (w : World) (vt : Value) (a0 a1 a2 a3 : Option Addr) (m0 m1 m2 m3 c0 c1 c2 c3 : Nat) : World :=
  ((WAB w a0 a1 a2 a3 m0 m1 m2 m3 c0 c1 c2 c3).alloc (Obj.cells #[vt] 25)).alloc (Obj.cells #[Value.slice none 0 0, Value.slice none 0 0] 24)
theorem wabtr (w : World) (vt : Value) (a0 a1 a2 a3 : Option Addr) (m0 m1 m2 m3 c0 c1 c2 c3 : Nat) :
    Below w.heap.size w (WABTR w vt a0 a1 a2 a3 m0 m1 m2 m3 c0 c1 c2 c3) ∧ (WABTR w vt a0 a1 a2 a3 m0 m1 m2 m3 c0 c1 c2 c3).heap[w.heap.size]? = some (.cells #[.slice a0 m0 c0, .slice a1 m1 c1] 24 (0, 0)) ∧
      (WABTR w vt a0 a1 a2 a3 m0 m1 m2 m3 c0 c1 c2 c3).heap[w.heap.size + 1]? = some (.cells #[.slice a2 m2 c2, .slice a3 m3 c3] 24 (0, 0)) ∧ (WABTR w vt a0 a1 a2 a3 m0 m1 m2 m3 c0 c1 c2 c3).heap[w.heap.size + 2]? = some (.cells #[vt] 25 (0, 0)) ∧
      (WABTR w vt a0 a1 a2 a3 m0 m1 m2 m3 c0 c1 c2 c3).heap[w.heap.size + 3]? = some (.cells #[.slice none 0 0, .slice none 0 0] 24 (0, 0)) ∧ (WABTR w vt a0 a1 a2 a3 m0 m1 m2 m3 c0 c1 c2 c3).heap.size = w.heap.size + 4 := by
  have e1 : (WAB w a0 a1 a2 a3 m0 m1 m2 m3 c0 c1 c2 c3).heap[w.heap.size + 1]? = some (.cells #[.slice a2 m2 c2, .slice a3 m3 c3] 24 (0, 0)) := by
    have := heap_alloc_new (w.alloc (Obj.cells #[Value.slice a0 m0 c0, Value.slice a1 m1 c1] 24)) (Obj.cells #[Value.slice a2 m2 c2, Value.slice a3 m3 c3] 24)
    rw [World.size_alloc] at this
    exact this
  have e0 : (WAB w a0 a1 a2 a3 m0 m1 m2 m3 c0 c1 c2 c3).heap[w.heap.size]? = some (.cells #[.slice a0 m0 c0, .slice a1 m1 c1] 24 (0, 0)) := (heap_alloc_old _ _ (by simp)).trans (heap_alloc_new _ _)
  have hz : (WAB w a0 a1 a2 a3 m0 m1 m2 m3 c0 c1 c2 c3).heap.size = w.heap.size + 2 := by simp [WAB]
  have e2 := heap_alloc_new (WAB w a0 a1 a2 a3 m0 m1 m2 m3 c0 c1 c2 c3) (Obj.cells #[vt] 25)
  rw [hz] at e2
  have e3 := heap_alloc_new ((WAB w a0 a1 a2 a3 m0 m1 m2 m3 c0 c1 c2 c3).alloc (Obj.cells #[vt] 25)) (Obj.cells #[Value.slice none 0 0, Value.slice none 0 0] 24)
  rw [World.size_alloc, hz] at e3
  exact ⟨belA (belA (belA (bel_box _) _) _) _, blkB (bel_box _) (blkB (bel_box _) e0), blkB (bel_box _) (blkB (bel_box _) e1), blkB (bel_box _) e2, e3, by simp [WABTR, hz]⟩

set_option maxRecDepth 100000 in
set_option maxHeartbeats 4000000 in
theorem Zip_no (w : World) (va vb vt : Value) (a b : Ls) (t : List (List Int)) (ha : IsLs w va a) (hb : IsLs w vb b) (ht : IsRows w vt t) (hno : formB a = false ∨ formB b = false) :
    Calls Try.prog 28 #[va, vb, vt] w (NewL (zipI a b t) w) := by
  have HFA := Lib.hid (fun (W : World) (hW : Below w.heap.size w W) => formed_c W va a (ha.below hW))
  have HFB := Lib.hid (fun (W : World) (hW : Below w.heap.size w W) => formed_c W vb b (hb.below hW))
  have HR : Hid (zipI a b t = zeroL) := by
    rcases hno with h | h
    · exact zipI_l h
    · exact zipI_r h
  obtain ⟨V, ⟨aT, cT, bT, oT, rfl, gT⟩, hRow⟩ := ht
  clear gT hRow
  obtain ⟨v0, v1, rfl, h0, h1⟩ := ha
  obtain ⟨⟨a0, c0, b0, o0, rfl, g0⟩, -⟩ := h0
  obtain ⟨⟨a1, c1, b1, o1, rfl, g1⟩, -⟩ := h1
  obtain ⟨v2, v3, rfl, h2, h3⟩ := hb
  obtain ⟨⟨a2, c2, b2, o2, rfl, g2⟩, -⟩ := h2
  obtain ⟨⟨a3, c3, b3, o3, rfl, g3⟩, -⟩ := h3
  clear g0 g1 g2 g3
  generalize zipI a b t = r at *
  generalize formB a = f1 at *
  generalize formB b = f2 at *
  go_enter Try.func28, Try.ntmps28
  go_upto_region 1 with (fail)
  obtain ⟨hB0, rA, rB, rT, rR, hz⟩ := wabtr w (.slice aT t.length cT) a0 a1 a2 a3 a.stem.length a.loop.length b.stem.length b.loop.length c0 c1 c2 c3
  change Code.wp _ _ _ _ (WABTR w (.slice aT t.length cT) a0 a1 a2 a3 a.stem.length a.loop.length b.stem.length b.loop.length c0 c1 c2 c3)
  generalize WABTR w (.slice aT t.length cT) a0 a1 a2 a3 a.stem.length a.loop.length b.stem.length b.loop.length c0 c1 c2 c3 = w1 at *
  obtain ⟨p0, p1, -, -⟩ := boxF rA
  go_wp2_with fail
  refine (HFA.out _ hB0).mono ?_
  rintro e w2 ⟨rfl, hb2⟩
  have hB := hB0.trans (hb2.mono hB0.size)
  have HC := Lib.hid (blkB hb2 rR)
  obtain ⟨q0, q1, -, -⟩ := boxF (blkB hb2 rB)
  clear rA rB rR rT p0 p1 hb2 hz
  cases f1 with
  | false =>
    obtain ⟨x0, x1, y0, y1⟩ := boxF HC.out
    go_wp2_with fail
    (have hc3 := two_set (a := .slice none 0 0) (b := .slice none 0 0) HC.out); (have cc0 := cell_of_row _ _ 0 _ _ _ hc3); (have cc1 := cell_of_row _ _ 1 _ _ _ hc3); (refine bodyPost_ret (v := .agg #[.slice none 0 0, .slice none 0 0]) (by simp [results, Try.results28, go_sem, cc0, cc1]) rfl ?_)
    rw [HR.out]
    exact zeroEnd hB (by omega)
  | true =>
    obtain rfl : f2 = false := by rcases hno with h | h; cases h; exact h
    go_wp2_with fail
    refine (HFB.out _ hB).mono ?_
    rintro e w3 ⟨rfl, hb3⟩
    have HC3 := Lib.hid (blkB hb3 HC.out)
    have hB3 := hB.trans (hb3.mono hB.size)
    obtain ⟨x0, x1, y0, y1⟩ := boxF HC3.out
    clear q0 q1 hb3
    go_wp2_with fail
    (have hc3 := two_set (a := .slice none 0 0) (b := .slice none 0 0) HC3.out); (have cc0 := cell_of_row _ _ 0 _ _ _ hc3); (have cc1 := cell_of_row _ _ 1 _ _ _ hc3); (refine bodyPost_ret (v := .agg #[.slice none 0 0, .slice none 0 0]) (by simp [results, Try.results28, go_sem, cc0, cc1]) rfl ?_)
    rw [HR.out]
    exact zeroEnd hB3 (by omega)

/-- A post that no panic meets. -/
abbrev noP (Q : Exit → Act → World → Prop) : Exit → Act → World → Prop
  | .panic _, _, _ => False
  | .normal, a, w => Q .normal a w
  | .ret, a, w => Q .ret a w
  | .exit i, a, w => Q (.exit i) a w
  | .goto t, a, w => Q (.goto t) a w
  | .outgrown, a, w => Q .outgrown a w

theorem callsIn_of_wp_marks0 {F : Fence} {n : Nat} {P : Program} {f : FuncId} {fn : Func} {c : Code} {args : Array Value} {w : World} {R : Ending → World → Prop}
    (hf : P.funcs[f]? = some fn) (hb : fn.body = some c) (hF : F.fn f)
    (h : c.wpIn F n P (noP (bodyPostM F n P fn R)) { tmps := args ++ Array.replicate (fn.ntmps - args.size) undef, defers := [] } w) (hro : F.round = none := by rfl) : CallsIn F n P f args w R :=
  callsIn_of_wp_marks hf hb hF (wpIn_mono h (fun e _ _ hq => by cases e <;> first | exact hq | exact hq.elim)) hro

theorem IsInts.put {W : World} {v : Value} {l : List Int} {D : Nat} {o o' : Obj} (h : IsInts W v l) (hK : W.heap[D]? = some o) (ho : o.isCells = false) : IsInts (W.putObj D o') v l := by
  obtain ⟨⟨ao, cap, b, off, rfl, g⟩, r⟩ := h
  exact ⟨⟨ao, cap, b, off, rfl, ⟨g.lc, g.cm, g.nm, g.nc, g.ad, fun j hj => cell_kept (g.el j hj) (grownBy_putObj' W D o') (fun r e => by cases e; exact ⟨o, hK, ho⟩)⟩⟩, r⟩

/-- The block for the rounds' deferred calls is turned once more at the end. -/
theorem NewL.put {w W : World} {l : Ls} {e : Ending} {D : Nat} {o o' : Obj} (h : NewL l w e W) (hK : W.heap[D]? = some o) (ho : o.isCells = false) (hD : w.heap.size ≤ D) : NewL l w e (W.putObj D o') := by
  obtain ⟨v, rfl, ⟨v0, v1, rfl, h0, h1⟩, hb⟩ := h
  exact ⟨_, rfl, ⟨_, _, rfl, h0.put hK ho, h1.put hK ho⟩, hb.grown (grownBy_putObj' W D o') hb.size (fun r e => by cases e; exact hD)⟩

theorem put_row {W : World} {D i : Nat} {o o' : Obj} {cs : Array Value} {t : TypeId} (hi : W.heap[i]? = some (.cells cs t (0, 0))) (hK : W.heap[D]? = some o) (ho : o.isCells = false) : (W.putObj D o').heap[i]? = some (.cells cs t (0, 0)) := by
  rw [World.putObj_heap_other (by rintro rfl; rw [hi] at hK; cases hK; cases ho)]
  exact hi

end Go.Proofs.Ytgjpdnaeldpdeaa
