/- What reader and the function that it returns compute. -/
import Derived.Test.YtgjpdnaeldpdeaaWd13
import Derived.Test.YtgjpdnaeldpdeaaWd8
namespace Go.Proofs.Ytgjpdnaeldpdeaa
open Go.RowKit

/-- The reader's blocks: the lasso's copy and the place in it. -/
structure RdX (w0 w : World) (gb gp : Nat) (a0 a1 : Option Addr) (c0 c1 : Nat) (l : Ls) (x : Int) : Prop where
  ls : IsLs w0 (.agg #[.slice a0 l.stem.length c0, .slice a1 l.loop.length c1]) l
  bl : Below w0.heap.size w0 w
  ge : w0.heap.size ≤ gp
  ne : gb ≠ gp
  box : w.heap[gb]? = some (.cells #[.slice a0 l.stem.length c0, .slice a1 l.loop.length c1] 24 (0, 0))
  ptr : w.heap[gp]? = some (.cells #[.int .i64 x] 3 (0, 0))

theorem RdX.below {w0 w w' : World} {gb gp : Nat} {a0 a1 : Option Addr} {c0 c1 : Nat} {l : Ls} {x : Int} (h : RdX w0 w gb gp a0 a1 c0 c1 l x) (hb : Below w.heap.size w w') : RdX w0 w' gb gp a0 a1 c0 c1 l x :=
  ⟨h.ls, h.bl.trans (hb.mono h.bl.size), h.ge, h.ne, (hb.block _ (Array.getElem?_eq_some_iff.1 h.box).1).trans h.box, (hb.block _ (Array.getElem?_eq_some_iff.1 h.ptr).1).trans h.ptr⟩

/-- What keeps the reader's blocks and what lies below. -/
theorem RdX.keep {w0 w w' : World} {gb gp : Nat} {a0 a1 : Option Addr} {c0 c1 : Nat} {l : Ls} {x : Int} (h : RdX w0 w gb gp a0 a1 c0 c1 l x) (hb : Below w0.heap.size w w') (h1 : w'.heap[gb]? = w.heap[gb]?) (h2 : w'.heap[gp]? = w.heap[gp]?) : RdX w0 w' gb gp a0 a1 c0 c1 l x :=
  ⟨h.ls, h.bl.trans hb, h.ge, h.ne, h1.trans h.box, h2.trans h.ptr⟩

theorem set_one {wr : World} {n : Nat} {t : TypeId} {x a : Value} (h : wr.heap[n]? = some (.cells #[x] t (0, 0))) : (wr.setCell ⟨n, 0, none⟩ a).heap[n]? = some (.cells #[a] t (0, 0)) := heap_setCell_same _ n 0 _ _ a h

theorem RdX.set {w0 w wr : World} {gb gp : Nat} {a0 a1 : Option Addr} {c0 c1 : Nat} {l : Ls} {x : Int} (h : RdX w0 wr gb gp a0 a1 c0 c1 l x) (hg : w.grownBy wr (some gp)) (y : Int) :
    w.grownBy (wr.setCell ⟨gp, 0, none⟩ (.int .i64 y)) (some gp) ∧ RdX w0 (wr.setCell ⟨gp, 0, none⟩ (.int .i64 y)) gb gp a0 a1 c0 c1 l y := by
  refine ⟨⟨hg.os, hg.tape, hg.output, ?_, ?_⟩, ⟨h.ls, h.bl.setCell h.ge _, h.ge, h.ne, ?_, set_one h.ptr⟩⟩
  · rw [World.size_setCell]; exact hg.size
  · intro k hk hne'
    rw [heap_setCell_other _ _ _ _ (by intro e; exact hne' (by simp at e; rw [e]))]
    exact hg.block k hk hne'
  · rw [heap_setCell_other _ _ _ _ (by exact h.ne)]; exact h.box

/-- What a call of the reader's function leaves. -/
def RdNext (w0 : World) (gb gp : Nat) (a0 a1 : Option Addr) (c0 c1 : Nat) (l : Ls) (i : Nat) (w : World) (e : Ending) (w' : World) : Prop :=
  e = .returned (.int .i64 (atL l i)) ∧ w.grownBy w' (some gp) ∧ RdX w0 w' gb gp a0 a1 c0 c1 l (posL l (i + 1) : Nat)

theorem reader_c (w : World) (v0 v1 : Value) :
    Calls Try.prog 47 #[.agg #[v0, v1]] w (fun e w' => e = .returned (.func (.func 53) #[] #[.pointer (some ⟨w.heap.size, 0, none⟩), .pointer (some ⟨w.heap.size + 1, 0, none⟩)]) ∧ w' = (w.alloc (.cells #[v0, v1] 24)).alloc (.cells #[.int .i64 0] 3)) := by
  go_enter Try.func47, Try.ntmps47
  go_wp2
  go_ret
  exact ⟨rfl, rfl⟩

set_option maxHeartbeats 2000000 in
theorem reader1_c (w0 w : World) (gb gp : Nat) (a0 a1 : Option Addr) (c0 c1 : Nat) (l : Ls) (i : Nat) (h : RdX w0 w gb gp a0 a1 c0 c1 l (posL l i : Nat)) (hp : 0 < l.loop.length) (hs : l.stem.length ≤ 1000) (hl : l.loop.length ≤ 1000) :
    Calls Try.prog 53 #[.pointer (some ⟨gb, 0, none⟩), .pointer (some ⟨gp, 0, none⟩)] w (RdNext w0 gb gp a0 a1 c0 c1 l i w) := by
  have hlt := posL_lt hp i
  have HPick : Hid (∀ W, Below w0.heap.size w0 W → Calls Try.prog 36 #[.agg #[.slice a0 l.stem.length c0, .slice a1 l.loop.length c1], .int .i64 (posL l i : Nat)] W (Calm (.int .i64 (atL l i)) W)) := fun W hW => by
    have := pick_c W _ l (posL l i) (h.ls.below hW) hp (by unfold I64; omega)
    rwa [posL_at hp] at this
  have HNext := Lib.hid (posL_next hp i)
  have H := Lib.hid h
  have k0 : w.cell? ⟨gb, 0, none⟩ = some (.slice a0 l.stem.length c0) := cell_of_row _ _ 0 _ _ _ h.box
  have k1 : w.cell? ⟨gb, 1, none⟩ = some (.slice a1 l.loop.length c1) := cell_of_row _ _ 1 _ _ _ h.box
  have k2 : w.cell? ⟨gp, 0, none⟩ = some (.int .i64 (posL l i : Nat)) := cell_of_row _ _ 0 _ _ _ h.ptr
  clear h
  go_enter Try.func53, Try.ntmps53
  go_wp2_with fail
  refine (HPick.out _ H.out.bl).mono ?_
  rintro e w2 ⟨rfl, hb⟩
  have e0 := cellB hb k0
  have e1 := cellB hb k1
  have e2 := cellB hb k2
  have h2 := H.out.below hb
  have ef : w2.frozen? ⟨gp, 0, none⟩ = false := frozen_of_row _ _ 0 _ _ h2.ptr
  have hne : gb ≠ gp := H.out.ne
  have hg2 : w.grownBy w2 (some gp) := ⟨hb.os, hb.tape, hb.output, hb.size, fun k hk _ => hb.block k hk⟩
  have HG := Lib.hid (h2.set hg2 ((posL l i : Nat) + 1 : Int))
  have HG2 := Lib.hid (HG.out.2.set HG.out.1 (l.stem.length : Nat))
  have s0 : (w2.setCell ⟨gp, 0, none⟩ (.int .i64 ((posL l i : Nat) + 1 : Int))).cell? ⟨gb, 0, none⟩ = some (.slice a0 l.stem.length c0) := (World.cell?_of_block (a := ⟨gb, 0, none⟩) (heap_setCell_other _ _ _ _ (by exact hne))).trans e0
  have s1 : (w2.setCell ⟨gp, 0, none⟩ (.int .i64 ((posL l i : Nat) + 1 : Int))).cell? ⟨gb, 1, none⟩ = some (.slice a1 l.loop.length c1) := (World.cell?_of_block (a := ⟨gb, 1, none⟩) (heap_setCell_other _ _ _ _ (by exact hne))).trans e1
  clear k0 k1 k2 hb hne hg2 h2
  by_cases hq : posL l i + 1 = l.stem.length + l.loop.length
  · have hq2 : (((posL l i : Nat) : Int) + 1 == (l.stem.length : Int) + l.loop.length) = true := by simp; omega
    have HN : Hid (posL l (i + 1) = l.stem.length) := by show _ = _; rw [HNext.out, if_pos hq]
    have HR : Hid (∀ W, RdX w0 W gb gp a0 a1 c0 c1 l (l.stem.length : Nat) → RdX w0 W gb gp a0 a1 c0 c1 l (posL l (i + 1) : Nat)) := fun W h => by rw [HN.out]; exact h
    clear hq HNext
    generalize posL l i = p at *
    go_wp2
    go_ret
    exact ⟨rfl, HG2.out.1, HR.out _ HG2.out.2⟩
  · have hq2 : (((posL l i : Nat) : Int) + 1 == (l.stem.length : Int) + l.loop.length) = false := by simp; omega
    have HN : Hid (posL l (i + 1) = posL l i + 1) := by show _ = _; rw [HNext.out, if_neg hq]
    have HR : Hid (∀ W, RdX w0 W gb gp a0 a1 c0 c1 l ((posL l i : Nat) + 1 : Int) → RdX w0 W gb gp a0 a1 c0 c1 l (posL l (i + 1) : Nat)) := fun W h => by rw [HN.out]; exact h
    clear hq HNext HG2
    generalize posL l i = p at *
    go_wp2
    go_ret
    exact ⟨rfl, HG.out.1, HR.out _ HG.out.2⟩

end Go.Proofs.Ytgjpdnaeldpdeaa
