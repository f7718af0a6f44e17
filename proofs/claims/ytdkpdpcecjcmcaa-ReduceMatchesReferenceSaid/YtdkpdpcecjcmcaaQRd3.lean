/- Fixed arrays of numbers in memory; the flow of an automaton; the state of the search for its parts. -/
import Derived.Test.YtdkpdpcecjcmcaaQRdCb
import Derived.Test.YtdkpdpcecjcmcaaQRd2
import Derived.Test.YtdkpdpcecjcmcaaQTj2
namespace Go.Proofs.Ytdkpdpcecjcmcaa
open Go.RowKit

theorem castL_len (l : List Nat) : (castL l).length = l.length := by simp [castL]
theorem castL_app (a b : List Nat) : castL (a ++ b) = castL a ++ castL b := by simp [castL]
theorem castL_one (x : Nat) : castL [x] = [(x : Int)] := rfl
theorem castL_mem {l : List Nat} {x : Nat} : (x : Int) ∈ castL l ↔ x ∈ l := by
  unfold castL
  rw [List.mem_map]
  refine ⟨fun ⟨y, h1, h2⟩ => ?_, fun h => ⟨x, h, rfl⟩⟩
  have e : y = x := Int.ofNat.inj h2
  exact e ▸ h1
theorem castL_idx (l : List Nat) (x : Nat) : (castL l).idxOf (x : Int) = l.idxOf x := by
  induction l with
  | nil => rfl
  | cons y l ih =>
    show List.idxOf (x : Int) ((y : Int) :: castL l) = _
    rw [List.idxOf_cons, List.idxOf_cons, ih]
    by_cases e : y = x
    · subst e; simp
    · have h1 : ((y : Int) == (x : Int)) = false := by rw [beq_eq_false_iff_ne]; omega
      have h2 : (y == x) = false := by simpa using e
      rw [h1, h2]
theorem castL_i64 {l : List Nat} {n : Nat} (h : ∀ v ∈ l, v < n) (hn : n ≤ 100000) : ∀ x ∈ castL l, I64 x := fun x hx => by
  obtain ⟨v, hv, rfl⟩ := List.mem_map.1 hx
  have := h v hv
  show I64 (v : Int)
  unfold I64; omega
theorem castL_drop (l : List Nat) (k : Nat) : castL (l.drop k) = (castL l).drop k := by simp [castL]
theorem castL_take (l : List Nat) (k : Nat) : castL (l.take k) = (castL l).take k := by simp [castL]
theorem castL_get {l : List Nat} {k : Nat} (hk : k < l.length) : (castL l).getD k 0 = ((l.getD k 0 : Nat) : Int) := by simp [castL, List.getD, hk]

/-- Block b holds n numbers; the j-th is f j. -/
def nfC (n : Nat) (f : Nat → Nat) : Array Value := ((List.range n).map fun j => Value.int .i64 (f j : Int)).toArray
def NF (W : World) (b n : Nat) (f : Nat → Nat) : Prop := W.heap[b]? = some (.cells (nfC n f) 3 (0, 0))
theorem nfC_at {n : Nat} {f : Nat → Nat} {j : Nat} (hj : j < n) : (nfC n f)[j]? = some (.int .i64 (f j : Int)) := by simp [nfC, hj]
theorem nfC_set (n : Nat) (f : Nat → Nat) (j x : Nat) : (nfC n f).setIfInBounds j (.int .i64 (x : Int)) = nfC n (upN f j x) := by
  apply Array.ext (by simp [nfC])
  intro i h1 h2
  have hi : i < n := by simpa [nfC] using h2
  rw [Array.getElem_setIfInBounds (by simpa [nfC] using hi)]
  simp only [nfC, List.getElem_toArray, List.getElem_map, List.getElem_range, upN]
  by_cases e : j = i
  · subst e; simp
  · rw [if_neg e, if_neg (fun h => e h.symm)]
theorem nfC_congr {n : Nat} {f g : Nat → Nat} (h : ∀ j, j < n → f j = g j) : nfC n f = nfC n g := by
  apply Array.ext (by simp [nfC])
  intro i h1 h2
  have hi : i < n := by simpa [nfC] using h2
  simp [nfC, h i hi]
section
variable {W W' : World} {b n j : Nat} {f g : Nat → Nat}
theorem NF.lt (h : NF W b n f) : b < W.heap.size := (Array.getElem?_eq_some_iff.1 h).1
theorem NF.cell (h : NF W b n f) (hj : j < n) : W.cell? ⟨b, j, none⟩ = some (.int .i64 (f j : Int)) := (cell_of_row _ _ j _ _ _ h).trans (nfC_at hj)
theorem NF.fz (h : NF W b n f) (j : Nat) : W.frozen? ⟨b, j, none⟩ = false := frozen_of_row _ _ j _ _ h
theorem NF.set (h : NF W b n f) (j x : Nat) : NF (W.setCell ⟨b, j, none⟩ (.int .i64 (x : Int))) b n (upN f j x) := by
  unfold NF
  rw [heap_setCell_same W b j _ _ _ h, nfC_set]
theorem NF.only {S : Nat → Prop} (h : NF W b n f) (ho : Only S W W') (hS : ¬ S b) : NF W' b n f := (ho.block _ h.lt hS).trans h
theorem NF.below (h : NF W b n f) (hb : Below W.heap.size W W') : NF W' b n f := (hb.block _ h.lt).trans h
theorem NF.congr (h : NF W b n f) (e : ∀ j, j < n → f j = g j) : NF W b n g := by
  unfold NF
  rw [← nfC_congr e]; exact h
theorem NF.made (hm : W.heap[b]? = some (.cells (madeCells #[.int .i64 0] n) 3 (0, 0))) : NF W b n fun _ => 0 := by
  unfold NF
  rw [hm]
  congr 2
  apply Array.ext'
  rw [toList_madeCells_one]
  apply List.ext_getElem (by simp [nfC])
  intro i h1 h2
  simp [nfC]
end

/-! The flow: where it lies, what it holds. -/
inductive Ar | prt | idx | low deriving DecidableEq
structure Fa where
  fb : Nat
  sb : Nat
  ab : Ar → Nat
  G : Nat → Nat
  n : Nat
  k : Nat
  lt : Int
  st : Int
  vN : Value
  vP : Value
def Fa.cells (A : Fa) : Array Value := #[.int .i64 A.lt, .int .i64 A.st, A.vN, A.vP, .slice (some ⟨A.sb, 0, none⟩) A.n A.n, .slice (some ⟨A.ab .prt, 0, none⟩) A.n A.n, .slice (some ⟨A.ab .idx, 0, none⟩) A.n A.n, .slice (some ⟨A.ab .low, 0, none⟩) A.n A.n]
def Fa.rows (A : Fa) : Array Value := ((List.range A.n).map fun j => Value.slice (some ⟨A.G j, 0, none⟩) A.k A.k).toArray
theorem Fa.rows_at (A : Fa) {j : Nat} (hj : j < A.n) : A.rows[j]? = some (.slice (some ⟨A.G j, 0, none⟩) A.k A.k) := by simp [Fa.rows, hj]
/-- The blocks that are written to: of the arrays, of the sets' rows. -/
def Fa.hotA (A : Fa) (q : Nat) : Prop := ∃ x, q = A.ab x
def Fa.hotG (A : Fa) (q : Nat) : Prop := ∃ j, j < A.n ∧ q = A.G j
/-- The blocks of the flow lie apart. -/
structure Fa.Ok (A : Fa) (B : Nat) : Prop where
  fs : A.fb ≠ A.sb
  fa : ∀ x, A.fb ≠ A.ab x
  sa : ∀ x, A.sb ≠ A.ab x
  aa : ∀ x y, A.ab x = A.ab y → x = y
  gf : ∀ j, j < A.n → A.G j ≠ A.fb
  gs : ∀ j, j < A.n → A.G j ≠ A.sb
  ga : ∀ j, j < A.n → ∀ x, A.G j ≠ A.ab x
  gg : ∀ i j, i < A.n → j < A.n → A.G i = A.G j → i = j
  lo : B ≤ A.fb ∧ B ≤ A.sb ∧ (∀ x, B ≤ A.ab x) ∧ ∀ j, j < A.n → B ≤ A.G j
/-- What the flow holds: st: the sets' numbers, F: the arrays. -/
structure FlM (A : Fa) (W : World) (st : Nat → Nat → Nat) (F : Ar → Nat → Nat) : Prop where
  f : W.heap[A.fb]? = some (.cells A.cells 81 (0, 0))
  s : W.heap[A.sb]? = some (.cells A.rows 29 (0, 0))
  r : ∀ j, j < A.n → NF W (A.G j) A.k (st j)
  a : ∀ x, NF W (A.ab x) A.n (F x)
def upF (F : Ar → Nat → Nat) (x : Ar) (j v : Nat) : Ar → Nat → Nat := fun y => if y = x then upN (F x) j v else F y
theorem upF_same (F : Ar → Nat → Nat) (x : Ar) (j v : Nat) : upF F x j v x = upN (F x) j v := if_pos rfl
theorem upF_ne (F : Ar → Nat → Nat) {x y : Ar} (j v : Nat) (h : y ≠ x) : upF F x j v y = F y := if_neg h
def upT (st : Nat → Nat → Nat) (i j v : Nat) : Nat → Nat → Nat := fun a => if a = i then upN (st i) j v else st a
section
variable {A : Fa} {B : Nat} {W W' : World} {st : Nat → Nat → Nat} {F : Ar → Nat → Nat}
theorem FlM.only {S : Nat → Prop} (h : FlM A W st F) (ho : Only S W W') (h1 : ¬ S A.fb) (h2 : ¬ S A.sb) (h3 : ∀ x, ¬ S (A.ab x)) (h4 : ∀ j, j < A.n → ¬ S (A.G j)) : FlM A W' st F :=
  ⟨(ho.block _ (Array.getElem?_eq_some_iff.1 h.f).1 h1).trans h.f, (ho.block _ (Array.getElem?_eq_some_iff.1 h.s).1 h2).trans h.s, fun j hj => (h.r j hj).only ho (h4 j hj), fun x => (h.a x).only ho (h3 x)⟩
theorem FlM.below (h : FlM A W st F) (hb : Below W.heap.size W W') : FlM A W' st F :=
  h.only (S := fun _ => False) (Only.of_below hb) id id (fun _ => id) (fun _ _ => id)
theorem FlM.lts (h : FlM A W st F) : A.fb < W.heap.size ∧ A.sb < W.heap.size ∧ (∀ x, A.ab x < W.heap.size) ∧ ∀ j, j < A.n → A.G j < W.heap.size :=
  ⟨(Array.getElem?_eq_some_iff.1 h.f).1, (Array.getElem?_eq_some_iff.1 h.s).1, fun x => (h.a x).lt, fun j hj => (h.r j hj).lt⟩
theorem FlM.put (h : FlM A W st F) (hA : A.Ok B) (x : Ar) (j v : Nat) : FlM A (W.setCell ⟨A.ab x, j, none⟩ (.int .i64 (v : Int))) st (upF F x j v) := by
  have ho : Only (fun q => q = A.ab x) W (W.setCell ⟨A.ab x, j, none⟩ (.int .i64 (v : Int))) := Only.set _ _ _ rfl
  refine ⟨(ho.block _ (Array.getElem?_eq_some_iff.1 h.f).1 (hA.fa x)).trans h.f, (ho.block _ (Array.getElem?_eq_some_iff.1 h.s).1 (hA.sa x)).trans h.s, fun i hi => (h.r i hi).only ho (hA.ga i hi x), fun y => ?_⟩
  by_cases e : y = x
  · subst e; rw [upF_same]; exact (h.a y).set j v
  · rw [upF_ne _ _ _ e]; exact (h.a y).only ho fun k => e (hA.aa y x k)
theorem FlM.putS (h : FlM A W st F) (hA : A.Ok B) {i : Nat} (hi : i < A.n) (j v : Nat) : FlM A (W.setCell ⟨A.G i, j, none⟩ (.int .i64 (v : Int))) (upT st i j v) F := by
  have ho : Only (fun q => q = A.G i) W (W.setCell ⟨A.G i, j, none⟩ (.int .i64 (v : Int))) := Only.set _ _ _ rfl
  refine ⟨(ho.block _ (Array.getElem?_eq_some_iff.1 h.f).1 (hA.gf i hi).symm).trans h.f, (ho.block _ (Array.getElem?_eq_some_iff.1 h.s).1 (hA.gs i hi).symm).trans h.s, fun a ha => ?_, fun y => (h.a y).only ho fun k => hA.ga i hi y k.symm⟩
  unfold upT
  by_cases e : a = i
  · subst e; rw [if_pos rfl]; exact (h.r a ha).set j v
  · rw [if_neg e]; exact (h.r a ha).only ho fun k => e (hA.gg a i ha hi k)
theorem FlM.cell (h : FlM A W st F) (q : Nat) {v : Value} (hv : A.cells[q]? = some v) : W.cell? ⟨A.fb, q, none⟩ = some v := (cell_of_row _ _ q _ _ _ h.f).trans hv
theorem FlM.c2 (h : FlM A W st F) : W.cell? ⟨A.fb, 2, none⟩ = some A.vN := h.cell 2 rfl
theorem FlM.c4 (h : FlM A W st F) : W.cell? ⟨A.fb, 4, none⟩ = some (.slice (some ⟨A.sb, 0, none⟩) A.n A.n) := h.cell 4 rfl
theorem FlM.c5 (h : FlM A W st F) : W.cell? ⟨A.fb, 5, none⟩ = some (.slice (some ⟨A.ab .prt, 0, none⟩) A.n A.n) := h.cell 5 rfl
theorem FlM.c6 (h : FlM A W st F) : W.cell? ⟨A.fb, 6, none⟩ = some (.slice (some ⟨A.ab .idx, 0, none⟩) A.n A.n) := h.cell 6 rfl
theorem FlM.c7 (h : FlM A W st F) : W.cell? ⟨A.fb, 7, none⟩ = some (.slice (some ⟨A.ab .low, 0, none⟩) A.n A.n) := h.cell 7 rfl
theorem FlM.row (h : FlM A W st F) {j : Nat} (hj : j < A.n) : W.cell? ⟨A.sb, j, none⟩ = some (.slice (some ⟨A.G j, 0, none⟩) A.k A.k) := (cell_of_row _ _ j _ _ _ h.s).trans (A.rows_at hj)
theorem FlM.set (h : FlM A W st F) {i j : Nat} (hi : i < A.n) (hj : j < A.k) : W.cell? ⟨A.G i, j, none⟩ = some (.int .i64 (st i j : Int)) := (h.r i hi).cell hj
theorem FlM.arr (h : FlM A W st F) (x : Ar) {j : Nat} (hj : j < A.n) : W.cell? ⟨A.ab x, j, none⟩ = some (.int .i64 (F x j : Int)) := (h.a x).cell hj
end

/-- The search: its flow, its boxes (how many, the flow's pointer, the stack, the set's number, the function). -/
structure Vd where
  A : Fa
  zc : Nat
  zf : Nat
  zs : Nat
  zn : Nat
  zv : Nat
  num : Nat
def Vd.fn (D : Vd) : Value := .func (.func 59) #[] #[.pointer (some ⟨D.zc, 0, none⟩), .pointer (some ⟨D.zf, 0, none⟩), .pointer (some ⟨D.zs, 0, none⟩), .pointer (some ⟨D.zn, 0, none⟩), .pointer (some ⟨D.zv, 0, none⟩)]
structure Vd.Ok (D : Vd) (B C : Nat) : Prop where
  a : D.A.Ok B
  cs : D.zc ≠ D.zs
  ac : ∀ x, D.A.ab x ≠ D.zc ∧ D.A.ab x ≠ D.zs ∧ D.A.ab x ≠ D.zf ∧ D.A.ab x ≠ D.zn ∧ D.A.ab x ≠ D.zv
  cold : (D.zf ≠ D.zc ∧ D.zf ≠ D.zs) ∧ (D.zn ≠ D.zc ∧ D.zn ≠ D.zs) ∧ (D.zv ≠ D.zc ∧ D.zv ≠ D.zs) ∧ (D.A.fb ≠ D.zc ∧ D.A.fb ≠ D.zs) ∧ (D.A.sb ≠ D.zc ∧ D.A.sb ≠ D.zs) ∧ ∀ j, j < D.A.n → D.A.G j ≠ D.zc ∧ D.A.G j ≠ D.zs
  lt : D.zc < C ∧ D.zf < C ∧ D.zs < C ∧ D.zn < C ∧ D.zv < C ∧ D.A.fb < C ∧ D.A.sb < C ∧ (∀ x, D.A.ab x < C) ∧ ∀ j, j < D.A.n → D.A.G j < C
  ge : B ≤ D.zc ∧ B ≤ D.zs ∧ B ≤ C
/-- What the search writes to. -/
def Vd.hot (D : Vd) (C q : Nat) : Prop := q = D.zc ∨ q = D.zs ∨ (∃ x, q = D.A.ab x) ∨ C ≤ q
/-- What holds throughout. -/
structure VC (D : Vd) (w0 W : World) (nx : List (List Int)) (st : Nat → Nat → Nat) (F : Ar → Nat → Nat) : Prop where
  b : Below w0.heap.size w0 W
  x : IsRows w0 D.A.vN nx
  f : W.heap[D.zf]? = some (.cells #[.pointer (some ⟨D.A.fb, 0, none⟩)] 60 (0, 0))
  n : W.heap[D.zn]? = some (.cells #[.int .i64 (D.num : Int)] 3 (0, 0))
  v : W.heap[D.zv]? = some (.cells #[D.fn] 86 (0, 0))
  m : FlM D.A W st F
/-- The state of the search. -/
structure VS (D : Vd) (C : Nat) (w0 W : World) (nx : List (List Int)) (st : Nat → Nat → Nat) (F : Ar → Nat → Nat) (cnt : Nat) (vs : Value) (stk : List Nat) : Prop extends VC D w0 W nx st F where
  c : W.heap[D.zc]? = some (.cells #[.int .i64 (cnt : Int)] 3 (0, 0))
  s : W.heap[D.zs]? = some (.cells #[vs] 29 (0, 0))
  o : OI W C vs (castL stk)
  z : C ≤ W.heap.size
section
variable {D : Vd} {C : Nat} {w0 W W' : World} {nx : List (List Int)} {st : Nat → Nat → Nat} {F F' : Ar → Nat → Nat} {cnt : Nat} {vs vs' : Value} {stk : List Nat}
theorem VC.only {S : Nat → Prop} (h : VC D w0 W nx st F) (ho : Only S W W') (hf : FlM D.A W' st F') (h1 : ¬ S D.zf) (h2 : ¬ S D.zn) (h3 : ¬ S D.zv) (h4 : ∀ q, S q → w0.heap.size ≤ q) : VC D w0 W' nx st F' :=
  ⟨Only.to_below h.b ho h4, h.x, (ho.block _ (Array.getElem?_eq_some_iff.1 h.f).1 h1).trans h.f, (ho.block _ (Array.getElem?_eq_some_iff.1 h.n).1 h2).trans h.n, (ho.block _ (Array.getElem?_eq_some_iff.1 h.v).1 h3).trans h.v, hf⟩
theorem VS.below (h : VS D C w0 W nx st F cnt vs stk) (hb : Below W.heap.size W W') : VS D C w0 W' nx st F cnt vs stk :=
  { toVC := ⟨h.b.trans (hb.mono h.b.size), h.x, (hb.block _ (Array.getElem?_eq_some_iff.1 h.f).1).trans h.f, (hb.block _ (Array.getElem?_eq_some_iff.1 h.n).1).trans h.n, (hb.block _ (Array.getElem?_eq_some_iff.1 h.v).1).trans h.v, h.m.below hb⟩
    c := (hb.block _ (Array.getElem?_eq_some_iff.1 h.c).1).trans h.c
    s := (hb.block _ (Array.getElem?_eq_some_iff.1 h.s).1).trans h.s
    o := h.o.below hb
    z := Nat.le_trans h.z hb.size }
/-- The number of numbers is set. -/
theorem VS.count (h : VS D C w0 W nx st F cnt vs stk) (hD : D.Ok w0.heap.size C) (x : Nat) : VS D C w0 (W.setCell ⟨D.zc, 0, none⟩ (.int .i64 (x : Int))) nx st F x vs stk := by
  have ho : Only (fun q => q = D.zc) W (W.setCell ⟨D.zc, 0, none⟩ (.int .i64 (x : Int))) := Only.set _ _ _ rfl
  have hc := hD.cold
  have hm := h.m.only ho hc.2.2.2.1.1 hc.2.2.2.2.1.1 (fun x => (hD.ac x).1) (fun j hj => (hc.2.2.2.2.2 j hj).1)
  refine { toVC := h.toVC.only ho hm hc.1.1 hc.2.1.1 hc.2.2.1.1 (fun q e => by rw [e]; exact hD.ge.1), c := one_set h.c, s := (ho.block _ (Array.getElem?_eq_some_iff.1 h.s).1 hD.cs.symm).trans h.s, o := h.o.only ho fun q hq e => ?_, z := Nat.le_trans h.z ho.size }
  have := h.o.ge q hq
  have := hD.lt.1
  omega
/-- A number of an array is set. -/
theorem VS.put (h : VS D C w0 W nx st F cnt vs stk) (hD : D.Ok w0.heap.size C) (y : Ar) (j x : Nat) : VS D C w0 (W.setCell ⟨D.A.ab y, j, none⟩ (.int .i64 (x : Int))) nx st (upF F y j x) cnt vs stk := by
  have ho : Only (fun q => q = D.A.ab y) W (W.setCell ⟨D.A.ab y, j, none⟩ (.int .i64 (x : Int))) := Only.set _ _ _ rfl
  have hac := hD.ac y
  refine { toVC := h.toVC.only ho (h.m.put hD.a y j x) hac.2.2.1.symm hac.2.2.2.1.symm hac.2.2.2.2.symm (fun q e => by rw [e]; exact hD.a.lo.2.2.1 y), c := (ho.block _ (Array.getElem?_eq_some_iff.1 h.c).1 hac.1.symm).trans h.c, s := (ho.block _ (Array.getElem?_eq_some_iff.1 h.s).1 hac.2.1.symm).trans h.s, o := h.o.only ho fun q hq e => ?_, z := Nat.le_trans h.z ho.size }
  have := h.o.ge q hq
  have := hD.lt.2.2.2.2.2.2.2.1 y
  omega
/-- A state is put on the stack. -/
theorem VS.push (h : VS D C w0 W nx st F cnt vs stk) (hD : D.Ok w0.heap.size C) {v : Nat} (h1 : OI W' C vs' (castL stk ++ [(v : Int)])) (hg : W.grownBy W' vs.ownBlock) :
    VS D C w0 (W'.setCell ⟨D.zs, 0, none⟩ vs') nx st F cnt vs' (stk ++ [v]) ∧ W'.heap[D.zs]? = some (.cells #[vs] 29 (0, 0)) := by
  have ho1 : Only (fun q => vs.ownBlock = some q) W W' := Only.of_grown hg
  have ho2 : Only (fun q => q = D.zs) W' (W'.setCell ⟨D.zs, 0, none⟩ vs') := Only.set _ _ _ rfl
  have hlt := hD.lt
  have hc := hD.cold
  have hs : ∀ q, vs.ownBlock = some q → C ≤ q := h.o.ge
  have hno : ∀ q, q < C → ¬ vs.ownBlock = some q := fun q hq e => by have := hs q e; omega
  have hm1 := h.m.only ho1 (hno _ hlt.2.2.2.2.2.1) (hno _ hlt.2.2.2.2.2.2.1) (fun x => hno _ (hlt.2.2.2.2.2.2.2.1 x)) (fun j hj => hno _ (hlt.2.2.2.2.2.2.2.2 j hj))
  have hm := hm1.only ho2 hc.2.2.2.1.2 hc.2.2.2.2.1.2 (fun x => (hD.ac x).2.1) (fun j hj => (hc.2.2.2.2.2 j hj).2)
  have hv1 := h.toVC.only ho1 hm1 (hno _ hlt.2.1) (hno _ hlt.2.2.2.1) (hno _ hlt.2.2.2.2.1) (fun q e => Nat.le_trans hD.ge.2.2 (hs q e))
  have hbs := (ho1.block _ (Array.getElem?_eq_some_iff.1 h.s).1 (hno _ hlt.2.2.1)).trans h.s
  refine ⟨{ toVC := hv1.only ho2 hm hc.1.2 hc.2.1.2 hc.2.2.1.2 (fun q e => by rw [e]; exact hD.ge.2.1), c := (ho2.block _ (by have := (Array.getElem?_eq_some_iff.1 h.c).1; have := hg.size; omega) hD.cs).trans ((ho1.block _ (Array.getElem?_eq_some_iff.1 h.c).1 (hno _ hlt.1)).trans h.c), s := one_set hbs, o := ?_, z := Nat.le_trans h.z (Nat.le_trans ho1.size ho2.size) }, hbs⟩
  rw [castL_app, castL_one]
  exact h1.only ho2 fun q hq e => by have := h1.ge q hq; omega
/-- The stack is cut. -/
theorem VS.pop (h : VS D C w0 W nx st F cnt vs stk) (hD : D.Ok w0.heap.size C) {k : Nat} (h1 : OI W C vs' (castL (stk.take k))) :
    VS D C w0 (W.setCell ⟨D.zs, 0, none⟩ vs') nx st F cnt vs' (stk.take k) := by
  have ho2 : Only (fun q => q = D.zs) W (W.setCell ⟨D.zs, 0, none⟩ vs') := Only.set _ _ _ rfl
  have hc := hD.cold
  have hlt := hD.lt
  have hm := h.m.only ho2 hc.2.2.2.1.2 hc.2.2.2.2.1.2 (fun x => (hD.ac x).2.1) (fun j hj => (hc.2.2.2.2.2 j hj).2)
  refine { toVC := h.toVC.only ho2 hm hc.1.2 hc.2.1.2 hc.2.2.1.2 (fun q e => by rw [e]; exact hD.ge.2.1), c := (ho2.block _ (Array.getElem?_eq_some_iff.1 h.c).1 hD.cs).trans h.c, s := one_set h.s, o := h1.only ho2 fun q hq e => ?_, z := Nat.le_trans h.z ho2.size }
  have := h1.ge q hq
  omega
end

/-! What the search's state in memory says. -/
/-- U: the states of the set's moves; they are below n. -/
structure Rp (n : Nat) (U : Nat → Prop) (t : Tj) (F : Ar → Nat → Nat) (cnt : Nat) (stk : List Nat) : Prop where
  cn : t.cnt = cnt
  sk : t.stk = stk
  nu : ∀ v, U v → F .idx v = t.num v
  pr : ∀ v, U v → F .prt v = t.prt v
  lo : ∀ v, t.num v ≠ 0 → F .low v = t.low v
  un : ∀ v, t.num v ≠ 0 → U v
  od : ∃ ord : List Nat, ord.Nodup ∧ ord.length = cnt ∧ ∀ v, v ∈ ord ↔ t.num v ≠ 0
theorem ndl_len {n : Nat} {l : List Nat} (hn : l.Nodup) (h : ∀ v ∈ l, v < n) : l.length ≤ n := by
  have h2 : l.Perm ((List.range n).filter fun x => decide (x ∈ l)) := (List.perm_ext_iff_of_nodup hn (List.Nodup.sublist List.filter_sublist List.nodup_range)).2 fun x => by
    rw [List.mem_filter, List.mem_range, decide_eq_true_eq]
    exact ⟨fun hx => ⟨h x hx, hx⟩, fun hx => hx.2⟩
  have h3 := h2.length_eq
  have h4 := List.length_filter_le (fun x => decide (x ∈ l)) (List.range n)
  rw [List.length_range] at h4
  omega
section
variable {n : Nat} {U : Nat → Prop} {t : Tj} {F : Ar → Nat → Nat} {cnt : Nat} {stk : List Nat} {s : Nat}
theorem Rp.le (h : Rp n U t F cnt stk) (hU : ∀ v, U v → v < n) : cnt ≤ n := by
  obtain ⟨ord, h1, h2, h3⟩ := h.od
  rw [← h2]
  exact ndl_len h1 fun v hv => hU v (h.un v ((h3 v).1 hv))
theorem Rp.room (h : Rp n U t F cnt stk) (hU : ∀ v, U v → v < n) (hs : t.num s = 0) (hu : U s) : cnt < n := by
  obtain ⟨ord, h1, h2, h3⟩ := h.od
  have hn : s ∉ ord := fun k => (h3 s).1 k hs
  have : (s :: ord).length ≤ n := ndl_len (List.nodup_cons.2 ⟨hn, h1⟩) fun v hv => by
    rcases List.mem_cons.1 hv with rfl | hv
    · exact hU v hu
    · exact hU v (h.un v ((h3 v).1 hv))
  rw [List.length_cons] at this
  omega
theorem Rp.openV (h : Rp n U t F cnt stk) (hs : t.num s = 0) (hu : U s) : Rp n U (t.openV s) (upF (upF F .idx s (cnt + 1)) .low s (cnt + 1)) (cnt + 1) (stk ++ [s]) := by
  refine ⟨by show t.cnt + 1 = _; rw [h.cn], by show t.stk ++ [s] = _; rw [h.sk], fun v hv => ?_, fun v hv => ?_, fun v hv => ?_, fun v hv => ?_, ?_⟩
  · rw [upF_ne _ _ _ (by decide), upF_same]
    show upN (F .idx) s _ v = upN t.num s (t.cnt + 1) v
    unfold upN
    rw [h.cn, h.nu v hv]
  · rw [upF_ne _ _ _ (by decide), upF_ne _ _ _ (by decide)]
    exact h.pr v hv
  · rw [upF_same, upF_ne _ _ _ (by decide)]
    show upN (F .low) s _ v = upN t.low s (t.cnt + 1) v
    have hv' : upN t.num s (t.cnt + 1) v ≠ 0 := hv
    unfold upN at hv' ⊢
    by_cases e : v = s
    · rw [if_pos e, if_pos e, h.cn]
    · rw [if_neg e] at hv' ⊢
      rw [if_neg e]
      exact h.lo v hv'
  · have hv' : upN t.num s (t.cnt + 1) v ≠ 0 := hv
    unfold upN at hv'
    by_cases e : v = s
    · rw [e]; exact hu
    · rw [if_neg e] at hv'
      exact h.un v hv'
  · obtain ⟨ord, h1, h2, h3⟩ := h.od
    have hn : s ∉ ord := fun k => (h3 s).1 k hs
    refine ⟨s :: ord, List.nodup_cons.2 ⟨hn, h1⟩, by rw [List.length_cons, h2], fun v => ?_⟩
    show _ ↔ upN t.num s (t.cnt + 1) v ≠ 0
    unfold upN
    rw [List.mem_cons, h3 v]
    by_cases e : v = s
    · subst e; simp
    · simp [e]
theorem Rp.lower {u : Nat} (h : Rp n U t F cnt stk) (hs : t.num s ≠ 0) (hu : t.num u ≠ 0) : Rp n U (t.lower s u) (upF F .low s (min (F .low s) (F .low u))) cnt stk := by
  refine ⟨h.cn, h.sk, fun v hv => ?_, fun v hv => ?_, fun v hv => ?_, h.un, h.od⟩
  · rw [upF_ne _ _ _ (by decide)]; exact h.nu v hv
  · rw [upF_ne _ _ _ (by decide)]; exact h.pr v hv
  · rw [upF_same]
    show upN (F .low) s _ v = upN t.low s _ v
    unfold upN
    rw [h.lo s hs, h.lo u hu]
    split
    · rfl
    · exact h.lo v hv
end

end Go.Proofs.Ytdkpdpcecjcmcaa
