/- How slices, games and worlds are told in this seat's contracts: readings of slices of numbers, truth values and rows, and that they stay when new memory is made. -/
import Derived.Test.YtijkjhcigdfdgaaProg
import Derived.WalkKit
import Derived.WalkSpells
import Derived.WalkLawsBesides
import Derived.BigQuiet
import Derived.Deep.QuietTactic
import Derived.Lib.Hide
import Derived.Deep.LoopGhost
import Derived.Deep.CutRange
import Derived.Deep.DeepCutAuto
namespace Go.Proofs.Ytijkjhcigdfdgaa
open Go.RowKit

/-- The greatest length of a slice that is told here. -/
def maxN : Nat := 140737488351232
/-- A number that int holds. -/
def I64 (x : Int) : Prop := -9223372036854775808 ≤ x ∧ x ≤ 9223372036854775807

/-- The slice with address ao, of n one-cell elements, lies from ⟨b, off⟩ on; element j holds f j. -/
structure ArrAt (w : World) (ao : Option Addr) (cap b off n : Nat) (f : Nat → Value) : Prop where
  lc : n ≤ cap
  cm : cap ≤ maxLen
  nm : n ≤ maxN
  nc : ao = none → cap = 0
  ad : 0 < n → ao = some ⟨b, off, none⟩
  el : ∀ j, j < n → w.cell? ⟨b, off + j, none⟩ = some (f j)
theorem ArrAt.nb {w : World} {ao : Option Addr} {cap b off n : Nat} {f : Nat → Value} (h : ArrAt w ao cap b off n f) : n ≤ 140737488351232 := h.nm

/-- v is a slice of n one-cell elements; element j holds f j. -/
def IsArr (w : World) (v : Value) (n : Nat) (f : Nat → Value) : Prop := ∃ ao cap b off, v = .slice ao n cap ∧ ArrAt w ao cap b off n f

theorem cellB {w wr : World} {a : Addr} {v : Value} (hb : Below w.heap.size w wr) (h : w.cell? a = some v) : wr.cell? a = some v :=
  (hb.cell (World.block_lt_of_cell? w a h)).trans h

theorem cellD {w : World} {a : Addr} {v : Value} (n : Nat) (h : w.cell? a = some v) : (w.drewN n).cell? a = some v := h

theorem IsArr.below {w wr : World} {v : Value} {n : Nat} {f : Nat → Value} (h : IsArr w v n f) (hb : Below w.heap.size w wr) : IsArr wr v n f := by
  obtain ⟨ao, cap, b, off, rfl, h1, h2, h3, h6, h4, h5⟩ := h
  exact ⟨ao, cap, b, off, rfl, h1, h2, h3, h6, h4, fun j hj => cellB hb (h5 j hj)⟩

theorem below_draws (w : World) (B n : Nat) : Below B w (w.drewN n) := ⟨rfl, rfl, rfl, Nat.le_refl _, fun _ _ => rfl⟩

theorem belD {B : Nat} {a w : World} (h : Below B a w) (n : Nat) : Below B a (w.drewN n) := h.trans (below_draws _ _ _)

theorem belA {a w : World} (h : Below a.heap.size a w) (o : Obj) : Below a.heap.size a (w.alloc o) := h.alloc h.size o

theorem IsArr.congr {w : World} {v : Value} {n : Nat} {f g : Nat → Value} (h : IsArr w v n f) (he : ∀ j, j < n → f j = g j) : IsArr w v n g := by
  obtain ⟨ao, cap, b, off, rfl, h1, h2, h3, h6, h4, h5⟩ := h
  exact ⟨ao, cap, b, off, rfl, h1, h2, h3, h6, h4, fun j hj => by rw [h5 j hj, he j hj]⟩

theorem bel_box {w : World} (o : Obj) : Below w.heap.size w (w.alloc o) := belA (Below.refl _ _) o

theorem boxCell {w w1 : World} {cs : Array Value} {t : TypeId} (k : Nat) {v : Value} (hb : Below (w.alloc (.cells cs t)).heap.size (w.alloc (.cells cs t)) w1) (hv : cs[k]? = some v) : w1.cell? ⟨w.heap.size, k, none⟩ = some v :=
  (hb.cell (by simp)).trans ((cell_of_row _ _ k _ _ _ (heap_alloc_new _ _)).trans hv)

theorem natBeq (a b : Nat) : (((a : Int)) == (b : Int)) = decide (a = b) := by
  rw [Bool.eq_iff_iff]; simp; omega

def bvF (l : List Bool) (j : Nat) : Value := .bool (l.getD j false)
def ivF (l : List Int) (j : Nat) : Value := .int .i64 (l.getD j 0)

def IsBools (w : World) (v : Value) (l : List Bool) : Prop := IsArr w v l.length (bvF l)
def IsInts (w : World) (v : Value) (l : List Int) : Prop := IsArr w v l.length (ivF l) ∧ ∀ x ∈ l, I64 x
def IsRows (w : World) (v : Value) (ll : List (List Int)) : Prop := ∃ V : Nat → Value, IsArr w v ll.length V ∧ ∀ j, j < ll.length → IsInts w (V j) (ll.getD j [])

theorem IsBools.below {w wr : World} {v : Value} {l : List Bool} (h : IsBools w v l) (hb : Below w.heap.size w wr) : IsBools wr v l := IsArr.below h hb
theorem IsInts.below {w wr : World} {v : Value} {l : List Int} (h : IsInts w v l) (hb : Below w.heap.size w wr) : IsInts wr v l := ⟨h.1.below hb, h.2⟩
theorem IsRows.below {w wr : World} {v : Value} {ll : List (List Int)} (h : IsRows w v ll) (hb : Below w.heap.size w wr) : IsRows wr v ll := by
  obtain ⟨V, h1, h2⟩ := h
  exact ⟨V, h1.below hb, fun j hj => (h2 j hj).below hb⟩

/-- A game as it is told: the owners, the priorities, the successors. -/
structure Gm where
  owner : List Int
  prio : List Int
  succ : List (List Int)
deriving DecidableEq

def IsGame (w : World) (v : Value) (g : Gm) : Prop := ∃ v0 v1 v2, v = .agg #[v0, v1, v2] ∧ IsInts w v0 g.owner ∧ IsInts w v1 g.prio ∧ IsRows w v2 g.succ
theorem IsGame.below {w wr : World} {v : Value} {g : Gm} (h : IsGame w v g) (hb : Below w.heap.size w wr) : IsGame wr v g := by
  obtain ⟨v0, v1, v2, rfl, h0, h1, h2⟩ := h
  exact ⟨v0, v1, v2, rfl, h0.below hb, h1.below hb, h2.below hb⟩

theorem ret_bool {a b : Bool} (h : a = b) : Ending.returned (.bool a) = .returned (.bool b) := by rw [h]
theorem ret_int {k : IntKind} {a b : Int} (h : a = b) : Ending.returned (.int k a) = .returned (.int k b) := by rw [h]

/-- What a function that only reads leaves. -/
def Quiet (v : Value) (w : World) (e : Ending) (w' : World) : Prop := e = .returned v ∧ ∃ n, w' = w.drewN n

theorem getD_lt {α : Type} (l : List α) (d : α) (j : Nat) (h : j < l.length) : l.getD j d = l[j] := by simp [List.getD, h]

theorem take_succ_eq {α : Type} {a b : List α} {k : Nat} (h1 : k < a.length) (h2 : k < b.length) (h : a.take k = b.take k) (e : a[k] = b[k]) : a.take (k + 1) = b.take (k + 1) := by
  rw [List.take_succ_eq_append_getElem h1, List.take_succ_eq_append_getElem h2, h, e]

/-- What a function leaves that writes nothing that was there. -/
def Calm (v : Value) (w : World) (e : Ending) (w' : World) : Prop := e = .returned v ∧ Below w.heap.size w w'

theorem Quiet.calm {v : Value} {w w' : World} {e : Ending} (h : Quiet v w e w') : Calm v w e w' := by
  obtain ⟨h1, n, rfl⟩ := h
  exact ⟨h1, below_draws _ _ _⟩

theorem all_take_succ {α : Type} (l : List α) (p : α → Bool) (k : Nat) (h : k < l.length) : (l.take (k + 1)).all p = ((l.take k).all p && p l[k]) := by
  rw [List.take_succ_eq_append_getElem h, List.all_append]; simp

theorem all_false_of {α : Type} (l : List α) (p : α → Bool) (k : Nat) (h : k < l.length) (hp : p l[k] = false) : l.all p = false := by
  rw [List.all_eq_false]; exact ⟨l[k], List.getElem_mem h, by simp [hp]⟩

/-! Games: what is asked of them. -/

def smallB (g : Gm) (most : Int) : Bool :=
  decide ((g.owner.length : Int) ≤ most) && decide ((g.prio.length : Int) ≤ most) && decide ((g.succ.length : Int) ≤ most) && g.succ.all (fun s => decide (s.length ≤ 20))

def inB (most : Int) (l : List Int) : Bool := l.all fun x => decide (0 ≤ x) && decide (x ≤ most)
def withinB (most : Int) (ll : List (List Int)) : Bool := ll.all (inB most)

def validB (g : Gm) : Bool :=
  decide (g.owner.length ≤ 3000) && decide (g.prio.length = g.owner.length) && decide (g.succ.length = g.owner.length) && g.succ.all (fun s => !s.isEmpty) &&
    inB 1 g.owner && inB 30000 g.prio && withinB ((g.owner.length : Int) - 1) g.succ

theorem all_iff_getD {α : Type} (l : List α) (p : α → Bool) (d : α) : l.all p = true ↔ ∀ i, i < l.length → p (l.getD i d) = true := by
  rw [List.all_eq_true]
  constructor
  · intro h i hi
    rw [getD_lt _ _ _ hi]
    exact h _ (List.getElem_mem hi)
  · intro h x hx
    obtain ⟨i, hi, rfl⟩ := List.getElem_of_mem hx
    have := h i hi
    rwa [getD_lt _ _ _ hi] at this

/-- A position of a game is in order. -/
def okB (g : Gm) (i : Nat) : Bool :=
  (decide (0 ≤ g.owner.getD i 0) && decide (g.owner.getD i 0 ≤ 1)) && (decide (0 ≤ g.prio.getD i 0) && decide (g.prio.getD i 0 ≤ 30000)) && !(g.succ.getD i []).isEmpty && inB ((g.owner.length : Int) - 1) (g.succ.getD i [])

theorem validB_iff (g : Gm) (h1 : g.owner.length ≤ 3000) (h2 : g.prio.length = g.owner.length) (h3 : g.succ.length = g.owner.length) :
    validB g = true ↔ ∀ i, i < g.owner.length → okB g i = true := by
  simp only [validB, h1, h2, h3, inB, withinB, Bool.and_eq_true, all_iff_getD _ _ (0 : Int), all_iff_getD g.succ _ [], decide_true, true_and, okB]
  constructor
  · rintro ⟨⟨⟨a, b⟩, c⟩, d⟩ i hi
    exact ⟨⟨⟨b i hi, c i (by omega)⟩, a i (by omega)⟩, d i (by omega)⟩
  · intro h
    exact ⟨⟨⟨fun i hi => (h i (by omega)).1.2, fun i hi => (h i hi).1.1.1⟩, fun i hi => (h i (by omega)).1.1.2⟩, fun i hi => (h i (by omega)).2⟩

theorem validB_true {g : Gm} (h1 : g.owner.length ≤ 3000) (h2 : g.prio.length = g.owner.length) (h3 : g.succ.length = g.owner.length) (h : ∀ i, i < g.owner.length → okB g i = true) : true = validB g :=
  ((validB_iff g h1 h2 h3).2 h).symm
theorem validB_false {g : Gm} (h1 : g.owner.length ≤ 3000) (h2 : g.prio.length = g.owner.length) (h3 : g.succ.length = g.owner.length) {k : Nat} (hk : k < g.owner.length) (h : okB g k = false) : false = validB g := by
  cases hv : validB g with
  | false => rfl
  | true => have := (validB_iff g h1 h2 h3).1 hv k hk; rw [h] at this; cases this

end Go.Proofs.Ytijkjhcigdfdgaa
