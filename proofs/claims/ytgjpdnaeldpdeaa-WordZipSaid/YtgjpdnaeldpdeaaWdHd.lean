/- The fixed examples of chapter 2: what they are; what the small functions of the laws compute. -/
import Derived.Test.YtgjpdnaeldpdeaaWdV
import Derived.Test.YtgjpdnaeldpdeaaWd18
import Derived.Test.YtgjpdnaeldpdeaaWd19
import Derived.Test.YtgjpdnaeldpdeaaWd31
import Derived.Test.YtgjpdnaeldpdeaaWd26
namespace Go.Proofs.Ytgjpdnaeldpdeaa
open Go.RowKit

def exW : Ls := ⟨[1], [2, 3]⟩
theorem ex_normal : normalI ⟨[1, 2], [3, 2, 3, 2]⟩ = exW := by decide
theorem ex_suffix : suffixI exW 2 = ⟨[], [3, 2]⟩ := by decide
theorem ex_push : pushI [2, 3] ⟨[], [2, 3]⟩ = ⟨[], [2, 3]⟩ := by decide
theorem ex_at1 : atI exW 4 = 3 := by decide
theorem ex_at2 : atI exW (-1) = -1 := by decide
theorem ex_zip1 : zipI ⟨[], [0, 1]⟩ ⟨[], [0, 0, 1]⟩ [[0, 1], [1, 0]] = ⟨[], [0, 1, 1, 1, 0, 0]⟩ := by decide +kernel
theorem ex_zip2 : zipI ⟨[], [0]⟩ ⟨[], [1]⟩ [[0]] = ⟨[], []⟩ := by decide +kernel
theorem ex_same1 : sameI exW ⟨[1, 2, 3], [2, 3]⟩ = true := by decide
theorem ex_same2 : sameI exW ⟨[], [2, 3]⟩ = false := by decide
theorem ex_same3 : sameI ⟨[], []⟩ ⟨[], []⟩ = false := by decide
theorem ex_valid1 : validI 4 exW = true := by decide
theorem ex_valid2 : validI 3 exW = false := by decide
theorem ex_valid3 : validI 4 ⟨[1], []⟩ = false := by decide
theorem ex_prefix1 : prefixI exW 4 = [1, 2, 3, 2] := by decide
theorem ex_prefix2 : prefixI exW 501 = [] := by decide

theorem lasso_c (w : World) (a c : Option Addr) (m n b d : Nat) :
    Calls Try.prog 33 #[.slice a m b, .slice c n d] w (Calm (.agg #[.slice a m b, .slice c n d]) w) := by
  go_enter Try.func33, Try.ntmps33
  go_wp2
  have hr := heap_alloc_new w (.cells #[.slice a m b, .slice c n d] 24)
  have cc0 := cell_of_row _ _ 0 _ _ _ hr
  have cc1 := cell_of_row _ _ 1 _ _ _ hr
  refine bodyPost_ret (v := .agg #[.slice a m b, .slice c n d]) (by simp [results, Try.results33, go_sem, cc0, cc1]) rfl ?_
  exact ⟨rfl, bel_box _⟩

theorem hd_lasso (W : World) {va vb : Value} {a b : List Int} (ha : SL a va W) (hb : SL b vb W) : Calls Try.prog 33 #[va, vb] W (GiveL ⟨a, b⟩ W) := by
  obtain ⟨a0, c0, rfl, h0⟩ := ha
  obtain ⟨a1, c1, rfl, h1⟩ := hb
  refine (lasso_c W a0 a1 _ _ c0 c1).mono ?_
  rintro e w' ⟨rfl, hb⟩
  exact ⟨_, rfl, ⟨_, _, _, _, rfl, IsLs.mk (h0.below hb) (h1.below hb)⟩, hb⟩
theorem hd_normal (W : World) {v : Value} {l l' : Ls} (h : LV l v W) (hl : normalI l = l') : Calls Try.prog 20 #[v] W (GiveL l' W) := (Normal_c W v l h.is).mono fun _ _ h => h.give hl
theorem hd_suffix (W : World) {v : Value} {l l' : Ls} {i : Int} (h : LV l v W) (hi : I64 i) (hl : suffixI l i = l') : Calls Try.prog 24 #[v, .int .i64 i] W (GiveL l' W) := (Suffix_c W v l i h.is hi).mono fun _ _ h => h.give hl
theorem hd_push (W : World) {va v : Value} {a : List Int} {l l' : Ls} (ha : SL a va W) (h : LV l v W) (hn : a.length ≤ 90000) (hl : pushI a l = l') : Calls Try.prog 26 #[va, v] W (GiveL l' W) := (Push_c W va v a l ha.is h.is hn).mono fun _ _ h => h.give hl
theorem hd_at (W : World) {v : Value} {l : Ls} {i x : Int} (h : LV l v W) (hi : I64 i) (hx : atI l i = x) : Calls Try.prog 14 #[v, .int .i64 i] W (Calm (.int .i64 x) W) := by
  rw [← hx]; exact At_c W v l i h.is hi
theorem hd_eq (W : World) {v v' : Value} {l : Ls} (h : LV l v W) (h' : LV l v' W) : Calls Try.prog 19 #[v, v'] W (Calm (.bool true) W) := by
  have := Equal_c W v v' l l h.is h'.is
  rwa [decide_eq_true rfl] at this
theorem hd_same (W : World) {v v' : Value} {l l' : Ls} {q : Bool} (h : LV l v W) (h' : LV l' v' W) (hq : sameI l l' = q) : Calls Try.prog 22 #[v, v'] W (Calm (.bool q) W) := by
  rw [← hq]; exact Same_c W v v' l l' h.is h'.is
theorem hd_valid (W : World) {v : Value} {l : Ls} {k : Int} {q : Bool} (h : LV l v W) (hq : validI k l = q) : Calls Try.prog 12 #[.int .i64 k, v] W (Calm (.bool q) W) := by
  rw [← hq]; exact Valid_c W v l k h.is
theorem hd_prefix (W : World) {v : Value} {l : Ls} {i : Int} {n : List Int} (h : LV l v W) (hn : prefixI l i = n) : Calls Try.prog 17 #[v, .int .i64 i] W (GiveN n W) := (Prefix_c W v l i h.is).mono fun _ _ h => h.give hn
theorem hd_ints (W : World) {v v' : Value} {l : List Int} (h : SL l v W) (h' : SL l v' W) : Calls Try.prog 16 #[v, v'] W (Calm (.bool true) W) := by
  have := (Ints_c W v v' l l h.is h'.is).mono fun e w' h => h.calm
  rwa [decide_eq_true rfl] at this

/-- A slice of slices. -/
def RV (ll : List (List Int)) (v : Value) (W : World) : Prop := IsRows W v ll
theorem RV.below {ll : List (List Int)} {v : Value} {W W' : World} (h : RV ll v W) (hb : Below W.heap.size W W') : RV ll v W' := IsRows.below h hb
theorem rows_one (W : World) (v0 : Value) (l0 : List Int) (t : TypeId) (h0 : IsInts W v0 l0) : RV [l0] (.slice (some ⟨W.heap.size, 0, none⟩) 1 1) (W.alloc (.cells #[v0] t)) := by
  have hb := bel_box (w := W) (.cells #[v0] t)
  have hr := heap_alloc_new W (.cells #[v0] t)
  refine ⟨fun j => v0, ⟨some ⟨W.heap.size, 0, none⟩, 1, W.heap.size, 0, rfl, ⟨by simp, by simp [maxLen], by simp [maxN], (fun e => by cases e), fun _ => rfl, fun j hj => ?_⟩⟩, fun j hj => ?_⟩
  · simp at hj
    subst hj
    exact cell_of_row _ _ 0 _ _ _ hr
  · simp at hj
    subst hj
    exact h0.below hb
/-- An empty slice in view. -/
def SZ (v : Value) : Prop := ∃ c d, v = .slice c 0 d

/-- What Zip computes, as it is asked here. -/
def ZipC : Prop := ∀ (w : World) (va vb vt : Value) (a b : Ls) (t : List (List Int)), IsLs w va a → IsLs w vb b → IsRows w vt t → Calls Try.prog 28 #[va, vb, vt] w (NewL (zipI a b t) w)
theorem hd_zip (hZ : ZipC) (W : World) {va vb vt : Value} {a b l' : Ls} {t : List (List Int)} (ha : LV a va W) (hb : LV b vb W) (ht : RV t vt W) (hl : zipI a b t = l') : Calls Try.prog 28 #[va, vb, vt] W (GiveL l' W) :=
  (hZ W va vb vt a b t ha.is hb.is ht).mono fun _ _ h => h.give hl

def exZ : Ls := ⟨[], [0, 1, 1, 1, 0, 0]⟩

end Go.Proofs.Ytgjpdnaeldpdeaa
