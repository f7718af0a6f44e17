/- The iterator over the letters of a word: its contract. -/
import Derived.Test.YtgjpdnaeldpdeaaWd28
import Derived.Test.YtgjpdnaeldpdeaaWdIt
import Derived.Sort.LoopGhostIn
namespace Go.Proofs.Ytgjpdnaeldpdeaa
open Go.RowKit Go.Shelf
attribute [local go_sem] Oper.semAt_some

/-- What a round keeps: what lay below n₀, and the reader's two blocks. -/
def KpL (n₀ z : Nat) (A B : World) : Prop := Below n₀ A B ∧ B.heap[z]? = A.heap[z]? ∧ B.heap[z + 1]? = A.heap[z + 1]?
theorem KpL.trans {n₀ z : Nat} {A B C : World} (h : KpL n₀ z A B) (k : KpL n₀ z B C) : KpL n₀ z A C := ⟨h.1.trans k.1, k.2.1.trans h.2.1, k.2.2.trans h.2.2⟩
theorem KpL.refl (n₀ z : Nat) (A : World) : KpL n₀ z A A := ⟨Below.refl _ _, rfl, rfl⟩

theorem KpL.put {n₀ : Nat} {w : World} (hn : n₀ ≤ w.heap.size) (W : World) (l : Nat) (o o' : Obj) (hl : w.heap.size ≤ l) (hl2 : l < w.heap.size + 2) (h : W.heap[l]? = some o) (h1 : o.isCells = false) (h2 : o.isWalk = false) : KpL n₀ (w.heap.size + 2) W (W.putObj l o') :=
  ⟨belowK_b hn W l o o' hl h h1 h2, World.putObj_heap_other (by omega), World.putObj_heap_other (by omega)⟩

def encL (l : Ls) (k : Nat) : Array Value := #[.int .i64 (atL l k)]

theorem posL_zero (l : Ls) : posL l 0 = 0 := by
  unfold posL
  split
  · rfl
  · have : l.stem.length = 0 := by omega
    rw [this]; simp

theorem letters_c (w : World) (v0 v1 : Value) :
    Calls Try.prog 38 #[.agg #[v0, v1]] w fun e w' => e = .returned (.func (.func 48) #[] #[.pointer (some ⟨w.heap.size, 0, none⟩)]) ∧ w' = w.alloc (.cells #[v0, v1] 24) := by
  go_enter Try.func38, Try.ntmps38
  go_wp2
  go_ret
  exact ⟨rfl, rfl⟩

set_option maxRecDepth 100000 in
set_option maxHeartbeats 4000000 in
theorem letters_stops (n N Bs : Nat) (hn : 1 ≤ n) (a0 a1 : Option Addr) (c0 c1 : Nat) (l : Ls) (w0 w : World) (hls : IsLs w0 (.agg #[.slice a0 l.stem.length c0, .slice a1 l.loop.length c1]) l) (hb : Below w0.heap.size w0 w)
    (hBs : w.heap[Bs]? = some (.cells #[.slice a0 l.stem.length c0, .slice a1 l.loop.length c1] 24 (0, 0))) (hp : 0 < l.loop.length) (hs : l.stem.length ≤ 1000) (hl : l.loop.length ≤ 1000) :
    IdxStops Fence.wide n Try.prog 48 #[.pointer (some ⟨Bs, 0, none⟩)] (encL l) (KpL w0.heap.size) N w := by
  intro lY J Jx W hW hJ hJx hJg hY hN h0
  have k0 : W.cell? ⟨Bs, 0, none⟩ = some (.slice a0 l.stem.length c0) := cellB hW (cell_of_row _ _ 0 _ _ _ hBs)
  have k1 : W.cell? ⟨Bs, 1, none⟩ = some (.slice a1 l.loop.length c1) := cellB hW (cell_of_row _ _ 1 _ _ _ hBs)
  have hBW := hb.trans (hW.mono hb.size)
  have HRd := Lib.hid (fun (W1 : World) (k : Nat) (h : RdX w0 W1 W.heap.size (W.heap.size + 1) a0 a1 c0 c1 l (posL l k : Nat)) => reader1_c w0 W1 _ _ _ _ _ _ l k h hp hs hl)
  have H0 : Hid (∀ W1, W1 = (W.alloc (.cells #[.slice a0 l.stem.length c0, .slice a1 l.loop.length c1] 24)).alloc (.cells #[.int .i64 0] 3) → RdX w0 W1 W.heap.size (W.heap.size + 1) a0 a1 c0 c1 l (posL l 0 : Nat) ∧ J 0 W1) := by
    rintro _ rfl
    refine ⟨⟨hls, hBW.trans ((belA (bel_box _) _).mono hBW.size), by have := hBW.size; omega, by omega, ?_, ?_⟩, ?_⟩
    · exact (heap_alloc_old _ _ (by simp)).trans (heap_alloc_new _ _)
    · rw [posL_zero]; have := heap_alloc_new (W.alloc (.cells #[.slice a0 l.stem.length c0, .slice a1 l.loop.length c1] 24)) (.cells #[.int .i64 0] 3); simpa using this
    · exact hJ 0 _ _ none (hJ 0 _ _ none h0 (World.grownBy_alloc _ _ none) (fun r e => by cases e)) (World.grownBy_alloc _ _ none) (fun r e => by cases e)
  clear hBs hW hls hb
  refine callsIn_of_wp Try.func48 rfl trivial ?_ rfl
  simp only [Try.ntmps48, List.size_toArray, List.length_cons, List.length_nil, Nat.reduceAdd, Nat.reduceSub, Array.replicate_succ, Array.replicate_zero, List.push_toArray, List.append_toArray, List.nil_append, List.cons_append]
  gi_wp2_with fail
  refine ⟨trivial, ?_⟩
  refine (callsIn_wide.2 (reader_c _ _ _)).mono ?_
  rintro e w1 ⟨rfl, hw1⟩
  have hX0 := H0.out w1 hw1
  have hz1 : W.heap.size + 2 ≤ w1.heap.size := by rw [hw1]; simp
  clear hw1 H0 k0 k1
  gi_wp2_with fail
  gi_loopg [] N (fun gh wr => ∃ k, gh = N - k ∧ k < N ∧ J k wr ∧ RdX w0 wr W.heap.size (W.heap.size + 1) a0 a1 c0 c1 l (posL l k : Nat) ∧ W.heap.size + 2 ≤ wr.heap.size)
  case atStart => exact ⟨0, by omega, hN, hX0.2, hX0.1, hz1⟩
  case round =>
    obtain ⟨k, rfl, hk, hJk, hXk, hzr⟩ := hrel
    gi_wp2_with fail
    refine ⟨trivial, ?_⟩
    refine (callsIn_wide.2 (HRd.out _ k hXk)).mono ?_
    rintro e W2 ⟨rfl, hg, hX2⟩
    have hz2 : W.heap.size + 2 ≤ W2.heap.size := Nat.le_trans hzr hg.size
    obtain ⟨fn, tmps, assign, body, hy, hR⟩ := hY k W2 (hJg k _ _ hJk hzr hg) hz2 hk
    dsimp only [encL] at hy
    gi_wp2
    refine hR.mono ?_
    rintro e W3 (⟨rfl, hk1, hJ3, hk3⟩ | ⟨rfl, hJx3⟩)
    · have hX3 := hX2.keep hk3.1 hk3.2.1 hk3.2.2
      have hz3 : W.heap.size + 2 ≤ W3.heap.size := Nat.le_trans hz2 hk3.1.size
      gi_wp2
      go_roundg (N - (k + 1))
      case rel => exact ⟨k + 1, rfl, hk1, hJ3, hX3, hz3⟩
      case measure => omega
    · gi_wp2
      go_end0
      exact ⟨⟨_, rfl⟩, k + 1, hJx3⟩

end Go.Proofs.Ytgjpdnaeldpdeaa
