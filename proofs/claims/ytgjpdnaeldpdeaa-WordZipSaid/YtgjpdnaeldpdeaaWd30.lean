/- What Prefix computes. -/
import Derived.Test.YtgjpdnaeldpdeaaWd29
import Derived.Test.YtgjpdnaeldpdeaaWd15
import Derived.Sort.CutIn
namespace Go.Proofs.Ytgjpdnaeldpdeaa
open Go.RowKit Go.Shelf
attribute [local go_sem] Oper.semAt_some

/-- From W to W' blocks g and bo alone may have changed, and there may be new ones. -/
structure Only2 (g bo : Nat) (W W' : World) : Prop where
  os : W'.os = W.os
  tape : W'.tape = W.tape
  output : W'.output = W.output
  size : W.heap.size ≤ W'.heap.size
  block : ∀ k, k < W.heap.size → k ≠ g → k ≠ bo → W'.heap[k]? = W.heap[k]?
theorem Only2.refl (g bo : Nat) (W : World) : Only2 g bo W W := ⟨rfl, rfl, rfl, Nat.le_refl _, fun _ _ _ _ => rfl⟩
theorem Only2.trans {g bo : Nat} {A B C : World} (h : Only2 g bo A B) (k : Only2 g bo B C) : Only2 g bo A C :=
  ⟨k.os.trans h.os, k.tape.trans h.tape, k.output.trans h.output, Nat.le_trans h.size k.size, fun i hi h1 h2 => (k.block i (Nat.lt_of_lt_of_le hi h.size) h1 h2).trans (h.block i hi h1 h2)⟩
theorem Only2.alloc {g bo : Nat} (W : World) (o : Obj) : Only2 g bo W (W.alloc o) := ⟨rfl, rfl, rfl, by simp, fun _ hi _ _ => heap_alloc_old W o hi⟩
theorem Only2.of_grown {g bo : Nat} {W W' : World} (h : W.grownBy W' (some g)) : Only2 g bo W W' := ⟨h.os, h.tape, h.output, h.size, fun k hk h1 _ => h.block k hk (by simpa using h1)⟩
theorem Only2.of_below {g bo : Nat} {W W' : World} (h : Below W.heap.size W W') : Only2 g bo W W' := ⟨h.os, h.tape, h.output, h.size, fun k hk _ _ => h.block k hk⟩
theorem Only2.set {g bo : Nat} (W : World) (j : Nat) (u : Value) : Only2 g bo W (W.setCell ⟨bo, j, none⟩ u) := ⟨rfl, rfl, rfl, by simp, fun k _ _ h2 => heap_setCell_other W ⟨bo, j, none⟩ k u h2⟩
theorem Only2.below {g bo n₀ : Nat} {W W' : World} (h : Only2 g bo W W') (hn : n₀ ≤ W.heap.size) (h1 : n₀ ≤ g) (h2 : n₀ ≤ bo) : Below n₀ W W' :=
  ⟨h.os, h.tape, h.output, h.size, fun k hk => h.block k (by omega) (by omega) (by omega)⟩
theorem Only2.keepsFrom {g bo B : Nat} {W W' : World} (h : Only2 g bo W W') {cs cs' : Array Value} {t t' : TypeId} {f f' : Nat × Nat} (h1 : W.heap[g]? = some (.cells cs t f)) (h2 : W.heap[bo]? = some (.cells cs' t' f')) : KeepsFrom B W W' := by
  refine ⟨h.size, fun i o _ hi ho => (h.block i (Array.getElem?_eq_some_iff.1 hi).1 ?_ ?_).trans hi⟩
  · rintro rfl; rw [h1] at hi; cases hi; cases ho
  · rintro rfl; rw [h2] at hi; cases hi; cases ho
theorem Only2.kpL {g bo n₀ z : Nat} {W W' : World} (h : Only2 g bo W W') (hn : n₀ ≤ W.heap.size) (h1 : n₀ ≤ g) (h2 : n₀ ≤ bo) (hz : z + 2 ≤ W.heap.size) (hg : g < z) (hb : bo < z) : KpL n₀ z W W' :=
  ⟨h.below hn h1 h2, h.block z (by omega) (by omega) (by omega), h.block (z + 1) (by omega) (by omega) (by omega)⟩

/-- What the rounds of Prefix keep: the box of n, the box of out, the row of out, filled by k letters. -/
structure PI (w : World) (l : Ls) (n bo g k : Nat) (W : World) : Prop where
  bl : Below w.heap.size w W
  nb : W.heap[w.heap.size + 1]? = some (.cells #[.int .i64 (n : Nat)] 3 (0, 0))
  ob : W.heap[bo]? = some (.cells #[.slice (some ⟨g, 0, none⟩) k n] 22 (0, 0))
  row : OI W w.heap.size (.slice (some ⟨g, 0, none⟩) k n) (prefixL l k)

theorem prefixL_len (l : Ls) (k : Nat) : (prefixL l k).length = k := by simp [prefixL]
theorem prefixL_succ (l : Ls) (k : Nat) : prefixL l (k + 1) = prefixL l k ++ [atL l k] := by simp [prefixL, List.range_succ]

theorem OI.blk {w : World} {base g n cap : Nat} {l : List Int} (h : OI w base (.slice (some ⟨g, 0, none⟩) n cap) l) : ∃ cs, w.heap[g]? = some (.cells cs 3 (0, 0)) := by
  rcases h.2 with ⟨h0, _⟩ | ⟨g', cap', cur, h1, _, h2, _⟩
  · cases h0
  · simp only [Value.slice.injEq, Option.some.injEq, Addr.mk.injEq, and_true] at h1
    obtain ⟨rfl, _⟩ := h1
    exact ⟨_, h2⟩

theorem PI.grown {w W W' : World} {l : Ls} {n bo g k : Nat} {row : Option Nat} (h : PI w l n bo g k W) (hg : W.grownBy W' row) (h0 : ∀ r, row = some r → w.heap.size ≤ r ∧ r ≠ w.heap.size + 1 ∧ r ≠ bo ∧ r ≠ g) : PI w l n bo g k W' := by
  refine ⟨h.bl.grown hg h.bl.size (fun r e => (h0 r e).1), ?_, ?_, ?_⟩
  · exact (hg.block _ (Array.getElem?_eq_some_iff.1 h.nb).1 (fun e => by have := (h0 _ e.symm).2.1; exact this rfl)).trans h.nb
  · exact (hg.block _ (Array.getElem?_eq_some_iff.1 h.ob).1 (fun e => by have := (h0 _ e.symm).2.2.1; exact this rfl)).trans h.ob
  · exact h.row.grown hg (.inr (fun e => by
      have := (h0 g (by rw [← e]; rfl)).2.2.2; exact this rfl))

theorem PI.own {w : World} {l : Ls} {n bo g B : Nat} (hB : w.heap.size ≤ B) : OwnFrom B (fun k W => PI w l n bo g k W) := by
  intro k W W' row h hg hr
  refine h.grown hg fun r e => ?_
  obtain ⟨h1, o, ho, hc⟩ := hr r e
  refine ⟨by omega, ?_, ?_, ?_⟩
  · rintro rfl; rw [h.nb] at ho; cases ho; cases hc
  · rintro rfl; rw [h.ob] at ho; cases ho; cases hc
  · rintro rfl
    obtain ⟨cs, h2⟩ := h.row.blk
    rw [h2] at ho; cases ho; cases hc

/-- A round: the letter is appended, the new slice stored. -/
theorem PI.push {w W W' : World} {l : Ls} {n bo g k : Nat} {x : Value} (h : PI w l n bo g k W) (hbo : w.heap.size + 1 < bo) (hgo : w.heap.size + 1 < g) (hne : g ≠ bo) (hO : OI W' w.heap.size (.slice (some ⟨g, 0, none⟩) (k + 1) n) (prefixL l (k + 1))) (hg : (W.alloc (.cells #[x] 3)).grownBy W' (some g)) :
    PI w l n bo g (k + 1) (W'.setCell ⟨bo, 0, none⟩ (.slice (some ⟨g, 0, none⟩) (k + 1) n)) ∧ Only2 g bo W (W'.setCell ⟨bo, 0, none⟩ (.slice (some ⟨g, 0, none⟩) (k + 1) n)) := by
  have o1 : Only2 g bo W (W'.setCell ⟨bo, 0, none⟩ (.slice (some ⟨g, 0, none⟩) (k + 1) n)) := ((Only2.alloc W _).trans (Only2.of_grown hg)).trans (Only2.set W' 0 _)
  have hb := h.bl.size
  have ob' : W'.heap[bo]? = some (.cells #[.slice (some ⟨g, 0, none⟩) k n] 22 (0, 0)) :=
    (hg.block bo (by have := (Array.getElem?_eq_some_iff.1 h.ob).1; simp; omega) (by simpa using fun e => hne e.symm)).trans ((heap_alloc_old W _ (Array.getElem?_eq_some_iff.1 h.ob).1).trans h.ob)
  refine ⟨⟨h.bl.trans (o1.below hb (by omega) (by omega)), ?_, set_one ob', ?_⟩, o1⟩
  · exact (o1.block _ (Array.getElem?_eq_some_iff.1 h.nb).1 (by omega) (by omega)).trans h.nb
  · exact hO.grown (grown_set W' bo 0 _) (.inr (by simpa [Value.ownBlock] using hne))

theorem prefixI_low {l : Ls} {i : Int} (h : i < 1) : prefixI l i = [] := if_neg (by omega)
theorem prefixI_high {l : Ls} {i : Int} (h : 500 < i) : prefixI l i = [] := if_neg (by omega)
theorem prefixI_not {l : Ls} {i : Int} (h : formB l = false) : prefixI l i = [] := if_neg (by rw [h]; simp)
theorem prefixI_nat {l : Ls} {n : Nat} (h : formB l = true) (h1 : 1 ≤ n) (h2 : n ≤ 500) : prefixI l (n : Int) = prefixL l n := if_pos ⟨by omega, by omega, h⟩

end Go.Proofs.Ytgjpdnaeldpdeaa
