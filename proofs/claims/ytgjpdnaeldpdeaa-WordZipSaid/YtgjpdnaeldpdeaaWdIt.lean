/- A range over an iterator that never ends by itself: its contract is told by the number of rounds, and the caller's body ends it. -/
import Derived.RangeFuncNested
import Derived.RangeFuncBound
import Derived.RangeFuncCalls
import Derived.RangeFuncLeaves
import Derived.Shelf.Abstract
import Derived.Shelf.RegionOpen
import Derived.OwnWalkIn
import Derived.TacticsInMore
import Derived.LoopNIn
import Derived.LoopIn
namespace Go.Proofs.Ytgjpdnaeldpdeaa
open Go Go.RowKit

section
variable {P : Program} {F : Fence} {n : Nat}

/-- The iterator calls yield with encs 0, encs 1, .. until a round says 'no more'; at most N rounds go on. It lays two blocks of its own first and writes the second one of them between the rounds. -/
def IdxStops (F : Fence) (n : Nat) (P : Program) (g : Nat) (lb : Array Value) (encs : Nat → Array Value) (Kp : Nat → World → World → Prop) (N : Nat) (w : World) : Prop :=
  ∀ (l : Nat) (J Jx : Nat → World → Prop) (W : World), Below w.heap.size w W → AbidesFrom W.heap.size J → AbidesFrom W.heap.size Jx →
    (∀ k A B, J k A → W.heap.size + 2 ≤ A.heap.size → A.grownBy B (some (W.heap.size + 1)) → J k B) →
    (∀ k W1, J k W1 → W.heap.size + 2 ≤ W1.heap.size → k < N → YieldAt F (n - 1) P l (encs k) W1 fun e W' =>
      (e = .returned (.bool true) ∧ k + 1 < N ∧ J (k + 1) W' ∧ Kp W.heap.size W1 W') ∨ (e = .returned (.bool false) ∧ Jx (k + 1) W')) →
    0 < N → J 0 W →
    CallsIn F n P g (#[.func (.yield l) #[] #[]] ++ lb) W fun e W' => (∃ v, e = .returned v) ∧ ∃ k, Jx k W'

/-- How a round may be left. -/
def idxPost (B : Nat) (Kp : World → World → Prop) (I : Nat → World → Prop) (Ix : Code → Nat → World → Prop) (N k : Nat) (W : World) : Exit → Act → World → Prop
  | .normal, _, W' => KeepsFrom B W W' ∧ Kp W W' ∧ k + 1 < N ∧ I (k + 1) W'
  | .ret, _, W' => KeepsFrom B W W' ∧ Ix .ret (k + 1) W'
  | .exit id, _, W' => KeepsFrom B W W' ∧ Ix (.exit id) (k + 1) W'
  | .goto t, _, W' => KeepsFrom B W W' ∧ Ix (.goto t) (k + 1) W'
  | .panic _, _, _ => False
  | .outgrown, _, _ => False

theorem wpIn_rangeFunc_idx {g : Operand} {ps : Array Tmp} {assign body : Code} {Q : Exit → Act → World → Prop} {a : Act} {w : World}
    (hro : F.round = none) (h1 : 1 ≤ n) {gf : Nat} {lb : Array Value} (hg : a.eval g = .func (.func gf) #[] lb) (hFg : F.fn gf) (eg : ∀ args w, (callFunc gf args).run P w = .ok (.enter gf args) w)
    {encs : Nat → Array Value} {Kp : Nat → World → World → Prop} {N : Nat} {w0 : World} (hseq : IdxStops F (n - 1) P gf lb encs Kp N w0) (hN : 0 < N)
    (hKt : ∀ {A B C : World}, Kp (w.heap.size + 2) A B → Kp (w.heap.size + 2) B C → Kp (w.heap.size + 2) A C) (hKb : ∀ (W : World) (l : Nat) (o o' : Obj), w.heap.size ≤ l → l < w.heap.size + 2 → W.heap[l]? = some o → o.isCells = false → o.isWalk = false → Kp (w.heap.size + 2) W (W.putObj l o')) (hb0 : Below w0.heap.size w0 w) (hps : ∀ k, (encs k).size = ps.size)
    (I : Nat → World → Prop) (Ix : Code → Nat → World → Prop) (hI : OwnFrom w.heap.size I) (hIg : ∀ k A B, I k A → w.heap.size + 4 ≤ A.heap.size → A.grownBy B (some (w.heap.size + 3)) → I k B) (hIx : ∀ c, OwnFrom w.heap.size (Ix c)) (h0 : I 0 w) (a₁ : Nat → Act)
    (hassign : ∀ (l k : Nat) (W : World) (K : Act → World → Prop), K (a₁ k) W →
      assign.wpIn (F.inRound l) (n - 1 - 1) P (Exit.then K (fun _ _ _ => False)) { tmps := (ps.zip (encs k)).foldl (fun t (p, v) => t.setIfInBounds p v) a.tmps, defers := [] } W)
    (hbody : ∀ (l k : Nat) (W : World), I k W → w.heap.size + 4 ≤ W.heap.size → k < N → body.wpIn (F.inRound l) (n - 1 - 1) P (idxPost w.heap.size (Kp (w.heap.size + 2)) I Ix N k W) (a₁ k) W)
    (hstop : ∀ (D : Nat) (c : Code) (k : Nat) (W : World), w.heap.size ≤ D → Ix c k W → W.heap[D]? = some (.deferred (some [])) → c.wpIn F n P Q { a with defers := { target := .collected D, args := #[] } :: a.defers } W) :
    (Code.rangeFunc g ps assign body).wpIn F n P Q a w := by
  refine wpIn_rangeFunc fun fn hfn => ?_
  rw [hro]
  -- the loop's record, and the two blocks of its book-keeping
  obtain ⟨R, hR⟩ : ∃ R : LoopState → Option Code → Loop, R = fun s p => { state := s, pending := p, fn, tmps := a.tmps, params := ps, assign, body, defers := w.heap.size } := ⟨_, rfl⟩
  obtain ⟨V, hV⟩ : ∃ V, (w.alloc (.deferred (some []))).alloc (.loop (R .ready none)) = V := ⟨_, rfl⟩
  have vL : V.heap[w.heap.size + 1]? = some (.loop (R .ready none)) := by
    have := World.alloc_heap_new (w.alloc (.deferred (some []))) (.loop (R .ready none))
    rwa [World.size_alloc, hV] at this
  have vD : V.heap[w.heap.size]? = some (.deferred (some [])) := by
    rw [← hV]; exact (Below.heap_alloc _ _ _ (by simp)).trans (World.alloc_heap_new w _)
  have vs : V.heap.size = w.heap.size + 2 := by rw [← hV]; simp
  have vI : I 0 V := by rw [← hV]; exact hI.alloc _ (hI.alloc _ h0)
  have vb : Below w0.heap.size w0 V := by
    rw [← hV]; exact hb0.trans ((((Below.refl _ w).alloc (Nat.le_refl _) _).alloc (by simp) _).mono hb0.size)
  have wide : ∀ {A : World} {row : Option Nat}, (∀ r, row = some r → V.heap.size ≤ r ∧ ∃ o : Obj, A.heap[r]? = some o ∧ o.isWalk = true) → (∀ r, row = some r → w.heap.size ≤ r ∧ ∃ o : Obj, A.heap[r]? = some o ∧ o.isCells = false) :=
    fun hr r e => by
      obtain ⟨hB, o, ho, hw⟩ := hr r e
      exact ⟨by omega, o, ho, Obj.not_cells_of_walk hw⟩
  refine ⟨w.heap.size + 1, [{ target := .collected w.heap.size, args := #[] }], V, { target := .fn (.func gf) lb, args := #[.func (.yield (w.heap.size + 1)) #[] #[]] }, V, gf, #[.func (.yield (w.heap.size + 1)) #[] #[]] ++ lb, V, ?_, ?_, ?_, ?_, fun _ => h1, ?_⟩
  · rw [← hV, hR]; exact run_enterLoop_outer _ _ _ _ _
  · simp only [resolve, hg]
    simp [go_sem]
  · intro f' hf'; simp [Target.leads] at hf'; subst hf'; exact hFg
  · simp [invoke, go_sem, eg]
  refine (hseq (w.heap.size + 1) (fun k W => I k W ∧ W.heap[w.heap.size + 1]? = some (.loop (R .ready none)) ∧ W.heap[w.heap.size]? = some (.deferred (some [])))
    (fun k W => ∃ c, Ix c k W ∧ W.heap[w.heap.size + 1]? = some (.loop (R .done (some c))) ∧ W.heap[w.heap.size]? = some (.deferred (some []))) V vb ?_ ?_ ?_ ?_ hN ⟨vI, vL, vD⟩).mono ?_
  · intro s A B row hs hg' hr
    exact ⟨hI s A B row hs.1 hg' (wide hr), (grownBy_keeps hg' (fun r e => (hr r e).2) hs.2.1 rfl).trans hs.2.1, (grownBy_keeps hg' (fun r e => (hr r e).2) hs.2.2 rfl).trans hs.2.2⟩
  · rintro s A B row ⟨c, hc, hl, hd⟩ hg' hr
    exact ⟨c, hIx c s A B row hc hg' (wide hr), (grownBy_keeps hg' (fun r e => (hr r e).2) hl rfl).trans hl, (grownBy_keeps hg' (fun r e => (hr r e).2) hd rfl).trans hd⟩
  · rintro k A B ⟨hi, hl, hd⟩ hsz hg'
    rw [vs] at hsz hg'
    exact ⟨hIg k A B hi (by omega) (by rw [show w.heap.size + 3 = w.heap.size + 2 + 1 by omega]; exact hg'), (hg'.block _ (Array.getElem?_eq_some_iff.1 hl).1 (by simp)).trans hl, (hg'.block _ (Array.getElem?_eq_some_iff.1 hd).1 (by simp; omega)).trans hd⟩
  · -- one round
    rintro k W ⟨hi, hl, hd⟩ hsz hk
    rw [vs] at hsz
    have hlt : w.heap.size + 1 < W.heap.size := (Array.getElem?_eq_some_iff.1 hl).1
    have hy := run_yield (P := P) (args := encs k) hl (by rw [hR]; exact hps k)
    rw [hR] at hy
    refine ⟨fn, _, assign, body, hy, roundIn_of_wpIn hfn (hassign _ k W _ ⟨_, run_beginRound hl (by rw [hR]), ?_⟩)⟩
    obtain ⟨U, hU⟩ : ∃ U, W.putObj (w.heap.size + 1) (.loop { R .ready none with state := .busy }) = U := ⟨_, rfl⟩
    have uL : U.heap[w.heap.size + 1]? = some (.loop { R .ready none with state := .busy }) := by rw [← hU]; exact World.putObj_heap_same hlt
    have uD : U.heap[w.heap.size]? = some (.deferred (some [])) := by rw [← hU]; exact (World.putObj_heap_other (by omega)).trans hd
    have uK : Kp (w.heap.size + 2) W U := by rw [← hU]; exact hKb _ _ _ _ (by omega) (by omega) hl rfl rfl
    have uS : w.heap.size + 4 ≤ U.heap.size := by rw [← hU, World.putObj_size]; omega
    have uI : I k U := by rw [← hU]; exact hI.putObj _ hi (by omega) hl rfl
    rw [hU]
    have shut : ∀ (j : Option Code) (X : World), KeepsFrom w.heap.size U X →
        (Instr.endRound (w.heap.size + 1) j).run P X = .ok (.bool j.isNone) (X.putObj (w.heap.size + 1) (.loop (R (if j.isNone then .ready else .done) j))) ∧
        X.heap[w.heap.size + 1]? = some (.loop { R .ready none with state := .busy }) ∧
        (X.putObj (w.heap.size + 1) (.loop (R (if j.isNone then .ready else .done) j))).heap[w.heap.size + 1]? = some (.loop (R (if j.isNone then .ready else .done) j)) ∧
        (X.putObj (w.heap.size + 1) (.loop (R (if j.isNone then .ready else .done) j))).heap[w.heap.size]? = some (.deferred (some [])) := fun j X hX => by
      have xL := hX.same _ _ (by omega) uL rfl
      have := run_endRound (P := P) j xL
      rw [hR] at this ⊢
      exact ⟨this, by rw [hR] at xL; exact xL, World.putObj_heap_same (Array.getElem?_eq_some_iff.1 xL).1, (World.putObj_heap_other (by omega)).trans (hX.same _ _ (Nat.le_refl _) uD rfl)⟩
    refine wpIn_mono (hbody _ k U uI uS hk) ?_
    rintro e a3 X hp
    cases e with
    | normal =>
      obtain ⟨hX, kX, kN, iX⟩ := hp
      obtain ⟨hr, x1, x2, x3⟩ := shut none X hX
      exact ⟨_, _, hr, .inl ⟨rfl, kN, ⟨hI.putObj _ iX (by omega) x1 rfl, x2, x3⟩, by rw [vs]; exact hKt (hKt uK kX) (hKb _ _ _ _ (by omega) (by omega) x1 rfl rfl)⟩⟩
    | ret =>
      obtain ⟨hX, iX⟩ := hp
      obtain ⟨hr, x1, x2, x3⟩ := shut (some .ret) X hX
      exact ⟨_, _, hr, .inr ⟨rfl, .ret, (hIx _).putObj _ iX (by omega) x1 rfl, x2, x3⟩⟩
    | exit id =>
      obtain ⟨hX, iX⟩ := hp
      obtain ⟨hr, x1, x2, x3⟩ := shut (some (.exit id)) X hX
      exact ⟨_, _, hr, .inr ⟨rfl, .exit id, (hIx _).putObj _ iX (by omega) x1 rfl, x2, x3⟩⟩
    | goto t =>
      obtain ⟨hX, iX⟩ := hp
      obtain ⟨hr, x1, x2, x3⟩ := shut (some (.goto t)) X hX
      exact ⟨_, _, hr, .inr ⟨rfl, .goto t, (hIx _).putObj _ iX (by omega) x1 rfl, x2, x3⟩⟩
    | panic ch => exact hp.elim
    | outgrown => exact hp.elim
  · -- behind the iterator
    rintro e X ⟨⟨v, rfl⟩, k, c, hi, hl, hd⟩
    exact ⟨some c, _, by have := run_endLoop (P := P) hl (by rw [hR]; simp); rw [hR] at this; exact this, hstop _ c k _ (Nat.le_refl _) ((hIx c).putObj _ hi (by omega) hl rfl) ((World.putObj_heap_other (by omega)).trans hd)⟩

end
end Go.Proofs.Ytgjpdnaeldpdeaa
