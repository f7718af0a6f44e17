/- A map that numbers numbers, and a box of one cell. -/
import Derived.Test.YtkbiopjinegckaaStC
import Derived.Maps.OwnSet
import Derived.Maps.OwnIn
import Derived.DeepKeys4
namespace Go.Proofs.Ytkbiopjinegckaa
open Go.RowKit Go.Maps Go.WideMaps

theorem lit_wf {a : Int} (h : I64 a) : (Lit.int .i64 a).wf = true := WalkArith.wf_i64 h
theorem zero_int (w : World) : (zeroValue 3).run Try.prog w = .ok (.int .i64 0) w := by kernel_rfl
theorem idxI_pre {l e : List Int} {y : Int} (h : y ∈ l) : (l ++ e).idxOf y = l.idxOf y := by
  induction l with
  | nil => cases h
  | cons z l ih =>
    rw [List.cons_append, List.idxOf_cons, List.idxOf_cons]
    by_cases e : z = y
    · subst e; simp
    · have hb : (z == y) = false := by simpa using e
      rw [hb, ih ((List.mem_cons.1 h).resolve_left fun x => e x.symm)]
theorem idxI_lt {l : List Int} {y : Int} (h : y ∈ l) : l.idxOf y < l.length := List.idxOf_lt_length_iff.2 h
theorem idxI_new {l : List Int} {y : Int} (h : y ∉ l) : (l ++ [y]).idxOf y = l.length := by
  induction l with
  | nil => simp
  | cons z l ih =>
    have e : ¬ z = y := fun x => h (by rw [x]; exact List.mem_cons_self)
    have hb : (z == y) = false := by simpa using e
    rw [List.cons_append, List.idxOf_cons, hb, ih (fun x => h (List.mem_cons_of_mem _ x))]
    simp
theorem intKeyed : Keyed Try.prog 3 := int_keyed Try.underlying3
theorem intKey {q : Int} (h : I64 q) : keyOf Try.prog 3 (.int .i64 q) = some (.int .i64 q) := keyOf_int_mk Try.underlying3 (lit_wf h)
theorem intIsKey {q : Int} (h : I64 q) : Go.WideAt.IsKeyLit (.int .i64 q) := Keyed.key intKeyed (intKey h)
/-- Block b is the map that numbers the states of a list. -/
def NumI (w : World) (b : Nat) (l : List Int) : Prop := ∃ D : DataW Unit, w.ownsMap Try.prog 3 (plainElem Try.prog 3) b l.length D ∧ IsMap D ∧
  (∀ y, I64 y → Maps.has D (.int .i64 y) = decide (y ∈ l)) ∧ ∀ y, I64 y → y ∈ l → D.atKey (.int .i64 y) (.lit (.int .i64 0)) = .lit (.int .i64 (l.idxOf y))
/-- The same, with the number of its keys. -/
def NumL (w : World) (b : Nat) (l : List Int) : Prop := ∃ D : DataW Unit, w.ownsMap Try.prog 3 (plainElem Try.prog 3) b l.length D ∧ IsMap D ∧
  ((∀ y, I64 y → Maps.has D (.int .i64 y) = decide (y ∈ l)) ∧ ∀ y, I64 y → y ∈ l → D.atKey (.int .i64 y) (.lit (.int .i64 0)) = .lit (.int .i64 (l.idxOf y))) ∧ Maps.size D = l.length
theorem NumI.kept {w w' : World} {b : Nat} {l : List Int} {row : Option Nat} (h : NumI w b l) (hg : w.grownBy w' row) (hne : some b ≠ row) : NumI w' b l := by
  obtain ⟨D, h1, h2⟩ := h
  exact ⟨D, h1.kept hg hne, h2⟩
theorem NumI.lt {w : World} {b : Nat} {l : List Int} (h : NumI w b l) : b < w.heap.size := by
  obtain ⟨D, h1, -⟩ := h
  exact h1.lt
theorem NumI.below {w w' : World} {b : Nat} {l : List Int} (h : NumI w b l) (hb : Below w.heap.size w w') : NumI w' b l := h.kept (below_grown hb) (by simp)
theorem NumI.made (w : World) : NumI (w.alloc (.map #[] 0)) w.heap.size [] :=
  ⟨_, World.ownsMap_made w Try.prog 3 _, isMap_empty, fun y _ => by simp [Maps.has], fun y _ hy => absurd hy (by simp)⟩
theorem NumI.put {w' : World} {b : Nat} {l : List Int} {y : Int} {D : DataW Unit} (hm : IsMap D) (hy : I64 y) (hn : y ∉ l)
    (h1 : ∀ z, I64 z → Maps.has D (.int .i64 z) = decide (z ∈ l)) (h2 : ∀ z, I64 z → z ∈ l → D.atKey (.int .i64 z) (.lit (.int .i64 0)) = .lit (.int .i64 (l.idxOf z)))
    (h : w'.ownsMap Try.prog 3 (plainElem Try.prog 3) b (l.length + 1) (D.put (.int .i64 y) (.lit (.int .i64 l.length)))) : NumI w' b (l ++ [y]) := by
  refine ⟨_, by rw [List.length_append, List.length_singleton]; exact h, hm.put _ _, fun z hz => ?_, fun z hz hzl => ?_⟩
  · by_cases e : z = y
    · subst e
      rw [has_put_same hm (intIsKey hz)]; simp
    · rw [has_put_other (fun k => e (by injection k)), h1 z hz]
      simp [e]
  · by_cases e : z = y
    · subst e
      rw [idxI_new hn, atKey_put_same hm (intIsKey hz)]
    · have hzl' : z ∈ l := by
        rcases List.mem_append.1 hzl with h | h
        · exact h
        · exact absurd (List.mem_singleton.1 h) e
      rw [atKey_put_other (fun k => e (by injection k)), h2 z hz hzl', idxI_pre hzl']
set_option maxRecDepth 100000 in
theorem NumI.get {w : World} {b : Nat} {l : List Int} (h : NumI w b l) {y : Int} (hy : I64 y) :
    (y ∈ l → (Instr.lookup 54 (.map (some b)) (.int .i64 y) true).run Try.prog w = .ok (.tuple #[.int .i64 (l.idxOf y : Int), .bool true]) w) ∧
    (y ∉ l → ∃ c, (Instr.lookup 54 (.map (some b)) (.int .i64 y) true).run Try.prog w = .ok (.tuple #[.int .i64 c, .bool false]) w) := by
  obtain ⟨D, h1, h2, h3, h4⟩ := h
  obtain ⟨v, ps, hrun, hv⟩ := h1.look_ok intKeyed Try.underlying54 (zero_int w) (plainElem_int Try.underlying3 (q := .i64) (a := 0) rfl) (intKey hy)
  obtain ⟨c, rfl, hc, hwc⟩ := plainElem_int_inv Try.underlying3 hv
  rw [h3 y hy] at hrun
  simp only [Prod.mk.injEq] at hc
  refine ⟨fun hm => ?_, fun hm => ⟨c, by rw [hrun, decide_eq_false hm]⟩⟩
  have h5 := h4 y hy hm
  rw [hc.1] at h5
  simp only [DataW.lit.injEq, Lit.int.injEq, true_and] at h5
  rw [hrun, decide_eq_true hm, h5]
set_option maxRecDepth 100000 in
theorem NumI.upd {w : World} {b : Nat} {l : List Int} (h : NumI w b l) {y : Int} (hy : I64 y) (hn : y ∉ l) (hl : l.length ≤ 3000) :
    ∃ w', (Instr.mapUpdate 54 (.map (some b)) (.int .i64 y) (.int .i64 (l.length : Int))).run Try.prog w = .ok () w' ∧ NumI w' b (l ++ [y]) ∧ w.grownBy w' (some b) := by
  obtain ⟨D, h1, h2, h3, h4⟩ := h
  obtain ⟨w', hrun, r1, r2⟩ := h1.update intKeyed Try.underlying54 (by simp only [maxLen]; omega) (intKey hy) (plainElem_int Try.underlying3 (q := .i64) (a := (l.length : Int)) (lit_wf (by unfold I64; omega)))
  exact ⟨w', hrun, NumI.put h2 hy hn h3 h4 r1, r2⟩

theorem NumL.num {w : World} {b : Nat} {l : List Int} (h : NumL w b l) : NumI w b l := by
  obtain ⟨D, h1, h2, h3, -⟩ := h
  exact ⟨D, h1, h2, h3⟩
theorem NumL.kept {w w' : World} {b : Nat} {l : List Int} {row : Option Nat} (h : NumL w b l) (hg : w.grownBy w' row) (hne : some b ≠ row) : NumL w' b l := by
  obtain ⟨D, h1, h2⟩ := h
  exact ⟨D, h1.kept hg hne, h2⟩
theorem NumL.made (w : World) : NumL (w.alloc (.map #[] 0)) w.heap.size [] :=
  ⟨_, World.ownsMap_made w Try.prog 3 _, isMap_empty, ⟨fun y _ => by simp [Maps.has], fun y _ hy => absurd hy (by simp)⟩, rfl⟩
theorem NumL.len {w : World} {b : Nat} {l : List Int} (h : NumL w b l) (ty : TypeId) : (Builtin.len_ #[54] ty #[.map (some b)]).run Try.prog w = .ok (.int .i64 (l.length : Int)) w := by
  obtain ⟨D, h1, -, -, h4⟩ := h
  rw [← h4]
  exact h1.len Try.underlying54 ty
set_option maxRecDepth 100000 in
theorem NumL.upd {w : World} {b : Nat} {l : List Int} (h : NumL w b l) {y : Int} (hy : I64 y) (hn : y ∉ l) (hl : l.length ≤ 3000) :
    ∃ w', (Instr.mapUpdate 54 (.map (some b)) (.int .i64 y) (.int .i64 (l.length : Int))).run Try.prog w = .ok () w' ∧ NumL w' b (l ++ [y]) ∧ w.grownBy w' (some b) := by
  obtain ⟨D, h1, h2, h3, h4⟩ := h
  obtain ⟨w', hrun, r1, r2⟩ := h1.update intKeyed Try.underlying54 (by simp only [maxLen]; omega) (intKey hy) (plainElem_int Try.underlying3 (q := .i64) (a := (l.length : Int)) (lit_wf (by unfold I64; omega)))
  refine ⟨w', hrun, ?_, r2⟩
  refine ⟨_, by rw [List.length_append, List.length_singleton]; exact r1, h2.put _ _, ⟨fun z hz => ?_, fun z hz hzl => ?_⟩, ?_⟩
  · by_cases e : z = y
    · subst e
      rw [has_put_same h2 (intIsKey hz)]; simp
    · rw [has_put_other (fun k => e (by injection k)), h3.1 z hz]
      simp [e]
  · by_cases e : z = y
    · subst e
      rw [idxI_new hn, atKey_put_same h2 (intIsKey hz)]
    · have hzl' : z ∈ l := by
        rcases List.mem_append.1 hzl with h | h
        · exact h
        · exact absurd (List.mem_singleton.1 h) e
      rw [atKey_put_other (fun k => e (by injection k)), h3.2 z hz hzl', idxI_pre hzl']
  · rw [Maps.size_put (h1.tidy intKeyed), h3.1 y hy, decide_eq_false hn, h4]; simp

theorem one_set {w : World} {z : Nat} {t : TypeId} {c d : Value} (h : w.heap[z]? = some (.cells #[c] t (0, 0))) : (w.setCell ⟨z, 0, none⟩ d).heap[z]? = some (.cells #[d] t (0, 0)) := by
  have := heap_setCell_same w z 0 _ _ d h
  simpa using this

end Go.Proofs.Ytkbiopjinegckaa
