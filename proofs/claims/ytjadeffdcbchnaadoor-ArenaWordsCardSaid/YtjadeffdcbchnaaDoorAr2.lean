/- Numbers of places in a map of a call's own. -/
import Derived.Test.YtjadeffdcbchnaaDoorAr1
import Derived.Test.YtjadeffdcbchnaaDoorArC
import Derived.Maps.OwnSet
import Derived.Maps.OwnIn
import Derived.DeepKeys4
namespace Go.Proofs.YtjadeffdcbchnaaDoor
open Go.RowKit Go.Maps Go.WideMaps

def plV (y : Pl) : Value := .agg #[.int .i64 y.st, .int .i64 y.inn, .int .i64 y.pr]
def WfP (y : Pl) : Prop := I64 y.st ∧ I64 y.inn ∧ I64 y.pr
noncomputable def klP (y : Pl) : Lit := (keyOf Tryd.prog 48 (plV y)).getD (.bool false)

theorem placeLaidOut : laidOutB Tryd.prog = true := by kernel_rfl
theorem placeRow : 48 < Tryd.prog.types.size := of_decide_eq_true (by kernel_rfl)
theorem placeWide : (match Tryd.prog.underlying 48 with | some (.array _ _) | some (.struct _) => true | _ => false) = true := by kernel_rfl
set_option maxRecDepth 100000 in
theorem placeKT : Tryd.prog.keyTypeAt 2 48 = true := by kernel_rfl
set_option maxRecDepth 100000 in
theorem placeKeyed : Keyed Tryd.prog 48 := Keyed.of_law (deep_law_laid placeLaidOut (m := 2) (by omega) placeRow placeKT placeWide)
theorem placeKey : Tryd.prog.keyType 48 = true := by kernel_rfl
theorem placeCells : Tryd.prog.cellsOf 48 = 3 := by kernel_rfl
theorem intCells : Tryd.prog.cellsOf 3 = 1 := by kernel_rfl
theorem lit_wf {a : Int} (h : I64 a) : (Lit.int .i64 a).wf = true := WalkArith.wf_i64 h

theorem plKey (y : Pl) (h : WfP y) : keyOf Tryd.prog 48 (plV y) = some (klP y) := by
  have hs : (keyOf Tryd.prog 48 (plV y)).isSome = true := by
    obtain ⟨a, b, c⟩ := y
    obtain ⟨ha, hb, hc⟩ := h
    have wa := lit_wf ha
    have wb := lit_wf hb
    have wc := lit_wf hc
    have hf : (plV ⟨a, b, c⟩).formed Tryd.prog 48 = true := by simp [plV, Value.formed, Tryd.underlying48, placeCells]
    obtain ⟨m, hm⟩ : ∃ m, Tryd.prog.types.size = m + 1 := ⟨Tryd.prog.types.size - 1, by have := placeRow; omega⟩
    unfold keyOf
    rw [placeKey, hf, hm]
    simp only [Tryd.underlying48, Bool.and_self, if_true, Option.isSome_map]
    simp [Program.keyLits, Tryd.underlying48, Tryd.underlying3, placeCells, intCells, plV, Value.cells, wa, wb, wc]
  obtain ⟨k, hk⟩ := Option.isSome_iff_exists.1 hs
  unfold klP
  rw [hk]; rfl

theorem plV_inj {y z : Pl} (h : plV y = plV z) : y = z := by
  obtain ⟨a, b, c⟩ := y
  obtain ⟨a', b', c'⟩ := z
  simp only [plV, Value.agg.injEq, Array.mk.injEq, List.cons.injEq, Value.int.injEq, true_and, and_true] at h
  obtain ⟨rfl, rfl, rfl⟩ := h
  rfl
theorem klP_inj {y z : Pl} (hy : WfP y) (hz : WfP z) (h : klP y = klP z) : y = z := by
  have h1 := plKey y hy
  have h2 := plKey z hz
  rw [← h] at h2
  generalize klP y = k at *
  exact plV_inj (Keyed.inj placeKeyed h1 h2)
theorem klP_key {y : Pl} (hy : WfP y) : ∃ k, klP y = k ∧ Go.WideAt.IsKeyLit k := by
  have h1 := plKey y hy
  generalize klP y = k at *
  exact ⟨k, rfl, Keyed.key placeKeyed h1⟩

/-- Block b is the map that numbers the places of a list. -/
def NumM (w : World) (b : Nat) (l : List Pl) : Prop := ∃ D : DataW Unit, w.ownsMap Tryd.prog 48 (plainElem Tryd.prog 3) b l.length D ∧ IsMap D ∧
  (∀ y, WfP y → Maps.has D (klP y) = decide (y ∈ l)) ∧ ∀ y, WfP y → y ∈ l → D.atKey (klP y) (.lit (.int .i64 0)) = .lit (.int .i64 (l.idxOf y))
theorem NumM.kept {w w' : World} {b : Nat} {l : List Pl} {row : Option Nat} (h : NumM w b l) (hg : w.grownBy w' row) (hne : some b ≠ row) : NumM w' b l := by
  obtain ⟨D, h1, h2⟩ := h
  exact ⟨D, h1.kept hg hne, h2⟩
theorem NumM.lt {w : World} {b : Nat} {l : List Pl} (h : NumM w b l) : b < w.heap.size := by
  obtain ⟨D, h1, -⟩ := h
  exact h1.lt
theorem NumM.below {w w' : World} {b : Nat} {l : List Pl} (h : NumM w b l) (hb : Below w.heap.size w w') : NumM w' b l := h.kept (below_grown hb) (by simp)
theorem NumM.put {w' : World} {b : Nat} {l : List Pl} {y : Pl} {D : DataW Unit} (hm : IsMap D) (hy : WfP y) (hn : y ∉ l)
    (h1 : ∀ z, WfP z → Maps.has D (klP z) = decide (z ∈ l)) (h2 : ∀ z, WfP z → z ∈ l → D.atKey (klP z) (.lit (.int .i64 0)) = .lit (.int .i64 (l.idxOf z)))
    (h : w'.ownsMap Tryd.prog 48 (plainElem Tryd.prog 3) b (l.length + 1) (D.put (klP y) (.lit (.int .i64 l.length)))) : NumM w' b (l ++ [y]) := by
  refine ⟨_, by rw [List.length_append, List.length_singleton]; exact h, hm.put _ _, fun z hz => ?_, fun z hz hzl => ?_⟩
  · by_cases e : z = y
    · subst e
      obtain ⟨k, e, hk⟩ := klP_key hz
      rw [e]
      rw [has_put_same hm hk]; simp
    · rw [has_put_other (fun k => e (klP_inj hz hy k)), h1 z hz]
      simp [e]
  · by_cases e : z = y
    · subst e
      obtain ⟨k, e, hk⟩ := klP_key hz
      rw [idx_new hn, e]
      rw [atKey_put_same hm hk]
    · have hzl' : z ∈ l := by
        rcases List.mem_append.1 hzl with h | h
        · exact h
        · exact absurd (List.mem_singleton.1 h) e
      rw [atKey_put_other (fun k => e (klP_inj hz hy k)), h2 z hz hzl', idx_pre hzl']

end Go.Proofs.YtjadeffdcbchnaaDoor
