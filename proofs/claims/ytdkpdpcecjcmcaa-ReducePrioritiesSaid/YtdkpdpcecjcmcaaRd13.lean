/- A map from moves to numbers, of a call's own. -/
import Derived.Test.YtdkpdpcecjcmcaaRd5
import Derived.Test.YtdkpdpcecjcmcaaRdM
namespace Go.Proofs.Ytdkpdpcecjcmcaa
open Go.RowKit Go.Maps Go.WideMaps

def mvV (y : Mv) : Value := .agg #[.int .i64 (y.1 : Int), .int .i64 (y.2 : Int)]
def WfM (y : Mv) : Prop := y.1 ≤ 1000000 ∧ y.2 ≤ 1000000
noncomputable def klM (y : Mv) : Lit := (keyOf Try.prog 49 (mvV y)).getD (.bool false)
theorem moveLaid : laidOutB Try.prog = true := by kernel_rfl
theorem moveRow : 49 < Try.prog.types.size := of_decide_eq_true (by kernel_rfl)
theorem moveWide : (match Try.prog.underlying 49 with | some (.array _ _) | some (.struct _) => true | _ => false) = true := by kernel_rfl
set_option maxRecDepth 100000 in
theorem moveKT : Try.prog.keyTypeAt 2 49 = true := by kernel_rfl
set_option maxRecDepth 100000 in
theorem moveKeyed : Keyed Try.prog 49 := Keyed.of_law (deep_law_laid moveLaid (m := 2) (by omega) moveRow moveKT moveWide)
theorem moveKey : Try.prog.keyType 49 = true := by kernel_rfl
theorem moveCells : Try.prog.cellsOf 49 = 2 := by kernel_rfl
theorem intCells1 : Try.prog.cellsOf 3 = 1 := by kernel_rfl
theorem litN_wf {a : Nat} (h : a ≤ 1000000) : (Lit.int .i64 (a : Int)).wf = true := WalkArith.wf_i64 (by omega)
theorem mvKey (y : Mv) (h : WfM y) : keyOf Try.prog 49 (mvV y) = some (klM y) := by
  have hs : (keyOf Try.prog 49 (mvV y)).isSome = true := by
    obtain ⟨a, b⟩ := y
    obtain ⟨ha, hb⟩ := h
    have wa := litN_wf ha
    have wb := litN_wf hb
    have hf : (mvV (a, b)).formed Try.prog 49 = true := by simp [mvV, Value.formed, Try.underlying49, moveCells]
    obtain ⟨m, hm⟩ : ∃ m, Try.prog.types.size = m + 1 := ⟨Try.prog.types.size - 1, by have := moveRow; omega⟩
    unfold keyOf
    rw [moveKey, hf, hm]
    simp only [Try.underlying49, Bool.and_self, if_true, Option.isSome_map]
    simp [Program.keyLits, Try.underlying49, Try.underlying3, moveCells, intCells1, mvV, Value.cells, wa, wb]
  obtain ⟨k, hk⟩ := Option.isSome_iff_exists.1 hs
  unfold klM
  rw [hk]; rfl
theorem mvV_inj {y z : Mv} (h : mvV y = mvV z) : y = z := by
  obtain ⟨a, b⟩ := y
  obtain ⟨a', b'⟩ := z
  simp only [mvV, Value.agg.injEq, Array.mk.injEq, List.cons.injEq, Value.int.injEq, true_and, and_true] at h
  obtain ⟨h1, h2⟩ := h
  rw [show a = a' by omega, show b = b' by omega]
theorem klM_inj {y z : Mv} (hy : WfM y) (hz : WfM z) (h : klM y = klM z) : y = z := by
  have h1 := mvKey y hy
  have h2 := mvKey z hz
  rw [← h] at h2
  generalize klM y = k at *
  exact mvV_inj (Keyed.inj moveKeyed h1 h2)
theorem klM_key {y : Mv} (hy : WfM y) : ∃ k, klM y = k ∧ Go.WideAt.IsKeyLit k := by
  have h1 := mvKey y hy
  generalize klM y = k at *
  exact ⟨k, rfl, Keyed.key moveKeyed h1⟩

/-- Block b is a map with the keys l and the values f. -/
def MapM (w : World) (b : Nat) (l : List Mv) (f : Mv → Int) : Prop := ∃ D : DataW Unit, w.ownsMap Try.prog 49 (plainElem Try.prog 3) b l.length D ∧ IsMap D ∧
  (∀ y, WfM y → Maps.has D (klM y) = decide (y ∈ l)) ∧ ∀ y, WfM y → y ∈ l → D.atKey (klM y) (.lit (.int .i64 0)) = .lit (.int .i64 (f y))
section
variable {w w' : World} {b : Nat} {l : List Mv} {f : Mv → Int} {y : Mv}
theorem MapM.blk (h : MapM w b l f) (e : w'.heap[b]? = w.heap[b]?) : MapM w' b l f := by
  obtain ⟨D, ⟨es, c, h1, h2⟩, h3⟩ := h
  exact ⟨D, ⟨es, c, e.trans h1, h2⟩, h3⟩
theorem MapM.lt (h : MapM w b l f) : b < w.heap.size := by
  obtain ⟨D, h1, -⟩ := h
  exact h1.lt
theorem MapM.below (h : MapM w b l f) (hb : Below w.heap.size w w') : MapM w' b l f := h.blk (hb.block _ h.lt)
theorem MapM.only {S : Nat → Prop} (h : MapM w b l f) (ho : Only S w w') (hS : ¬ S b) : MapM w' b l f := h.blk (ho.block _ h.lt hS)
theorem MapM.made (w : World) (f : Mv → Int) : MapM (w.alloc (.map #[] 0)) w.heap.size [] f :=
  ⟨_, World.ownsMap_made w Try.prog 49 _, isMap_empty, fun y _ => by simp [Maps.has], fun y _ hy => absurd hy (by simp)⟩
set_option maxRecDepth 100000 in
theorem MapM.get (h : MapM w b l f) (hy : WfM y) (hm : y ∈ l) : (Instr.lookup 46 (.map (some b)) (mvV y) false).run Try.prog w = .ok (.int .i64 (f y)) w := by
  obtain ⟨D, h1, h2, h3, h4⟩ := h
  obtain ⟨v, ps, hrun, hv⟩ := h1.lookup moveKeyed Try.underlying46 (zero_int w) (plainElem_int Try.underlying3 (q := .i64) (a := 0) rfl) (mvKey y hy)
  obtain ⟨c, rfl, hc, hwc⟩ := plainElem_int_inv Try.underlying3 hv
  simp only [Prod.mk.injEq] at hc
  have h5 := h4 y hy hm
  rw [hc.1] at h5
  simp only [DataW.lit.injEq, Lit.int.injEq, true_and] at h5
  rw [hrun, h5]
set_option maxRecDepth 100000 in
theorem MapM.upd (h : MapM w b l f) (hy : WfM y) (hn : y ∉ l) (hl : l.length ≤ 1000000) {x : Int} (hx : I64 x) :
    ∃ w', (Instr.mapUpdate 46 (.map (some b)) (mvV y) (.int .i64 x)).run Try.prog w = .ok () w' ∧ MapM w' b (l ++ [y]) (fun z => if z = y then x else f z) ∧ w.grownBy w' (some b) := by
  obtain ⟨D, h1, h2, h3, h4⟩ := h
  obtain ⟨w', hrun, r1, r2⟩ := h1.update moveKeyed Try.underlying46 (by simp only [maxLen]; omega) (mvKey y hy) (plainElem_int Try.underlying3 (q := .i64) (a := x) (lit_wf hx))
  refine ⟨w', hrun, ⟨_, by rw [List.length_append, List.length_singleton]; exact r1, h2.put _ _, fun z hz => ?_, fun z hz hzl => ?_⟩, r2⟩
  · by_cases e : z = y
    · subst e
      obtain ⟨k, e, hk⟩ := klM_key hz
      rw [e, has_put_same h2 hk]; simp
    · rw [has_put_other (fun k => e (klM_inj hz hy k)), h3 z hz]
      simp [e]
  · by_cases e : z = y
    · subst e
      obtain ⟨k, e, hk⟩ := klM_key hz
      rw [e, atKey_put_same h2 hk]
      simp
    · have hzl' : z ∈ l := by
        rcases List.mem_append.1 hzl with h | h
        · exact h
        · exact absurd (List.mem_singleton.1 h) e
      rw [atKey_put_other (fun k => e (klM_inj hz hy k)), h4 z hz hzl']
      simp [e]
end

end Go.Proofs.Ytdkpdpcecjcmcaa
