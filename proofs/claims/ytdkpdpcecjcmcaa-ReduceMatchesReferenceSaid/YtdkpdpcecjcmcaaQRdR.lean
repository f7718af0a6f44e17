/- A map that numbers rows (arrays of 65 numbers). -/
import Derived.Deep.WholeRow
import Derived.Test.YtdkpdpcecjcmcaaQRegP
import Derived.Test.YtdkpdpcecjcmcaaQRd13
namespace Go.Proofs.Ytdkpdpcecjcmcaa
open Go.RowKit Go.Maps Go.WideMaps

def rwC (y : List Int) : Array Value := (y.map (Value.int .i64)).toArray
def rwV (y : List Int) : Value := .agg (rwC y)
def WfR (y : List Int) : Prop := y.length = 65 ∧ ∀ x ∈ y, I64 x
theorem rwC_size (y : List Int) : (rwC y).size = y.length := by simp [rwC]
noncomputable def klR (y : List Int) : Lit := (keyOf Try.prog 74 (rwV y)).getD (.bool false)
theorem rowRow : 74 < Try.prog.types.size := of_decide_eq_true (by kernel_rfl)
theorem rowWide : (match Try.prog.underlying 74 with | some (.array _ _) | some (.struct _) => true | _ => false) = true := by kernel_rfl
set_option maxRecDepth 100000 in
theorem rowKT : Try.prog.keyTypeAt 2 74 = true := by kernel_rfl
set_option maxRecDepth 100000 in
theorem rowKeyed : Keyed Try.prog 74 := Keyed.of_law (deep_law_laid moveLaid (m := 2) (by omega) rowRow rowKT rowWide)
theorem rowKey0 : Try.prog.keyType 74 = true := by kernel_rfl
theorem rowCells : Try.prog.cellsOf 74 = 65 := by kernel_rfl
theorem mapM_some {α β : Type} {f : α → Option β} : ∀ {l : List α}, (∀ x ∈ l, (f x).isSome = true) → (l.mapM f).isSome = true
  | [], _ => by simp
  | x :: l, h => by
    obtain ⟨y, hy⟩ := Option.isSome_iff_exists.1 (h x List.mem_cons_self)
    obtain ⟨ys, hys⟩ := Option.isSome_iff_exists.1 (mapM_some (f := f) (l := l) fun z hz => h z (List.mem_cons_of_mem _ hz))
    rw [List.mapM_cons, hy, hys]; rfl
theorem rowKey (y : List Int) (h : WfR y) : keyOf Try.prog 74 (rwV y) = some (klR y) := by
  have hs : (keyOf Try.prog 74 (rwV y)).isSome = true := by
    obtain ⟨hl, hw⟩ := h
    have hf : (rwV y).formed Try.prog 74 = true := by simp [rwV, rwC, Value.formed, Try.underlying74, rowCells, hl]
    obtain ⟨m, hm⟩ : ∃ m, Try.prog.types.size = m + 1 := ⟨Try.prog.types.size - 1, by have := rowRow; omega⟩
    unfold keyOf
    rw [rowKey0, hf, hm]
    simp only [Try.underlying74, Bool.and_self, if_true, Option.isSome_map]
    have hc : (rwV y).cells.toList = y.map (Value.int .i64) := by simp [rwV, rwC, Value.cells]
    rw [hc]
    unfold Program.keyLits
    simp only [Try.underlying74, List.length_map, rowCells, hl, if_true, Option.isSome_map]
    refine mapM_some fun i hi => ?_
    have hi' : i < 65 := List.mem_range.1 hi
    have hg : ((y.map (Value.int .i64)).drop (i * Try.prog.cellsOf 3)).take (Try.prog.cellsOf 3) = [.int .i64 y[i]] := by
      rw [intCells1, Nat.mul_one]
      have hlt : i < (y.map (Value.int .i64)).length := by simp; omega
      rw [List.drop_eq_getElem_cons hlt]
      simp
    rw [hg]
    unfold Program.keyLits
    have hwf := lit_wf (hw y[i] (List.getElem_mem _))
    simp [Try.underlying3, hwf]
  obtain ⟨k, hk⟩ := Option.isSome_iff_exists.1 hs
  unfold klR
  rw [hk]; rfl
theorem rwV_inj {y z : List Int} (h : rwV y = rwV z) : y = z := by
  simp only [rwV, rwC, Value.agg.injEq] at h
  have h2 : y.map (Value.int .i64) = z.map (Value.int .i64) := by
    have := congrArg Array.toList h
    simpa using this
  exact (List.map_inj_right fun a b e => by injection e).1 h2
theorem klR_inj {y z : List Int} (hy : WfR y) (hz : WfR z) (h : klR y = klR z) : y = z := by
  have h1 := rowKey y hy
  have h2 := rowKey z hz
  rw [← h] at h2
  generalize klR y = k at *
  exact rwV_inj (Keyed.inj rowKeyed h1 h2)
theorem klR_key {y : List Int} (hy : WfR y) : ∃ k, klR y = k ∧ Go.WideAt.IsKeyLit k := by
  have h1 := rowKey y hy
  generalize klR y = k at *
  exact ⟨k, rfl, Keyed.key rowKeyed h1⟩
theorem idxG_pre {α : Type} [BEq α] [LawfulBEq α] {l e : List α} {y : α} (h : y ∈ l) : (l ++ e).idxOf y = l.idxOf y := by
  rw [List.idxOf_append, if_pos h]
theorem idxG_new {α : Type} [BEq α] [LawfulBEq α] {l : List α} {y : α} (h : y ∉ l) : (l ++ [y]).idxOf y = l.length := by
  rw [List.idxOf_append, if_neg h]; simp

/-- Block b is the map that numbers the rows of a list. -/
def NumR (w : World) (b : Nat) (l : List (List Int)) : Prop := ∃ D : DataW Unit, w.ownsMap Try.prog 74 (plainElem Try.prog 3) b l.length D ∧ IsMap D ∧
  ((∀ y, WfR y → Maps.has D (klR y) = decide (y ∈ l)) ∧ ∀ y, WfR y → y ∈ l → D.atKey (klR y) (.lit (.int .i64 0)) = .lit (.int .i64 (l.idxOf y))) ∧ Maps.size D = l.length
section
variable {w w' : World} {b : Nat} {l : List (List Int)} {y : List Int}
theorem NumR.blk (h : NumR w b l) (e : w'.heap[b]? = w.heap[b]?) : NumR w' b l := by
  obtain ⟨D, ⟨es, c, h1, h2⟩, h3⟩ := h
  exact ⟨D, ⟨es, c, e.trans h1, h2⟩, h3⟩
theorem NumR.lt (h : NumR w b l) : b < w.heap.size := by
  obtain ⟨D, h1, -⟩ := h
  exact h1.lt
theorem NumR.below (h : NumR w b l) (hb : Below w.heap.size w w') : NumR w' b l := h.blk (hb.block _ h.lt)
theorem NumR.made (w : World) : NumR (w.alloc (.map #[] 0)) w.heap.size [] :=
  ⟨_, World.ownsMap_made w Try.prog 74 _, isMap_empty, ⟨fun y _ => by simp [Maps.has], fun y _ hy => absurd hy (by simp)⟩, rfl⟩
theorem NumR.len (h : NumR w b l) (ty : TypeId) : (Builtin.len_ #[84] ty #[.map (some b)]).run Try.prog w = .ok (.int .i64 (l.length : Int)) w := by
  obtain ⟨D, h1, -, -, h4⟩ := h
  rw [← h4]
  exact h1.len Try.underlying84 ty
set_option maxRecDepth 100000 in
theorem NumR.get (h : NumR w b l) (hy : WfR y) :
    (y ∈ l → (Instr.lookup 84 (.map (some b)) (rwV y) true).run Try.prog w = .ok (.tuple #[.int .i64 (l.idxOf y : Int), .bool true]) w) ∧
    (y ∉ l → ∃ c, (Instr.lookup 84 (.map (some b)) (rwV y) true).run Try.prog w = .ok (.tuple #[.int .i64 c, .bool false]) w) := by
  obtain ⟨D, h1, h2, ⟨h3, h4⟩, -⟩ := h
  obtain ⟨v, ps, hrun, hv⟩ := h1.look_ok rowKeyed Try.underlying84 (zero_int w) (plainElem_int Try.underlying3 (q := .i64) (a := 0) rfl) (rowKey y hy)
  obtain ⟨c, rfl, hc, hwc⟩ := plainElem_int_inv Try.underlying3 hv
  rw [h3 y hy] at hrun
  simp only [Prod.mk.injEq] at hc
  refine ⟨fun hm => ?_, fun hm => ⟨c, by rw [hrun, decide_eq_false hm]⟩⟩
  have h5 := h4 y hy hm
  rw [hc.1] at h5
  simp only [DataW.lit.injEq, Lit.int.injEq, true_and] at h5
  rw [hrun, decide_eq_true hm, h5]
set_option maxRecDepth 100000 in
theorem NumR.upd (h : NumR w b l) (hy : WfR y) (hn : y ∉ l) (hl : l.length ≤ 3000) :
    ∃ w', (Instr.mapUpdate 84 (.map (some b)) (rwV y) (.int .i64 (l.length : Int))).run Try.prog w = .ok () w' ∧ NumR w' b (l ++ [y]) ∧ w.grownBy w' (some b) := by
  obtain ⟨D, h1, h2, h3, h4⟩ := h
  obtain ⟨w', hrun, r1, r2⟩ := h1.update rowKeyed Try.underlying84 (by simp only [maxLen]; omega) (rowKey y hy) (plainElem_int Try.underlying3 (q := .i64) (a := (l.length : Int)) (lit_wf (by unfold I64; omega)))
  refine ⟨w', hrun, ?_, r2⟩
  refine ⟨_, by rw [List.length_append, List.length_singleton]; exact r1, h2.put _ _, ⟨fun z hz => ?_, fun z hz hzl => ?_⟩, ?_⟩
  · by_cases e : z = y
    · subst e
      obtain ⟨k, e, hk⟩ := klR_key hz
      rw [e, has_put_same h2 hk]; simp
    · rw [has_put_other (fun k => e (klR_inj hz hy k)), h3.1 z hz]
      simp [e]
  · by_cases e : z = y
    · subst e
      obtain ⟨k, e, hk⟩ := klR_key hz
      rw [idxG_new hn, e, atKey_put_same h2 hk]
    · have hzl' : z ∈ l := by
        rcases List.mem_append.1 hzl with h | h
        · exact h
        · exact absurd (List.mem_singleton.1 h) e
      rw [atKey_put_other (fun k => e (klR_inj hz hy k)), h3.2 z hz hzl', idxG_pre hzl']
  · rw [Maps.size_put (h1.tidy rowKeyed), h3.1 y hy, decide_eq_false hn, h4]; simp
end

end Go.Proofs.Ytdkpdpcecjcmcaa
