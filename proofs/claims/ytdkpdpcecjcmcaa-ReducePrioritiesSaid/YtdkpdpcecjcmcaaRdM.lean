/- A map that numbers numbers. -/
import Derived.Test.YtdkpdpcecjcmcaaRdCb
namespace Go.Proofs.Ytdkpdpcecjcmcaa
open Go.RowKit Go.Maps Go.WideMaps

theorem zero_int (w : World) : (zeroValue 3).run Try.prog w = .ok (.int .i64 0) w := by kernel_rfl
theorem idxI_lt {l : List Int} {y : Int} (h : y ∈ l) : l.idxOf y < l.length := List.idxOf_lt_length_iff.2 h
set_option maxRecDepth 100000 in
theorem NumI.get {w : World} {b : Nat} {l : List Int} (h : NumI w b l) {y : Int} (hy : I64 y) :
    (y ∈ l → (Instr.lookup 42 (.map (some b)) (.int .i64 y) true).run Try.prog w = .ok (.tuple #[.int .i64 (l.idxOf y : Int), .bool true]) w) ∧
    (y ∉ l → ∃ c, (Instr.lookup 42 (.map (some b)) (.int .i64 y) true).run Try.prog w = .ok (.tuple #[.int .i64 c, .bool false]) w) := by
  obtain ⟨D, h1, h2, h3, h4⟩ := h
  obtain ⟨v, ps, hrun, hv⟩ := h1.look_ok intKeyed Try.underlying42 (zero_int w) (plainElem_int Try.underlying3 (q := .i64) (a := 0) rfl) (intKey hy)
  obtain ⟨c, rfl, hc, hwc⟩ := plainElem_int_inv Try.underlying3 hv
  rw [h3 y hy] at hrun
  simp only [Prod.mk.injEq] at hc
  refine ⟨fun hm => ?_, fun hm => ⟨c, by rw [hrun, decide_eq_false hm]⟩⟩
  have h5 := h4 y hy hm
  rw [hc.1] at h5
  simp only [DataW.lit.injEq, Lit.int.injEq, true_and] at h5
  rw [hrun, decide_eq_true hm, h5]
set_option maxRecDepth 100000 in
theorem NumI.upd {w : World} {b : Nat} {l : List Int} (h : NumI w b l) {y : Int} (hy : I64 y) (hn : y ∉ l) (hl : l.length ≤ 3000) :
    ∃ w', (Instr.mapUpdate 42 (.map (some b)) (.int .i64 y) (.int .i64 (l.length : Int))).run Try.prog w = .ok () w' ∧ NumI w' b (l ++ [y]) ∧ w.grownBy w' (some b) := by
  obtain ⟨D, h1, h2, h3, h4⟩ := h
  obtain ⟨w', hrun, r1, r2⟩ := h1.update intKeyed Try.underlying42 (by simp only [maxLen]; omega) (intKey hy) (plainElem_int Try.underlying3 (q := .i64) (a := (l.length : Int)) (lit_wf (by unfold I64; omega)))
  exact ⟨w', hrun, NumI.put h2 hy hn h3 h4 r1, r2⟩
theorem NumL.len {w : World} {b : Nat} {l : List Int} (h : NumL w b l) (ty : TypeId) : (Builtin.len_ #[42] ty #[.map (some b)]).run Try.prog w = .ok (.int .i64 (l.length : Int)) w := by
  obtain ⟨D, h1, -, -, h4⟩ := h
  rw [← h4]
  exact h1.len Try.underlying42 ty
set_option maxRecDepth 100000 in
theorem NumL.upd {w : World} {b : Nat} {l : List Int} (h : NumL w b l) {y : Int} (hy : I64 y) (hn : y ∉ l) (hl : l.length ≤ 3000) :
    ∃ w', (Instr.mapUpdate 42 (.map (some b)) (.int .i64 y) (.int .i64 (l.length : Int))).run Try.prog w = .ok () w' ∧ NumL w' b (l ++ [y]) ∧ w.grownBy w' (some b) := by
  obtain ⟨D, h1, h2, h3, h4⟩ := h
  obtain ⟨w', hrun, r1, r2⟩ := h1.update intKeyed Try.underlying42 (by simp only [maxLen]; omega) (intKey hy) (plainElem_int Try.underlying3 (q := .i64) (a := (l.length : Int)) (lit_wf (by unfold I64; omega)))
  refine ⟨w', hrun, ?_, r2⟩
  refine ⟨_, by rw [List.length_append, List.length_singleton]; exact r1, h2.put _ _, ⟨fun z hz => ?_, fun z hz hzl => ?_⟩, ?_⟩
  · by_cases e : z = y
    · subst e
      rw [has_put_same h2 (intIsKey hz)]; simp
    · rw [has_put_other (fun k => e (by injection k)), h3.1 z hz]
      simp [e]
  · by_cases e : z = y
    · subst e
      rw [idxI_new hn, atKey_put_same h2 (intIsKey hz)]
    · have hzl' : z ∈ l := by
        rcases List.mem_append.1 hzl with h | h
        · exact h
        · exact absurd (List.mem_singleton.1 h) e
      rw [atKey_put_other (fun k => e (by injection k)), h3.2 z hz hzl', idxI_pre hzl']
  · rw [Maps.size_put (h1.tidy intKeyed), h3.1 y hy, decide_eq_false hn, h4]; simp

end Go.Proofs.Ytdkpdpcecjcmcaa
