/- A view of a valid game is a game whose bounds are those of its odd priorities (plain). -/
import Derived.Test.YtijkjhcigdfdgaaQRkW0
namespace Go.Proofs.Ytijkjhcigdfdgaa

theorem view_valid {g h : Gm} {p : Int} (e : viewG g p = some h) : validB h = true ∧ h.owner.length = g.owner.length ∧ (p = 0 ∨ p = 1) ∧ validB g = true := by
  unfold viewG at e
  by_cases hc : (p = 0 ∨ p = 1) ∧ validB g = true ∧ highG g ≠ 30000
  · rw [if_pos hc] at e
    obtain ⟨h1, h2, h3⟩ := hc
    obtain ⟨la, lb, lc⟩ := valid_lens h2
    by_cases hp : p = 1
    · rw [if_pos hp] at e
      obtain rfl := Option.some.inj e
      refine ⟨swap_valid h2 fun i hi => ?_, by simp [swapG], h1, h2⟩
      have h4 := (valid_at h2 i hi).2.1
      have h5 : g.prio.getD i 0 ≤ highG g := high_ge (by rw [getD_lt _ _ _ (by omega)]; exact List.getElem_mem _)
      have h6 : highG g ≤ 30000 := by
        rcases high_in g with h | h
        · omega
        · obtain ⟨j, hj, ej⟩ := List.getElem_of_mem h
          have := (valid_at h2 j (by omega)).2.1
          rw [getD_lt _ _ _ hj, ej] at this
          omega
      omega
    · rw [if_neg hp] at e
      obtain rfl := Option.some.inj e
      exact ⟨h2, rfl, h1, h2⟩
  · rw [if_neg hc] at e; simp at e
theorem filter_range {l : List Int} {p : Int → Bool} : (l.filter p).length = ((List.range l.length).filter fun v => p (l.getD v 0)).length := by
  have e : l = (List.range l.length).map fun v => l.getD v 0 := by
    apply List.ext_getElem (by simp)
    intro i h1 h2
    simp [h1]
  conv => lhs; rw [e]
  rw [List.filter_map, List.length_map]
  rfl
section
variable {g : Gm}
theorem re_valid (h : validB g = true) : RE g g.owner.length := by
  refine ⟨fun v hv x hx => ?_, fun v hv => (valid_at h v hv).2.2.1, fun v hv => ?_⟩
  · have := (valid_at h v hv).2.2.2 x hx
    exact ⟨x.toNat, by omega, by omega⟩
  · have := (valid_at h v hv).1
    unfold own; omega
theorem pri_valid (h : validB g = true) {v : Nat} (hv : v < g.owner.length) : pri g v = (prN g v : Int) ∧ prN g v ≤ 30001 ∧ partN (prN g v) ≤ (moG g).length := by
  obtain ⟨la, lb, lc⟩ := valid_lens h
  have h1 := (valid_at h v hv).2.1
  have h2 : g.prio.getD v 0 ≤ highG g := high_ge (by rw [getD_lt _ _ _ (by omega)]; exact List.getElem_mem _)
  have e : prN g v = (g.prio.getD v 0).toNat := rfl
  have e2 : pri g v = g.prio.getD v 0 := rfl
  refine ⟨by rw [e2, e]; omega, by omega, ?_⟩
  rw [mo_len]; unfold partN; omega
theorem rg_valid (h : validB g = true) : RG g g.owner.length (moG g) := by
  obtain ⟨la, lb, lc⟩ := valid_lens h
  refine ⟨fun v hv => ⟨(pri_valid h hv).1, (pri_valid h hv).2.2⟩, fun v hv j hj => ?_, fun v hv => ?_, fun k hk => ?_, (re_valid h).ow⟩
  · have := (valid_at h v hv).2.2.2 _ hj
    omega
  · obtain ⟨x, hx⟩ := List.exists_mem_of_ne_nil _ (valid_at h v hv).2.2.1
    obtain ⟨j, rfl, -⟩ := (re_valid h).ed v hv x hx
    exact ⟨j, hx⟩
  · rw [mo_at hk]
    unfold cntP
    rw [filter_range, lb]
    congr 1
    apply List.filter_congr
    intro v hv
    have hv := List.mem_range.1 hv
    have h1 := (pri_valid h hv).1
    have e2 : pri g v = g.prio.getD v 0 := rfl
    rw [← e2, h1]
    congr 1
    exact propext ⟨fun e => by omega, fun e => by omega⟩
end

end Go.Proofs.Ytijkjhcigdfdgaa
