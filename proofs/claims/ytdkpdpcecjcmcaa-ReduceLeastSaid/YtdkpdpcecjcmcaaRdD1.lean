/- Pairs of states that lead to each other: what differ goes through (plain). -/
import Derived.Test.YtdkpdpcecjcmcaaRdS2
namespace Go.Proofs.Ytdkpdpcecjcmcaa

/-- Whether a number is among those that were met. -/
def seenL (N : Nat) (L : List Nat) : List Bool := (List.range N).map fun c => decide (c ∈ L)
theorem seenL_len (N : Nat) (L : List Nat) : (seenL N L).length = N := by simp [seenL]
theorem seenL_at {N c : Nat} {L : List Nat} (h : c < N) : (seenL N L).getD c false = decide (c ∈ L) := by simp [seenL, List.getD, h]
theorem seenL_nil (N : Nat) : List.replicate N false = seenL N [] := by
  apply List.ext_getElem (by simp [seenL])
  intro i h1 h2
  simp [seenL]
theorem seenL_put {N c : Nat} {L : List Nat} : (seenL N L).set c true = seenL N (L ++ [c]) := by
  apply List.ext_getElem (by simp [seenL])
  intro i h1 h2
  have hi : i < N := by simpa [seenL] using h2
  simp only [seenL, List.getElem_set, List.getElem_map, List.getElem_range]
  by_cases e : c = i
  · subst e; rw [if_pos rfl]; simp
  · rw [if_neg e]
    congr 1
    simp only [List.mem_append, List.mem_singleton, eq_iff_iff]
    exact ⟨.inl, fun h => h.resolve_right fun h => e h.symm⟩
/-- The pair of a number. -/
def nxC (a : Au) (c x : Nat) : Nat := nxI a (c / a.next.length) x * a.next.length + nxI a (c % a.next.length) x
/-- The letters below x of the pair c: same priorities, and the next pair is there. -/
def ClC (a : Au) (L : List Nat) (c x : Nat) : Prop := ∀ y, y < x → (a.prio.getD (c / a.next.length) []).getD y 0 = (a.prio.getD (c % a.next.length) []).getD y 0 ∧ nxC a c y ∈ L
structure DF (a : Au) (k i0 j0 : Nat) (i : Nat) (L : List Nat) : Prop where
  lt : ∀ c ∈ L, c < a.next.length * a.next.length
  nd : L.Nodup
  hd : i0 * a.next.length + j0 ∈ L
  im : ∀ c ∈ L, (∀ d, eqN a k d i0 j0) → ∀ d, eqN a k d (c / a.next.length) (c % a.next.length)
  pr : ∀ j, j < i → ClC a L (L.getD j 0) k
section
variable {a : Au} {k i0 j0 i x c : Nat} {L : List Nat}
theorem pair_lt {n p q : Nat} (hp : p < n) (hq : q < n) : p * n + q < n * n := by
  have h1 : (p + 1) * n ≤ n * n := Nat.mul_le_mul_right n hp
  rw [Nat.succ_mul] at h1
  omega
theorem pair_div {n p q : Nat} (hq : q < n) : (p * n + q) / n = p ∧ (p * n + q) % n = q := by
  have hn : 0 < n := by omega
  constructor
  · rw [Nat.mul_comm, Nat.mul_add_div hn, Nat.div_eq_of_lt hq]; rfl
  · rw [Nat.mul_comm, Nat.mul_add_mod, Nat.mod_eq_of_lt hq]
theorem div_lt {n c : Nat} (h : c < n * n) : c / n < n ∧ c % n < n := by
  have hn : 0 < n := Nat.pos_of_ne_zero fun e => by subst e; simp at h
  exact ⟨(Nat.div_lt_iff_lt_mul hn).2 h, Nat.mod_lt _ hn⟩
theorem DF.start (hi : i0 < a.next.length) (hj : j0 < a.next.length) : DF a k i0 j0 0 [i0 * a.next.length + j0] := by
  refine ⟨fun c hc => ?_, by simp, by simp, fun c hc h => ?_, fun j hj => absurd hj (Nat.not_lt_zero _)⟩
  · rw [List.mem_singleton.1 hc]; exact pair_lt hi hj
  · rw [List.mem_singleton.1 hc, (pair_div hj).1, (pair_div hj).2]; exact h
theorem ClC.more {c' : Nat} (h : ClC a L c x) : ClC a (L ++ [c']) c x := fun y hy => ⟨(h y hy).1, List.mem_append_left _ (h y hy).2⟩
theorem nxC_lt (hA : AuV a k) (hc : c < a.next.length * a.next.length) (hx : x < k) : nxC a c x < a.next.length * a.next.length := by
  have h := div_lt hc
  exact pair_lt (hA.nxI h.1 hx) (hA.nxI h.2 hx)
theorem DF.add (h : DF a k i0 j0 i L) (hA : AuV a k) (hi : i < L.length) (hc : L.getD i 0 = c) (hx : x < k) (hn : nxC a c x ∉ L) : DF a k i0 j0 i (L ++ [nxC a c x]) := by
  have hm : c ∈ L := by
    rw [← hc, List.getD_eq_getElem?_getD, List.getElem?_eq_getElem hi]; exact List.getElem_mem hi
  have hl := div_lt (h.lt c hm)
  refine ⟨fun y hy => ?_, ?_, List.mem_append_left _ h.hd, fun y hy he => ?_, fun j hj => ?_⟩
  · rcases List.mem_append.1 hy with hy | hy
    · exact h.lt y hy
    · rw [List.mem_singleton.1 hy]; exact nxC_lt hA (h.lt c hm) hx
  · rw [List.nodup_append]
    exact ⟨h.nd, by simp, fun u hu v hv e => by rw [List.mem_singleton.1 hv] at e; exact hn (e ▸ hu)⟩
  · rcases List.mem_append.1 hy with hy | hy
    · exact h.im y hy he
    · rw [List.mem_singleton.1 hy]
      have h2 := pair_div (p := nxI a (c / a.next.length) x) (hA.nxI hl.2 hx)
      unfold nxC
      rw [h2.1, h2.2]
      exact fun d => (h.im c hm he (d + 1)).2 x hx
  · have : (L ++ [nxC a c x]).getD j 0 = L.getD j 0 := by simp [List.getD, List.getElem?_append_left (show j < L.length by omega)]
    rw [this]
    exact (h.pr j hj).more
theorem ClC.step (h : ClC a L c x) (hp : (a.prio.getD (c / a.next.length) []).getD x 0 = (a.prio.getD (c % a.next.length) []).getD x 0) (hm : nxC a c x ∈ L) : ClC a L c (x + 1) := fun y hy => by
  by_cases e : y = x
  · subst e; exact ⟨hp, hm⟩
  · exact h y (by omega)
theorem DF.next (h : DF a k i0 j0 i L) (hc : L.getD i 0 = c) (hx : ClC a L c k) : DF a k i0 j0 (i + 1) L :=
  ⟨h.lt, h.nd, h.hd, h.im, fun j hj => by
    by_cases e : j = i
    · subst e; rw [hc]; exact hx
    · exact h.pr j (by omega)⟩
/-- All pairs are gone through: the states are equivalent. -/
theorem DF.same (h : DF a k i0 j0 i L) (hA : AuV a k) (hj : j0 < a.next.length) (hi : i = L.length) : ∀ d, eqN a k d i0 j0 := by
  have key : ∀ d, ∀ c ∈ L, eqN a k d (c / a.next.length) (c % a.next.length) := by
    intro d
    induction d with
    | zero =>
      intro c hc
      obtain ⟨j, hj, e⟩ := List.getElem_of_mem hc
      have hcl := h.pr j (by omega)
      have e2 : L.getD j 0 = c := by rw [List.getD_eq_getElem?_getD, List.getElem?_eq_getElem hj, e]; rfl
      rw [e2] at hcl
      have hl := div_lt (h.lt c hc)
      have h1 := (hA.ln _ hl.1).2
      have h2 := (hA.ln _ hl.2).2
      show a.prio.getD _ [] = a.prio.getD _ []
      apply List.ext_getElem (by omega)
      intro x hx1 hx2
      have := (hcl x (by omega)).1
      rwa [getD_lt _ _ _ hx1, getD_lt _ _ _ hx2] at this
    | succ d ih =>
      intro c hc
      obtain ⟨j, hj, e⟩ := List.getElem_of_mem hc
      have hcl := h.pr j (by omega)
      have e2 : L.getD j 0 = c := by rw [List.getD_eq_getElem?_getD, List.getElem?_eq_getElem hj, e]; rfl
      rw [e2] at hcl
      have hl := div_lt (h.lt c hc)
      refine ⟨ih c hc, fun x hx => ?_⟩
      have h3 := ih _ (hcl x hx).2
      have h4 := pair_div (p := nxI a (c / a.next.length) x) (hA.nxI hl.2 hx)
      unfold nxC at h3
      rwa [h4.1, h4.2] at h3
  intro d
  have := key d _ h.hd
  rwa [(pair_div hj).1, (pair_div hj).2] at this
/-- Two priorities differ: the states are not equivalent. -/
theorem DF.diff (h : DF a k i0 j0 i L) (hm : c ∈ L) (hp : ¬ (a.prio.getD (c / a.next.length) []).getD x 0 = (a.prio.getD (c % a.next.length) []).getD x 0) : ¬ ∀ d, eqN a k d i0 j0 := fun he => by
  have h1 : a.prio.getD (c / a.next.length) [] = a.prio.getD (c % a.next.length) [] := h.im c hm he 0
  exact hp (by rw [h1])
theorem DF.len (h : DF a k i0 j0 i L) : L.length ≤ a.next.length * a.next.length := by
  have h2 : L.Perm ((List.range (a.next.length * a.next.length)).filter fun x => decide (x ∈ L)) := (List.perm_ext_iff_of_nodup h.nd (List.Nodup.sublist List.filter_sublist List.nodup_range)).2 fun x => by
    rw [List.mem_filter, List.mem_range, decide_eq_true_eq]
    exact ⟨fun hx => ⟨h.lt x hx, hx⟩, fun hx => hx.2⟩
  have h3 := h2.length_eq
  have h4 := List.length_filter_le (fun x => decide (x ∈ L)) (List.range (a.next.length * a.next.length))
  rw [List.length_range] at h4
  omega
end
open Classical in
/-- Whether two states differ on some word. -/
noncomputable def difB (a : Au) (k i j : Nat) : Bool := decide (¬ ∀ d, eqN a k d i j)
open Classical in
theorem difB_true {a : Au} {k i j : Nat} (h : ¬ ∀ d, eqN a k d i j) : difB a k i j = true := decide_eq_true h
open Classical in
theorem difB_false {a : Au} {k i j : Nat} (h : ∀ d, eqN a k d i j) : difB a k i j = false := decide_eq_false fun e => e h

end Go.Proofs.Ytdkpdpcecjcmcaa
