/- The jobs in memory; the least priorities of both parities (plain). -/
import Derived.Test.YtdkpdpcecjcmcaaRd15
namespace Go.Proofs.Ytdkpdpcecjcmcaa
open Go.RowKit

/-- What is written to while the jobs are worked on. -/
def hotJ (A : Fa) (mb : Nat) (v : Value) (Z q : Nat) : Prop := A.hotA q ∨ A.hotG q ∨ q = mb ∨ v.ownBlock = some q ∨ Z ≤ q
/-- The jobs' moves stay what they are. -/
structure JsM (A : Fa) (mb : Nat) (v : Value) (W : World) (jl : List (Value × Int)) (jobs : List Job) : Prop where
  ln : jl.length = jobs.length
  at' : ∀ i (h : i < jl.length) (h' : i < jobs.length), jl[i].2 = jobs[i].2 ∧ jl[i].1.oneCell' = true ∧ ∀ W', Only (hotJ A mb v W.heap.size) W W' → IsMvs W' jl[i].1 jobs[i].1
section
variable {A : Fa} {mb : Nat} {v v' : Value} {W W1 : World} {jl : List (Value × Int)} {jobs : List Job}
theorem JsM.move (h : JsM A mb v W jl jobs) (ho : Only (hotJ A mb v W.heap.size) W W1) (hm : ∀ q, v'.ownBlock = some q → v.ownBlock = some q ∨ W.heap.size ≤ q) : JsM A mb v' W1 jl jobs :=
  ⟨h.ln, fun i h1 h2 => ⟨(h.at' i h1 h2).1, (h.at' i h1 h2).2.1, fun W' hW => (h.at' i h1 h2).2.2 W' (ho.trans (hW.mono fun q _ hq => by
    rcases hq with e | e | e | e | e
    · exact .inl e
    · exact .inr (.inl e)
    · exact .inr (.inr (.inl e))
    · exact (hm q e).elim (fun e => .inr (.inr (.inr (.inl e)))) fun e => .inr (.inr (.inr (.inr e)))
    · exact .inr (.inr (.inr (.inr (Nat.le_trans ho.size e))))))⟩⟩
theorem JsM.cut {y : Value × Int} {j : Job} (h : JsM A mb v W (jl ++ [y]) (jobs ++ [j])) : JsM A mb v W jl jobs ∧ jl.length = jobs.length ∧ y.2 = j.2 ∧ y.1.oneCell' = true ∧ ∀ W', Only (hotJ A mb v W.heap.size) W W' → IsMvs W' y.1 j.1 := by
  have hl : jl.length = jobs.length := by have := h.ln; simpa using this
  refine ⟨⟨hl, fun i h1 h2 => ?_⟩, hl, ?_⟩
  · have := h.at' i (by simp; omega) (by simp; omega)
    rwa [List.getElem_append_left h1, List.getElem_append_left h2] at this
  · have := h.at' jl.length (by simp) (by simp [hl])
    rw [List.getElem_append_right (Nat.le_refl _), List.getElem_append_right (by omega)] at this
    simpa [hl] using this
theorem JsM.add {y : Value} {q : Int} {rs : List Mv} (h : JsM A mb v W jl jobs) (hy : y.oneCell' = true) (hs : ∀ W', Only (hotJ A mb v W.heap.size) W W' → IsMvs W' y rs) : JsM A mb v W (jl ++ [(y, q)]) (jobs ++ [(rs, q)]) := by
  refine ⟨by simp [h.ln], fun i h1 h2 => ?_⟩
  have hl := h.ln
  by_cases e : i < jl.length
  · rw [List.getElem_append_left e, List.getElem_append_left (show i < jobs.length by omega)]
    exact h.at' i e (by omega)
  · simp only [List.length_append, List.length_singleton] at h1 h2
    obtain rfl : i = jl.length := by omega
    rw [List.getElem_append_right (Nat.le_refl _), List.getElem_append_right (by omega)]
    simp only [Nat.sub_self, List.getElem_cons_zero, show jl.length - jobs.length = 0 by omega]
    exact ⟨by first | rfl | trivial, hy, hs⟩
theorem JsM.nil (A : Fa) (mb : Nat) (v : Value) (W : World) : JsM A mb v W [] [] := ⟨rfl, fun i h => absurd h (by simp)⟩
end

theorem mvsU_nodup (k s : Nat) : (mvsU k s 0).Nodup := by
  induction s with
  | zero => simp [mvsU]
  | succ s ih =>
    rw [← mvsU_s]
    unfold mvsU at ih ⊢
    simp only [List.range_zero, List.map_nil, List.append_nil] at ih
    rw [List.nodup_append]
    refine ⟨ih, ?_, fun a ha b hb => ?_⟩
    · exact List.pairwise_map.2 (List.nodup_range.imp fun h e => h (Prod.mk.inj e).2)
    · obtain ⟨i, hi, j, hj, rfl⟩ := by simpa only [List.mem_flatMap, List.mem_range, List.mem_map] using ha
      obtain ⟨j2, hj2, rfl⟩ := by simpa only [List.mem_range, List.mem_map] using hb
      intro e
      have := (Prod.mk.inj e).1
      omega

/-! The least priorities of both parities. -/
def maxI : Int := 9223372036854775807
/-- a is the least priority of parity e among the moves c (the greatest number if there is none). -/
def LowE (pr : Mv → Int) (c : List Mv) (e a : Int) : Prop := (a = maxI ∨ ∃ m ∈ c, pr m = a ∧ pr m % 2 = e) ∧ ∀ m ∈ c, pr m % 2 = e → a ≤ pr m
theorem LowE.start (pr : Mv → Int) (e : Int) : LowE pr [] e maxI := ⟨.inl rfl, fun _ hm => (nomatch hm)⟩
theorem LowE.skip {pr : Mv → Int} {c : List Mv} {e a : Int} {m : Mv} (h : LowE pr c e a) (hm : pr m % 2 ≠ e) : LowE pr (c ++ [m]) e a := by
  refine ⟨h.1.imp id fun ⟨x, hx, k⟩ => ⟨x, List.mem_append_left _ hx, k⟩, fun x hx ex => ?_⟩
  rcases List.mem_append.1 hx with k | k
  · exact h.2 x k ex
  · rw [List.mem_singleton.1 k] at ex; exact absurd ex hm
theorem LowE.take {pr : Mv → Int} {c : List Mv} {e a : Int} {m : Mv} (h : LowE pr c e a) (hm : pr m % 2 = e) : LowE pr (c ++ [m]) e (min a (pr m)) := by
  refine ⟨?_, fun x hx ex => ?_⟩
  · by_cases hc : a ≤ pr m
    · rw [Int.min_eq_left hc]
      exact h.1.imp id fun ⟨x, hx, k⟩ => ⟨x, List.mem_append_left _ hx, k⟩
    · rw [Int.min_eq_right (by omega)]
      exact .inr ⟨m, by simp, rfl, hm⟩
  · rcases List.mem_append.1 hx with k | k
    · have := h.2 x k ex; omega
    · rw [List.mem_singleton.1 k]; omega
theorem LowE.low {pr : Mv → Int} {c : List Mv} {a b : Int} (h0 : LowE pr c 0 a) (h1 : LowE pr c 1 b) (hc : c ≠ []) (hp : ∀ m ∈ c, 0 ≤ pr m ∧ pr m ≤ 20000) : LowC pr c (min a b) (max a b) ∧ 0 ≤ min a b ∧ min a b ≤ 20000 ∧ a ≠ b := by
  obtain ⟨m0, hm0⟩ := List.exists_mem_of_ne_nil _ hc
  have hM : ∀ m ∈ c, pr m % 2 = 0 ∨ pr m % 2 = 1 := fun m _ => by omega
  have ha : a = maxI ∨ (0 ≤ a ∧ a ≤ 20000 ∧ a % 2 = 0) := h0.1.imp id fun ⟨m, hm, e1, e2⟩ => by have := hp m hm; omega
  have hb : b = maxI ∨ (0 ≤ b ∧ b ≤ 20000 ∧ b % 2 = 1) := h1.1.imp id fun ⟨m, hm, e1, e2⟩ => by have := hp m hm; omega
  have h00 : a ≤ 20000 ∨ b ≤ 20000 := by
    rcases hM m0 hm0 with e | e
    · have := h0.2 m0 hm0 e; have := hp m0 hm0; omega
    · have := h1.2 m0 hm0 e; have := hp m0 hm0; omega
  have hmx : maxI = 9223372036854775807 := rfl
  have hne : a ≠ b := by omega
  refine ⟨⟨?_, fun m hm => ?_, by omega, fun m hm hlt => ?_⟩, by omega, by omega, hne⟩
  · by_cases hab : a < b
    · rw [Int.min_eq_left (by omega)]
      rcases h0.1 with e | ⟨m, hm, e1, -⟩
      · omega
      · exact ⟨m, hm, e1⟩
    · rw [Int.min_eq_right (by omega)]
      rcases h1.1 with e | ⟨m, hm, e1, -⟩
      · omega
      · exact ⟨m, hm, e1⟩
  · rcases hM m hm with e | e
    · have := h0.2 m hm e; omega
    · have := h1.2 m hm e; omega
  · rcases hM m hm with e | e
    · have := h0.2 m hm e; omega
    · have := h1.2 m hm e; omega

end Go.Proofs.Ytdkpdpcecjcmcaa
