/- A component's moves: the low ones get the new priority, the others are kept for a job (plain). -/
import Derived.Test.YtdkpdpcecjcmcaaQRd15
namespace Go.Proofs.Ytdkpdpcecjcmcaa
open Go.RowKit

theorem Grp.mem_rest {tg : Mv → Nat} {l c os : List Mv} {comps : List (List Mv)} {ci : Nat} {m : Mv} (h : Grp tg l comps os) (ht : comps.take (ci + 1) = comps.take ci ++ [c]) (hm : m ∈ c) :
    m ∈ l ∧ m ∉ os ∧ ∀ d ∈ comps.take ci, m ∉ d := by
  have hc : c ∈ comps := List.mem_of_mem_take (i := ci + 1) (by rw [ht]; simp)
  have hl : m ∈ l := (h.nd.1 c hc).subset hm
  refine ⟨hl, fun ho => ?_, fun d hd hmd => ?_⟩
  · obtain ⟨m0, h0, hmem⟩ := h.cs c hc
    exact ((h.ot m).1 ho).2 (OnC.of ((hmem m).1 hm))
  · have hp : (comps.take (ci + 1)).Pairwise fun c d => ∀ m ∈ c, m ∉ d := h.dj.sublist (List.take_sublist _ _)
    rw [ht, List.pairwise_append] at hp
    exact hp.2.2 d hd c (by simp) m hmd hm

/-- What is left of a job's moves, when x moves of the component c have been gone through. -/
def PRm (pr : Mv → Int) (l os : List Mv) (pre : List (List Mv)) (c : List Mv) (x : Nat) (tt : Int) (m : Mv) : Prop :=
  (m ∈ l ∧ m ∉ os ∧ ∀ d ∈ pre, m ∉ d) ∧ ¬ (m ∈ c.take x ∧ pr m < tt)
def lowsL (pr : Mv → Int) (c : List Mv) (tt : Int) : List Mv := c.filter fun m => decide (pr m < tt)
def highsL (pr : Mv → Int) (c : List Mv) (tt : Int) : List Mv := c.filter fun m => decide (tt ≤ pr m)
section
variable {tg : Mv → Nat} {pr : Mv → Int} {all : Mv → Prop} {l c os : List Mv} {comps : List (List Mv)} {ci x : Nat} {m : Mv} {tt k b q : Int} {jobs : List Job} {keys : List Mv} {f : Mv → Int}
theorem PRm.zero (pre : List (List Mv)) : (∀ m, (m ∈ l ∧ m ∉ os ∧ ∀ d ∈ pre, m ∉ d) ↔ PRm pr l os pre c 0 tt m) := fun m => by simp [PRm]
theorem PRm.skip (pre : List (List Mv)) (hx : x < c.length) (hp : tt ≤ pr c[x]) : ∀ m, PRm pr l os pre c x tt m ↔ PRm pr l os pre c (x + 1) tt m := fun m => by
  unfold PRm
  rw [List.take_succ_eq_append_getElem hx, List.mem_append, List.mem_singleton]
  constructor
  · rintro ⟨h1, h2⟩
    refine ⟨h1, fun ⟨h3, h4⟩ => ?_⟩
    rcases h3 with h3 | rfl
    · exact h2 ⟨h3, h4⟩
    · omega
  · rintro ⟨h1, h2⟩
    exact ⟨h1, fun ⟨h3, h4⟩ => h2 ⟨.inl h3, h4⟩⟩
theorem nd_take (hn : c.Nodup) (hx : x < c.length) : c[x] ∉ c.take x := fun h => by
  obtain ⟨i, hi, e⟩ := List.getElem_of_mem h
  rw [List.length_take] at hi
  rw [List.getElem_take] at e
  have := (List.getElem_inj hn).1 e
  omega
/-- A low move. -/
theorem PRm.low (hG : Grp tg l comps os) (ht : comps.take (ci + 1) = comps.take ci ++ [c]) (hn : c.Nodup) (hL : LowC pr c k tt) (hgo : ∀ m ∈ l, ∀ v, ValP tg pr (· ∈ l) b m v → ValP tg pr all 0 m v)
    (hx : x < c.length) (hp : pr c[x] < tt) (h : JP tg pr all jobs keys f (PRm pr l os (comps.take ci) c x tt)) :
    JP tg pr all jobs (keys ++ [c[x]]) (fun z => if z = c[x] then qB b k else f z) (PRm pr l os (comps.take ci) c (x + 1) tt) ∧ c[x] ∉ keys := by
  have hm : c[x] ∈ c := List.getElem_mem hx
  have hc : c ∈ comps := List.mem_of_mem_take (i := ci + 1) (by rw [ht]; simp)
  have hr := hG.mem_rest ht hm
  have hP : PRm pr l os (comps.take ci) c x tt c[x] := ⟨hr, fun h => nd_take hn hx h.1⟩
  refine ⟨(h.put hP (hgo _ hr.1 _ (hG.low hc hL hm hp))).congr fun m => ?_, (h.pk _ hP).1⟩
  unfold PRm
  rw [List.take_succ_eq_append_getElem hx, List.mem_append, List.mem_singleton]
  constructor
  · rintro ⟨⟨h1, h2⟩, h3⟩
    exact ⟨h1, fun ⟨h4, h5⟩ => h4.elim (fun h4 => h2 ⟨h4, h5⟩) h3⟩
  · rintro ⟨h1, h2⟩
    refine ⟨⟨h1, fun ⟨h3, h4⟩ => h2 ⟨.inl h3, h4⟩⟩, ?_⟩
    rintro rfl
    exact h2 ⟨.inr rfl, hp⟩
theorem lowsL_in (hx : x < c.length) (hp : pr c[x] < tt) : (lowsL pr (c.take (x + 1)) tt).length = (lowsL pr (c.take x) tt).length + 1 := by
  unfold lowsL
  rw [List.take_succ_eq_append_getElem hx, List.filter_append, List.length_append]
  simp [hp]
theorem lowsL_out (hx : x < c.length) (hp : tt ≤ pr c[x]) : (lowsL pr (c.take (x + 1)) tt).length = (lowsL pr (c.take x) tt).length := by
  unfold lowsL
  rw [List.take_succ_eq_append_getElem hx, List.filter_append, List.length_append]
  simp [hp]
theorem highsL_in (hx : x < c.length) (hp : tt ≤ pr c[x]) : highsL pr (c.take (x + 1)) tt = highsL pr (c.take x) tt ++ [c[x]] := by
  unfold highsL
  rw [List.take_succ_eq_append_getElem hx, List.filter_append]
  simp [hp]
theorem highsL_out (hx : x < c.length) (hp : pr c[x] < tt) : highsL pr (c.take (x + 1)) tt = highsL pr (c.take x) tt := by
  unfold highsL
  rw [List.take_succ_eq_append_getElem hx, List.filter_append]
  simp [hp]
theorem lowsL_pos (hL : LowC pr c k tt) : 0 < (lowsL pr c tt).length := by
  obtain ⟨m, hm, e⟩ := hL.ex
  refine List.length_pos_of_mem (a := m) ?_
  unfold lowsL
  rw [List.mem_filter]
  have := hL.lt
  exact ⟨hm, by simp; omega⟩
theorem highsL_len : (highsL pr (c.take x) tt).length ≤ c.length := by
  unfold highsL
  have h1 := List.length_filter_le (fun m => decide (tt ≤ pr m)) (c.take x)
  rw [List.length_take] at h1
  omega
/-- Nothing but low moves. -/
theorem PRm.none (ht : comps.take (ci + 1) = comps.take ci ++ [c]) (he : highsL pr c tt = []) : ∀ m, PRm pr l os (comps.take ci) c c.length tt m ↔ (m ∈ l ∧ m ∉ os ∧ ∀ d ∈ comps.take (ci + 1), m ∉ d) := fun m => by
  have hA : ∀ z ∈ c, pr z < tt := fun z hz => by
    unfold highsL at he
    have := List.filter_eq_nil_iff.1 he z hz
    simpa using this
  unfold PRm
  rw [ht, List.take_length]
  constructor
  · rintro ⟨⟨h1, h2, h3⟩, h4⟩
    refine ⟨h1, h2, fun d hd hm => ?_⟩
    rw [List.mem_append, List.mem_singleton] at hd
    rcases hd with hd | rfl
    · exact h3 d hd hm
    · exact h4 ⟨hm, hA m hm⟩
  · rintro ⟨h1, h2, h3⟩
    exact ⟨⟨h1, h2, fun d hd => h3 d (List.mem_append_left _ hd)⟩, fun h => h3 c (by simp) h.1⟩
/-- The others become a job. -/
theorem PRm.push (hG : Grp tg l comps os) (ht : comps.take (ci + 1) = comps.take ci ++ [c]) (hn : c.Nodup) (hL : LowC pr c k tt) (hgo : ∀ m ∈ l, ∀ v, ValP tg pr (· ∈ l) b m v → ValP tg pr all 0 m v)
    (he : highsL pr c tt ≠ []) (h : JP tg pr all jobs keys f (PRm pr l os (comps.take ci) c c.length tt)) :
    JP tg pr all (jobs ++ [(highsL pr c tt, qB b k)]) keys f (fun m => m ∈ l ∧ m ∉ os ∧ ∀ d ∈ comps.take (ci + 1), m ∉ d) := by
  have hc : c ∈ comps := List.mem_of_mem_take (i := ci + 1) (by rw [ht]; simp)
  have hmem : ∀ m, m ∈ highsL pr c tt ↔ m ∈ c ∧ tt ≤ pr m := fun m => by simp [highsL, List.mem_filter]
  refine (h.push (rs := highsL pr c tt) (q := qB b k) (List.Nodup.sublist List.filter_sublist hn) he (fun m hm => ?_) fun m hm v hv => ?_).congr fun m => ?_
  · have h1 := (hmem m).1 hm
    exact ⟨hG.mem_rest ht h1.1, fun h2 => by omega⟩
  · have h1 := (hmem m).1 hm
    exact hgo m (hG.mem_rest ht h1.1).1 v (hG.rest hc hL hmem hm hv)
  · unfold PRm
    rw [ht, List.take_length, hmem m]
    constructor
    · rintro ⟨⟨⟨h1, h2, h3⟩, h4⟩, h5⟩
      refine ⟨h1, h2, fun d hd hm => ?_⟩
      rw [List.mem_append, List.mem_singleton] at hd
      rcases hd with hd | rfl
      · exact h3 d hd hm
      · by_cases hp : pr m < tt
        · exact h4 ⟨hm, hp⟩
        · exact h5 ⟨hm, by omega⟩
    · rintro ⟨h1, h2, h3⟩
      have hnc : m ∉ c := h3 c (by simp)
      exact ⟨⟨⟨h1, h2, fun d hd => h3 d (List.mem_append_left _ hd)⟩, fun h => hnc h.1⟩, fun h => hnc h.1⟩
end

end Go.Proofs.Ytdkpdpcecjcmcaa
