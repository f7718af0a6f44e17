/- Where the work on the jobs stands, step by step (plain). The jobs in memory; the least priorities of both parities (plain). -/
import Derived.Test.YtdkpdpcecjcmcaaQRd13
namespace Go.Proofs.Ytdkpdpcecjcmcaa

theorem nd_sub {l l' : List Mv} (hn : l.Nodup) (h : ∀ x ∈ l, x ∈ l') : l.length ≤ l'.length := by
  induction l generalizing l' with
  | nil => exact Nat.zero_le _
  | cons x t ih =>
    have h2 := List.nodup_cons.1 hn
    have h1 := ih h2.2 (l' := l'.erase x) fun y hy => (List.mem_erase_of_ne (a := y) (b := x) (by rintro rfl; exact h2.1 hy)).2 (h y (List.mem_cons_of_mem _ hy))
    have h3 := List.length_erase_of_mem (h x List.mem_cons_self)
    have h4 : 0 < l'.length := List.length_pos_of_mem (h x List.mem_cons_self)
    rw [List.length_cons]
    omega

section
variable (tg : Mv → Nat) (pr : Mv → Int) (all : Mv → Prop)
/-- The same as JInv, with moves that are neither in a job nor done. -/
structure JP (jobs : List Job) (keys : List Mv) (f : Mv → Int) (P : Mv → Prop) : Prop where
  nd : keys.Nodup ∧ (∀ j ∈ jobs, j.1.Nodup)
  dj : jobs.Pairwise fun i j => ∀ m ∈ i.1, m ∉ j.1
  dk : ∀ j ∈ jobs, ∀ m ∈ j.1, m ∉ keys
  pk : ∀ m, P m → m ∉ keys ∧ ∀ j ∈ jobs, m ∉ j.1
  cv : ∀ m, all m ↔ m ∈ keys ∨ (∃ j ∈ jobs, m ∈ j.1) ∨ P m
  vl : ∀ m ∈ keys, ValP tg pr all 0 m (f m)
  go : ∀ j ∈ jobs, ∀ m ∈ j.1, ∀ v, ValP tg pr (· ∈ j.1) j.2 m v → ValP tg pr all 0 m v
  ne : ∀ j ∈ jobs, j.1 ≠ []
end
section
variable {tg : Mv → Nat} {pr : Mv → Int} {all : Mv → Prop} {jobs : List Job} {keys : List Mv} {f : Mv → Int} {P P' : Mv → Prop} {m : Mv} {x q : Int} {l rs : List Mv}
theorem JP.congr (h : JP tg pr all jobs keys f P) (e : ∀ m, P m ↔ P' m) : JP tg pr all jobs keys f P' := by
  rw [show P' = P from funext fun m => propext (e m).symm]
  exact h
theorem JP.start (hn : l.Nodup) (hl : l ≠ []) (ha : ∀ m, all m ↔ m ∈ l) (f : Mv → Int) : JP tg pr all [(l, 0)] [] f (fun _ => False) := by
  refine ⟨⟨List.nodup_nil, fun j hj => ?_⟩, List.pairwise_singleton _ _, fun _ _ _ _ h => (nomatch h), fun _ h => h.elim, fun m => ?_, fun _ h => (nomatch h), fun j hj m hm v hv => ?_, fun j hj => ?_⟩
  · rw [List.mem_singleton.1 hj]; exact hn
  · rw [ha m]; simp
  · rw [List.mem_singleton.1 hj] at hv
    rw [show all = (· ∈ l) from funext fun m => propext (ha m)]
    exact hv
  · rw [List.mem_singleton.1 hj]; exact hl
/-- The last job is taken. -/
theorem JP.pop (h : JP tg pr all (jobs ++ [(l, x)]) keys f (fun _ => False)) : JP tg pr all jobs keys f (· ∈ l) ∧ (∀ m ∈ l, ∀ v, ValP tg pr (· ∈ l) x m v → ValP tg pr all 0 m v) ∧ l.Nodup ∧ l ≠ [] := by
  have hd := List.pairwise_append.1 h.dj
  refine ⟨⟨⟨h.nd.1, fun j hj => h.nd.2 j (List.mem_append_left _ hj)⟩, hd.1, fun j hj => h.dk j (List.mem_append_left _ hj), fun m hm => ⟨h.dk (l, x) (by simp) m hm, fun j hj k => hd.2.2 j hj (l, x) (by simp) m k hm⟩, fun m => ?_, h.vl, fun j hj => h.go j (List.mem_append_left _ hj), fun j hj => h.ne j (List.mem_append_left _ hj)⟩, h.go (l, x) (by simp), h.nd.2 (l, x) (by simp), h.ne (l, x) (by simp)⟩
  rw [h.cv m]
  simp only [List.mem_append, List.mem_singleton, or_false]
  constructor
  · rintro (k | ⟨j, k | rfl, k2⟩)
    · exact .inl k
    · exact .inr (.inl ⟨j, k, k2⟩)
    · exact .inr (.inr k2)
  · rintro (k | ⟨j, k, k2⟩ | k)
    · exact .inl k
    · exact .inr ⟨j, .inl k, k2⟩
    · exact .inr ⟨(l, x), .inr rfl, k⟩
/-- A move gets its value. -/
theorem JP.put (h : JP tg pr all jobs keys f P) (hm : P m) (hv : ValP tg pr all 0 m x) : JP tg pr all jobs (keys ++ [m]) (fun z => if z = m then x else f z) (fun z => P z ∧ z ≠ m) := by
  have hk := h.pk m hm
  refine ⟨⟨?_, h.nd.2⟩, h.dj, fun j hj z hz => ?_, fun z hz => ⟨?_, (h.pk z hz.1).2⟩, fun z => ?_, fun z hz => ?_, h.go, h.ne⟩
  · rw [List.nodup_append]
    exact ⟨h.nd.1, by simp, fun a ha b hb => by rw [List.mem_singleton.1 hb]; rintro rfl; exact hk.1 ha⟩
  · rw [List.mem_append, List.mem_singleton]
    rintro (k | rfl)
    · exact h.dk j hj z hz k
    · exact hk.2 j hj hz
  · rw [List.mem_append, List.mem_singleton]
    rintro (k | k)
    · exact (h.pk z hz.1).1 k
    · exact hz.2 k
  · rw [h.cv z, List.mem_append, List.mem_singleton]
    by_cases e : z = m
    · subst e; simp [hm]
    · simp [e]
  · by_cases e : z = m
    · subst e; simpa using hv
    · rw [List.mem_append, List.mem_singleton] at hz
      simp only [if_neg e]
      exact h.vl z (hz.resolve_right e)
/-- Moves become a job. -/
theorem JP.push (h : JP tg pr all jobs keys f P) (hn : rs.Nodup) (hr : rs ≠ []) (hP : ∀ m ∈ rs, P m) (hg : ∀ m ∈ rs, ∀ v, ValP tg pr (· ∈ rs) q m v → ValP tg pr all 0 m v) : JP tg pr all (jobs ++ [(rs, q)]) keys f (fun z => P z ∧ z ∉ rs) := by
  have hmem : ∀ {j : Job}, j ∈ jobs ++ [(rs, q)] → j ∈ jobs ∨ j = (rs, q) := fun {j} hj => by simpa using hj
  refine ⟨⟨h.nd.1, fun j hj => ?_⟩, ?_, fun j hj m hm => ?_, fun z hz => ⟨(h.pk z hz.1).1, fun j hj => ?_⟩, fun z => ?_, h.vl, fun j hj => ?_, fun j hj => ?_⟩
  · rcases hmem hj with k | rfl
    · exact h.nd.2 j k
    · exact hn
  · rw [List.pairwise_append]
    refine ⟨h.dj, List.pairwise_singleton _ _, fun a ha b hb m hm => ?_⟩
    rw [List.mem_singleton.1 hb]
    exact fun k => (h.pk m (hP m k)).2 a ha hm
  · rcases hmem hj with k | rfl
    · exact h.dk j k m hm
    · exact (h.pk m (hP m hm)).1
  · rcases hmem hj with k | rfl
    · exact (h.pk z hz.1).2 j k
    · exact hz.2
  · rw [h.cv z]
    constructor
    · rintro (k | ⟨j, k, k2⟩ | k)
      · exact .inl k
      · exact .inr (.inl ⟨j, List.mem_append_left _ k, k2⟩)
      · by_cases e : z ∈ rs
        · exact .inr (.inl ⟨(rs, q), by simp, e⟩)
        · exact .inr (.inr ⟨k, e⟩)
    · rintro (k | ⟨j, k, k2⟩ | k)
      · exact .inl k
      · rcases hmem k with k3 | rfl
        · exact .inr (.inl ⟨j, k3, k2⟩)
        · exact .inr (.inr (hP z k2))
      · exact .inr (.inr k.1)
  · rcases hmem hj with k | rfl
    · exact h.go j k
    · exact hg
  · rcases hmem hj with k | rfl
    · exact h.ne j k
    · exact hr
/-- What is done is at most all. -/
theorem JP.len (h : JP tg pr all jobs keys f P) {al : List Mv} (ha : ∀ m, all m ↔ m ∈ al) : keys.length ≤ al.length :=
  nd_sub h.nd.1 fun m hm => (ha m).1 ((h.cv m).2 (.inl hm))
end

end Go.Proofs.Ytdkpdpcecjcmcaa

namespace Go.Proofs.Ytdkpdpcecjcmcaa
open Go.RowKit

/-- What is written to while the jobs are worked on. -/
def hotJ (A : Fa) (mb : Nat) (v : Value) (Z q : Nat) : Prop := A.hotA q ∨ A.hotG q ∨ q = mb ∨ v.ownBlock = some q ∨ Z ≤ q
/-- The jobs' moves stay what they are. -/
structure JsM (A : Fa) (mb : Nat) (v : Value) (W : World) (jl : List (Value × Int)) (jobs : List Job) : Prop where
  ln : jl.length = jobs.length
  at' : ∀ i (h : i < jl.length) (h' : i < jobs.length), jl[i].2 = jobs[i].2 ∧ jl[i].1.oneCell' = true ∧ ∀ W', Only (hotJ A mb v W.heap.size) W W' → IsMvs W' jl[i].1 jobs[i].1
section
variable {A : Fa} {mb : Nat} {v v' : Value} {W W1 : World} {jl : List (Value × Int)} {jobs : List Job}
theorem JsM.move (h : JsM A mb v W jl jobs) (ho : Only (hotJ A mb v W.heap.size) W W1) (hm : ∀ q, v'.ownBlock = some q → v.ownBlock = some q ∨ W.heap.size ≤ q) : JsM A mb v' W1 jl jobs :=
  ⟨h.ln, fun i h1 h2 => ⟨(h.at' i h1 h2).1, (h.at' i h1 h2).2.1, fun W' hW => (h.at' i h1 h2).2.2 W' (ho.trans (hW.mono fun q _ hq => by
    rcases hq with e | e | e | e | e
    · exact .inl e
    · exact .inr (.inl e)
    · exact .inr (.inr (.inl e))
    · exact (hm q e).elim (fun e => .inr (.inr (.inr (.inl e)))) fun e => .inr (.inr (.inr (.inr e)))
    · exact .inr (.inr (.inr (.inr (Nat.le_trans ho.size e))))))⟩⟩
theorem JsM.cut {y : Value × Int} {j : Job} (h : JsM A mb v W (jl ++ [y]) (jobs ++ [j])) : JsM A mb v W jl jobs ∧ jl.length = jobs.length ∧ y.2 = j.2 ∧ y.1.oneCell' = true ∧ ∀ W', Only (hotJ A mb v W.heap.size) W W' → IsMvs W' y.1 j.1 := by
  have hl : jl.length = jobs.length := by have := h.ln; simpa using this
  refine ⟨⟨hl, fun i h1 h2 => ?_⟩, hl, ?_⟩
  · have := h.at' i (by simp; omega) (by simp; omega)
    rwa [List.getElem_append_left h1, List.getElem_append_left h2] at this
  · have := h.at' jl.length (by simp) (by simp [hl])
    rw [List.getElem_append_right (Nat.le_refl _), List.getElem_append_right (by omega)] at this
    simpa [hl] using this
theorem JsM.add {y : Value} {q : Int} {rs : List Mv} (h : JsM A mb v W jl jobs) (hy : y.oneCell' = true) (hs : ∀ W', Only (hotJ A mb v W.heap.size) W W' → IsMvs W' y rs) : JsM A mb v W (jl ++ [(y, q)]) (jobs ++ [(rs, q)]) := by
  refine ⟨by simp [h.ln], fun i h1 h2 => ?_⟩
  have hl := h.ln
  by_cases e : i < jl.length
  · rw [List.getElem_append_left e, List.getElem_append_left (show i < jobs.length by omega)]
    exact h.at' i e (by omega)
  · simp only [List.length_append, List.length_singleton] at h1 h2
    obtain rfl : i = jl.length := by omega
    rw [List.getElem_append_right (Nat.le_refl _), List.getElem_append_right (by omega)]
    simp only [Nat.sub_self, List.getElem_cons_zero, show jl.length - jobs.length = 0 by omega]
    exact ⟨by first | rfl | trivial, hy, hs⟩
theorem JsM.nil (A : Fa) (mb : Nat) (v : Value) (W : World) : JsM A mb v W [] [] := ⟨rfl, fun i h => absurd h (by simp)⟩
end

theorem mvsU_nodup (k s : Nat) : (mvsU k s 0).Nodup := by
  induction s with
  | zero => simp [mvsU]
  | succ s ih =>
    rw [← mvsU_s]
    unfold mvsU at ih ⊢
    simp only [List.range_zero, List.map_nil, List.append_nil] at ih
    rw [List.nodup_append]
    refine ⟨ih, ?_, fun a ha b hb => ?_⟩
    · exact List.pairwise_map.2 (List.nodup_range.imp fun h e => h (Prod.mk.inj e).2)
    · obtain ⟨i, hi, j, hj, rfl⟩ := by simpa only [List.mem_flatMap, List.mem_range, List.mem_map] using ha
      obtain ⟨j2, hj2, rfl⟩ := by simpa only [List.mem_range, List.mem_map] using hb
      intro e
      have := (Prod.mk.inj e).1
      omega

/-! The least priorities of both parities. -/
def maxI : Int := 9223372036854775807
/-- a is the least priority of parity e among the moves c (the greatest number if there is none). -/
def LowE (pr : Mv → Int) (c : List Mv) (e a : Int) : Prop := (a = maxI ∨ ∃ m ∈ c, pr m = a ∧ pr m % 2 = e) ∧ ∀ m ∈ c, pr m % 2 = e → a ≤ pr m
theorem LowE.start (pr : Mv → Int) (e : Int) : LowE pr [] e maxI := ⟨.inl rfl, fun _ hm => (nomatch hm)⟩
theorem LowE.skip {pr : Mv → Int} {c : List Mv} {e a : Int} {m : Mv} (h : LowE pr c e a) (hm : pr m % 2 ≠ e) : LowE pr (c ++ [m]) e a := by
  refine ⟨h.1.imp id fun ⟨x, hx, k⟩ => ⟨x, List.mem_append_left _ hx, k⟩, fun x hx ex => ?_⟩
  rcases List.mem_append.1 hx with k | k
  · exact h.2 x k ex
  · rw [List.mem_singleton.1 k] at ex; exact absurd ex hm
theorem LowE.take {pr : Mv → Int} {c : List Mv} {e a : Int} {m : Mv} (h : LowE pr c e a) (hm : pr m % 2 = e) : LowE pr (c ++ [m]) e (min a (pr m)) := by
  refine ⟨?_, fun x hx ex => ?_⟩
  · by_cases hc : a ≤ pr m
    · rw [Int.min_eq_left hc]
      exact h.1.imp id fun ⟨x, hx, k⟩ => ⟨x, List.mem_append_left _ hx, k⟩
    · rw [Int.min_eq_right (by omega)]
      exact .inr ⟨m, by simp, rfl, hm⟩
  · rcases List.mem_append.1 hx with k | k
    · have := h.2 x k ex; omega
    · rw [List.mem_singleton.1 k]; omega
theorem LowE.low {pr : Mv → Int} {c : List Mv} {a b : Int} (h0 : LowE pr c 0 a) (h1 : LowE pr c 1 b) (hc : c ≠ []) (hp : ∀ m ∈ c, 0 ≤ pr m ∧ pr m ≤ 20000) : LowC pr c (min a b) (max a b) ∧ 0 ≤ min a b ∧ min a b ≤ 20000 ∧ a ≠ b := by
  obtain ⟨m0, hm0⟩ := List.exists_mem_of_ne_nil _ hc
  have hM : ∀ m ∈ c, pr m % 2 = 0 ∨ pr m % 2 = 1 := fun m _ => by omega
  have ha : a = maxI ∨ (0 ≤ a ∧ a ≤ 20000 ∧ a % 2 = 0) := h0.1.imp id fun ⟨m, hm, e1, e2⟩ => by have := hp m hm; omega
  have hb : b = maxI ∨ (0 ≤ b ∧ b ≤ 20000 ∧ b % 2 = 1) := h1.1.imp id fun ⟨m, hm, e1, e2⟩ => by have := hp m hm; omega
  have h00 : a ≤ 20000 ∨ b ≤ 20000 := by
    rcases hM m0 hm0 with e | e
    · have := h0.2 m0 hm0 e; have := hp m0 hm0; omega
    · have := h1.2 m0 hm0 e; have := hp m0 hm0; omega
  have hmx : maxI = 9223372036854775807 := rfl
  have hne : a ≠ b := by omega
  refine ⟨⟨?_, fun m hm => ?_, by omega, fun m hm hlt => ?_⟩, by omega, by omega, hne⟩
  · by_cases hab : a < b
    · rw [Int.min_eq_left (by omega)]
      rcases h0.1 with e | ⟨m, hm, e1, -⟩
      · omega
      · exact ⟨m, hm, e1⟩
    · rw [Int.min_eq_right (by omega)]
      rcases h1.1 with e | ⟨m, hm, e1, -⟩
      · omega
      · exact ⟨m, hm, e1⟩
  · rcases hM m hm with e | e
    · have := h0.2 m hm e; omega
    · have := h1.2 m hm e; omega
  · rcases hM m hm with e | e
    · have := h0.2 m hm e; omega
    · have := h1.2 m hm e; omega

end Go.Proofs.Ytdkpdpcecjcmcaa
