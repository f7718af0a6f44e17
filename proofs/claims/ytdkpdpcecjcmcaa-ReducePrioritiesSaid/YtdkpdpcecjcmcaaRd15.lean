/- Where the work on the jobs stands, step by step (plain). -/
import Derived.Test.YtdkpdpcecjcmcaaRd14
namespace Go.Proofs.Ytdkpdpcecjcmcaa

theorem nd_sub {l l' : List Mv} (hn : l.Nodup) (h : ∀ x ∈ l, x ∈ l') : l.length ≤ l'.length := by
  induction l generalizing l' with
  | nil => exact Nat.zero_le _
  | cons x t ih =>
    have h2 := List.nodup_cons.1 hn
    have h1 := ih h2.2 (l' := l'.erase x) fun y hy => (List.mem_erase_of_ne (a := y) (b := x) (by rintro rfl; exact h2.1 hy)).2 (h y (List.mem_cons_of_mem _ hy))
    have h3 := List.length_erase_of_mem (h x List.mem_cons_self)
    have h4 : 0 < l'.length := List.length_pos_of_mem (h x List.mem_cons_self)
    rw [List.length_cons]
    omega

section
variable (tg : Mv → Nat) (pr : Mv → Int) (all : Mv → Prop)
/-- The same as JInv, with moves that are neither in a job nor done. -/
structure JP (jobs : List Job) (keys : List Mv) (f : Mv → Int) (P : Mv → Prop) : Prop where
  nd : keys.Nodup ∧ (∀ j ∈ jobs, j.1.Nodup)
  dj : jobs.Pairwise fun i j => ∀ m ∈ i.1, m ∉ j.1
  dk : ∀ j ∈ jobs, ∀ m ∈ j.1, m ∉ keys
  pk : ∀ m, P m → m ∉ keys ∧ ∀ j ∈ jobs, m ∉ j.1
  cv : ∀ m, all m ↔ m ∈ keys ∨ (∃ j ∈ jobs, m ∈ j.1) ∨ P m
  vl : ∀ m ∈ keys, ValP tg pr all 0 m (f m)
  go : ∀ j ∈ jobs, ∀ m ∈ j.1, ∀ v, ValP tg pr (· ∈ j.1) j.2 m v → ValP tg pr all 0 m v
  ne : ∀ j ∈ jobs, j.1 ≠ []
end
section
variable {tg : Mv → Nat} {pr : Mv → Int} {all : Mv → Prop} {jobs : List Job} {keys : List Mv} {f : Mv → Int} {P P' : Mv → Prop} {m : Mv} {x q : Int} {l rs : List Mv}
theorem JP.congr (h : JP tg pr all jobs keys f P) (e : ∀ m, P m ↔ P' m) : JP tg pr all jobs keys f P' := by
  rw [show P' = P from funext fun m => propext (e m).symm]
  exact h
theorem JP.start (hn : l.Nodup) (hl : l ≠ []) (ha : ∀ m, all m ↔ m ∈ l) (f : Mv → Int) : JP tg pr all [(l, 0)] [] f (fun _ => False) := by
  refine ⟨⟨List.nodup_nil, fun j hj => ?_⟩, List.pairwise_singleton _ _, fun _ _ _ _ h => (nomatch h), fun _ h => h.elim, fun m => ?_, fun _ h => (nomatch h), fun j hj m hm v hv => ?_, fun j hj => ?_⟩
  · rw [List.mem_singleton.1 hj]; exact hn
  · rw [ha m]; simp
  · rw [List.mem_singleton.1 hj] at hv
    rw [show all = (· ∈ l) from funext fun m => propext (ha m)]
    exact hv
  · rw [List.mem_singleton.1 hj]; exact hl
/-- The last job is taken. -/
theorem JP.pop (h : JP tg pr all (jobs ++ [(l, x)]) keys f (fun _ => False)) : JP tg pr all jobs keys f (· ∈ l) ∧ (∀ m ∈ l, ∀ v, ValP tg pr (· ∈ l) x m v → ValP tg pr all 0 m v) ∧ l.Nodup ∧ l ≠ [] := by
  have hd := List.pairwise_append.1 h.dj
  refine ⟨⟨⟨h.nd.1, fun j hj => h.nd.2 j (List.mem_append_left _ hj)⟩, hd.1, fun j hj => h.dk j (List.mem_append_left _ hj), fun m hm => ⟨h.dk (l, x) (by simp) m hm, fun j hj k => hd.2.2 j hj (l, x) (by simp) m k hm⟩, fun m => ?_, h.vl, fun j hj => h.go j (List.mem_append_left _ hj), fun j hj => h.ne j (List.mem_append_left _ hj)⟩, h.go (l, x) (by simp), h.nd.2 (l, x) (by simp), h.ne (l, x) (by simp)⟩
  rw [h.cv m]
  simp only [List.mem_append, List.mem_singleton, or_false]
  constructor
  · rintro (k | ⟨j, k | rfl, k2⟩)
    · exact .inl k
    · exact .inr (.inl ⟨j, k, k2⟩)
    · exact .inr (.inr k2)
  · rintro (k | ⟨j, k, k2⟩ | k)
    · exact .inl k
    · exact .inr ⟨j, .inl k, k2⟩
    · exact .inr ⟨(l, x), .inr rfl, k⟩
/-- A move gets its value. -/
theorem JP.put (h : JP tg pr all jobs keys f P) (hm : P m) (hv : ValP tg pr all 0 m x) : JP tg pr all jobs (keys ++ [m]) (fun z => if z = m then x else f z) (fun z => P z ∧ z ≠ m) := by
  have hk := h.pk m hm
  refine ⟨⟨?_, h.nd.2⟩, h.dj, fun j hj z hz => ?_, fun z hz => ⟨?_, (h.pk z hz.1).2⟩, fun z => ?_, fun z hz => ?_, h.go, h.ne⟩
  · rw [List.nodup_append]
    exact ⟨h.nd.1, by simp, fun a ha b hb => by rw [List.mem_singleton.1 hb]; rintro rfl; exact hk.1 ha⟩
  · rw [List.mem_append, List.mem_singleton]
    rintro (k | rfl)
    · exact h.dk j hj z hz k
    · exact hk.2 j hj hz
  · rw [List.mem_append, List.mem_singleton]
    rintro (k | k)
    · exact (h.pk z hz.1).1 k
    · exact hz.2 k
  · rw [h.cv z, List.mem_append, List.mem_singleton]
    by_cases e : z = m
    · subst e; simp [hm]
    · simp [e]
  · by_cases e : z = m
    · subst e; simpa using hv
    · rw [List.mem_append, List.mem_singleton] at hz
      simp only [if_neg e]
      exact h.vl z (hz.resolve_right e)
/-- Moves become a job. -/
theorem JP.push (h : JP tg pr all jobs keys f P) (hn : rs.Nodup) (hr : rs ≠ []) (hP : ∀ m ∈ rs, P m) (hg : ∀ m ∈ rs, ∀ v, ValP tg pr (· ∈ rs) q m v → ValP tg pr all 0 m v) : JP tg pr all (jobs ++ [(rs, q)]) keys f (fun z => P z ∧ z ∉ rs) := by
  have hmem : ∀ {j : Job}, j ∈ jobs ++ [(rs, q)] → j ∈ jobs ∨ j = (rs, q) := fun {j} hj => by simpa using hj
  refine ⟨⟨h.nd.1, fun j hj => ?_⟩, ?_, fun j hj m hm => ?_, fun z hz => ⟨(h.pk z hz.1).1, fun j hj => ?_⟩, fun z => ?_, h.vl, fun j hj => ?_, fun j hj => ?_⟩
  · rcases hmem hj with k | rfl
    · exact h.nd.2 j k
    · exact hn
  · rw [List.pairwise_append]
    refine ⟨h.dj, List.pairwise_singleton _ _, fun a ha b hb m hm => ?_⟩
    rw [List.mem_singleton.1 hb]
    exact fun k => (h.pk m (hP m k)).2 a ha hm
  · rcases hmem hj with k | rfl
    · exact h.dk j k m hm
    · exact (h.pk m (hP m hm)).1
  · rcases hmem hj with k | rfl
    · exact (h.pk z hz.1).2 j k
    · exact hz.2
  · rw [h.cv z]
    constructor
    · rintro (k | ⟨j, k, k2⟩ | k)
      · exact .inl k
      · exact .inr (.inl ⟨j, List.mem_append_left _ k, k2⟩)
      · by_cases e : z ∈ rs
        · exact .inr (.inl ⟨(rs, q), by simp, e⟩)
        · exact .inr (.inr ⟨k, e⟩)
    · rintro (k | ⟨j, k, k2⟩ | k)
      · exact .inl k
      · rcases hmem k with k3 | rfl
        · exact .inr (.inl ⟨j, k3, k2⟩)
        · exact .inr (.inr (hP z k2))
      · exact .inr (.inr k.1)
  · rcases hmem hj with k | rfl
    · exact h.go j k
    · exact hg
  · rcases hmem hj with k | rfl
    · exact h.ne j k
    · exact hr
/-- What is done is at most all. -/
theorem JP.len (h : JP tg pr all jobs keys f P) {al : List Mv} (ha : ∀ m, all m ↔ m ∈ al) : keys.length ≤ al.length :=
  nd_sub h.nd.1 fun m hm => (ha m).1 ((h.cv m).2 (.inl hm))
end

end Go.Proofs.Ytdkpdpcecjcmcaa
