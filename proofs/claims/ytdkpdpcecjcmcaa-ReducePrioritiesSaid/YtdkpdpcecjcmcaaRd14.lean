/- Jobs: sets of moves with bounds; what becomes of one (plain); a stack of jobs in memory. -/
import Derived.Test.YtdkpdpcecjcmcaaRd10
import Derived.Test.YtdkpdpcecjcmcaaRd12
import Derived.Test.YtdkpdpcecjcmcaaRd13
namespace Go.Proofs.Ytdkpdpcecjcmcaa
open Go.RowKit

/-- A job: what its moves get, the whole gives them. -/
abbrev Job := List Mv × Int
section
variable (tg : Mv → Nat) (pr : Mv → Int) (all : Mv → Prop)
/-- Where the work stands: the jobs, the moves that have their values. -/
structure JInv (jobs : List Job) (keys : List Mv) (f : Mv → Int) : Prop where
  nd : keys.Nodup ∧ (∀ j ∈ jobs, j.1.Nodup)
  dj : jobs.Pairwise fun i j => ∀ m ∈ i.1, m ∉ j.1
  dk : ∀ j ∈ jobs, ∀ m ∈ j.1, m ∉ keys
  cv : ∀ m, all m ↔ m ∈ keys ∨ ∃ j ∈ jobs, m ∈ j.1
  vl : ∀ m ∈ keys, ValP tg pr all 0 m (f m)
  go : ∀ j ∈ jobs, ∀ m ∈ j.1, ∀ v, ValP tg pr (· ∈ j.1) j.2 m v → ValP tg pr all 0 m v
  ne : ∀ j ∈ jobs, j.1 ≠ []
end
section
variable {tg : Mv → Nat} {pr : Mv → Int} {l c os rs : List Mv} {comps : List (List Mv)} {b k t v : Int} {m : Mv}
/-- A move outside all components. -/
theorem Grp.out (h : Grp tg l comps os) (hm : m ∈ os) : ValP tg pr (· ∈ l) b m b := .out ((h.ot m).1 hm).1 ((h.ot m).1 hm).2
/-- k is the least priority of a component, t that of the other parity (or more). -/
structure LowC (pr : Mv → Int) (c : List Mv) (k t : Int) : Prop where
  ex : ∃ m ∈ c, pr m = k
  le : ∀ m ∈ c, k ≤ pr m
  lt : k < t
  par : ∀ m ∈ c, pr m < t → pr m % 2 = k % 2
theorem Grp.low (h : Grp tg l comps os) (hc : c ∈ comps) (hl : LowC pr c k t) (hm : m ∈ c) (ht : pr m < t) : ValP tg pr (· ∈ l) b m (qB b k) := by
  obtain ⟨m0, h0, hmem⟩ := h.cs c hc
  have hi : InC tg (· ∈ l) m0 m := (hmem m).1 hm
  have hsame := InC.same h0 hi
  have hon : OnC tg (· ∈ l) m := OnC.of hi
  refine .least (t := t) hon ⟨?_, fun x hx => hl.le x ((hmem x).2 (by rw [hsame]; exact hx))⟩ (fun x hx => hl.par x ((hmem x).2 (by rw [hsame]; exact hx))) ht
  obtain ⟨x, hx, e⟩ := hl.ex
  exact ⟨x, by rw [← hsame]; exact (hmem x).1 hx, e⟩
theorem Grp.rest (h : Grp tg l comps os) (hc : c ∈ comps) (hl : LowC pr c k t) (hr : ∀ x, x ∈ rs ↔ x ∈ c ∧ t ≤ pr x) (hm : m ∈ rs) (hv : ValP tg pr (· ∈ rs) (qB b k) m v) : ValP tg pr (· ∈ l) b m v := by
  obtain ⟨m0, h0, hmem⟩ := h.cs c hc
  have hm' := (hr m).1 hm
  have hi : InC tg (· ∈ l) m0 m := (hmem m).1 hm'.1
  have hsame := InC.same h0 hi
  have hon : OnC tg (· ∈ l) m := OnC.of hi
  have e : (fun x => InC tg (· ∈ l) m x ∧ t ≤ pr x) = (· ∈ rs) := funext fun x => propext (by rw [hr x, ← hsame, hmem x])
  refine .rest (t := t) (k := k) hon ⟨?_, fun x hx => hl.le x ((hmem x).2 (by rw [hsame]; exact hx))⟩ (fun x hx => hl.par x ((hmem x).2 (by rw [hsame]; exact hx))) hl.lt hm'.2 (by rw [e]; exact hv)
  obtain ⟨x, hx, ex⟩ := hl.ex
  exact ⟨x, by rw [← hsame]; exact (hmem x).1 hx, ex⟩
end

/-! A stack of jobs in memory. -/
def jobsC (l : List (Value × Int)) : List Value := l.flatMap fun p => [p.1, .int .i64 p.2]
theorem jobsC_len (l : List (Value × Int)) : (jobsC l).length = l.length * 2 := by
  induction l with
  | nil => rfl
  | cons s r ih => simp only [jobsC, List.flatMap_cons, List.length_append, List.length_cons] at *; rw [ih]; simp; omega
theorem jobsC_get (l : List (Value × Int)) (j k : Nat) (hj : j < l.length) (hk : k < 2) : (jobsC l)[j * 2 + k]? = ([l[j].1, .int .i64 l[j].2] : List Value)[k]? := by
  induction l generalizing j with
  | nil => simp at hj
  | cons s r ih =>
    simp only [jobsC, List.flatMap_cons] at *
    cases j with
    | zero => rw [List.getElem?_append_left (by simp; omega)]; simp
    | succ j =>
      rw [List.getElem?_append_right (by simp; omega)]
      have := ih j (by simpa using hj)
      simp only [List.length_cons, List.length_nil, List.getElem_cons_succ] at this ⊢
      rw [← this]
      congr 1
      omega
theorem jobsC_app (a b : List (Value × Int)) : jobsC (a ++ b) = jobsC a ++ jobsC b := by simp [jobsC]
/-- A row of jobs of one's own. -/
def OJ (w : World) (base : Nat) (v : Value) (l : List (Value × Int)) : Prop := w.ownsRow base 65 2 v l.length (jobsC l)
theorem info_job : (Try.prog.info? 65).map (fun i => (i.zero, i.size, i.bytes)) = some (some (.agg #[.slice none 0 0, .int .i64 0]), 2, 32) := by kernel_rfl
/-- 'append' of a job to a row of one's own. -/
theorem app_job {ops : Array Oper} {rest : List Oper} {o : Oper} {a : Act} {Q : Exit → Act → World → Prop} {w : World} (hgd : o.guard = none) (s x : Operand) (y : Value) (q : Int) (hy : y.oneCell' = true)
    (ho : o.op = .call { callee := .builtin .append, args := #[s, x], argTypes := #[66, 66] })
    (base : Nat) (v : Value) (l : List (Value × Int)) (hown : OJ w base v l) (hs : a.eval s = v) (m : Nat) (hm : m = w.heap.size) (hx : a.eval x = .slice (some ⟨m, 0, none⟩) 1 1)
    (hn : l.length < 4000000000000) (hbase : base ≤ w.heap.size)
    (h : ∀ v' w', OJ w' base v' (l ++ [(y, q)]) → w.grownBy w' v.ownBlock → Moved w v v' → wpList Try.prog ops Q rest (a.put o.dst v') w') :
    wpList Try.prog ops Q (o :: rest) a (w.alloc (.cells #[y, .int .i64 q] 65)) := by
  refine wpList_appS hgd s x _ _ 2 32 _ _ ho Try.underlying66 info_job rfl (by decide) base v l.length _ hs hown m hm hx rfl (by intro u hu; simp at hu; rcases hu with rfl | rfl; exact hy; rfl) (by unfold maxLen; omega) (by omega) hbase fun v' w' h1 h2 h3 => h v' w' ?_ h2 h3
  unfold OJ
  rw [jobsC_app, List.length_append, List.length_singleton]
  exact h1
section
variable {w w' : World} {bs : Nat} {v : Value} {l : List (Value × Int)}
theorem OJ.slice (h : OJ w bs v l) : ∃ ao cap, v = .slice ao l.length cap := ownsRow_slice h
theorem OJ.ge (h : OJ w bs v l) : ∀ g, v.ownBlock = some g → bs ≤ g := fun g hg => (World.ownsRow.lt h g hg).1
theorem OJ.lt' (h : OJ w bs v l) : ∀ g, v.ownBlock = some g → g < w.heap.size := fun g hg => (World.ownsRow.lt h g hg).2
theorem OJ.only {S : Nat → Prop} (h : OJ w bs v l) (ho : Only S w w') (hS : ∀ k, v.ownBlock = some k → ¬ S k) : OJ w' bs v l := ownsRow_only h ho hS
theorem OJ.below (h : OJ w bs v l) (hb : Below w.heap.size w w') : OJ w' bs v l := h.only (S := fun _ => False) (Only.of_below hb) fun _ _ => id
theorem OJ.at' {g n cap : Nat} (h : OJ w bs (.slice (some ⟨g, 0, none⟩) n cap) l) {j : Nat} (hj : j < l.length) : w.cell? ⟨g, j * 2, none⟩ = some l[j].1 ∧ w.cell? ⟨g, j * 2 + 1, none⟩ = some (.int .i64 l[j].2) := by
  have hn : n = l.length := by
    obtain ⟨ao, c, e⟩ := ownsRow_slice h
    injection e
  subst hn
  have hc : ∀ k, k < 2 → w.cell? ⟨g, j * 2 + k, none⟩ = ([l[j].1, .int .i64 l[j].2] : List Value)[k]? := fun k hk => by
    rw [World.ownsRow.cellAt h (j * 2 + k) (by omega), jobsC_get l j k hj hk]
  exact ⟨hc 0 (by omega), hc 1 (by omega)⟩
/-- The head of the row. -/
theorem OJ.cut {g n cap : Nat} (h : OJ w bs (.slice (some ⟨g, 0, none⟩) n cap) l) {k : Nat} (hk : k ≤ l.length) : OJ w bs (.slice (some ⟨g, 0, none⟩) k cap) (l.take k) ∧ n ≤ cap := by
  have hl : (l.take k).length = k := by rw [List.length_take]; omega
  unfold OJ at h ⊢
  rw [hl]
  rcases h.2 with ⟨h', _⟩ | ⟨g', cap', cur, hv, hb, hg, hnc, hcm, hcs, ht⟩
  · cases h'
  · have hv' := hv
    injection hv' with h1 h2 h3
    refine ⟨⟨by rw [jobsC_len, hl], .inr ⟨g', cap', cur, by rw [h1, h3], hb, hg, by omega, hcm, hcs, ?_⟩⟩, by rw [h2, h3]; exact hnc⟩
    have e : (jobsC l).take (k * 2) = jobsC (l.take k) := by
      have h4 : jobsC l = jobsC (l.take k) ++ jobsC (l.drop k) := by rw [← jobsC_app, List.take_append_drop]
      rw [h4, List.take_left' (by rw [jobsC_len, hl])]
    rw [← e, ← ht, List.take_take, Nat.min_eq_left (by omega)]
end

end Go.Proofs.Ytdkpdpcecjcmcaa
