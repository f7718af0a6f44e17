/- The least measure exists; views, bounds, work, and what the functions return (plain). -/
import Derived.Test.YtijkjhcigdfdgaaQRkP3
namespace Go.Proofs.Ytijkjhcigdfdgaa

/-! Sums. -/
def sumN (f : Nat → Nat) : Nat → Nat
  | 0 => 0
  | n + 1 => sumN f n + f n
section
variable {f f' : Nat → Nat}
theorem sum_le : ∀ {n : Nat}, (∀ u, u < n → f u ≤ f' u) → sumN f n ≤ sumN f' n
  | 0, _ => Nat.le_refl _
  | n + 1, h => Nat.add_le_add (sum_le fun u hu => h u (by omega)) (h n (by omega))
theorem sum_lt : ∀ {n v : Nat}, (∀ u, u < n → f u ≤ f' u) → v < n → f v < f' v → sumN f n < sumN f' n
  | n + 1, v, h, hv, hl => by
    show sumN f n + f n < sumN f' n + f' n
    by_cases e : v = n
    · subst e
      have := sum_le (n := v) fun u hu => h u (by omega)
      omega
    · have := sum_lt (n := n) (v := v) (fun u hu => h u (by omega)) (by omega) hl
      have := h n (by omega)
      omega
theorem sum_bd {t : Nat} : ∀ {n : Nat}, (∀ u, u < n → f u ≤ t) → sumN f n ≤ n * t
  | 0, _ => Nat.zero_le _
  | n + 1, h => by
    have := sum_bd (n := n) fun u hu => h u (by omega)
    have := h n (by omega)
    show sumN f n + f n ≤ _
    rw [Nat.succ_mul]; omega
end
section
variable {g : Gm} {n : Nat} {mo : List Nat}
theorem least_exists (hE : RE g n) : ∃ f, LeastP g n mo f := by
  have key : ∀ (d : Nat) (f : Nat → Nat), Und g n mo f → n * topN mo - sumN f n ≤ d → ∃ f, LeastP g n mo f := by
    intro d
    induction d with
    | zero =>
      intro f hf hd
      refine ⟨f, hf.done hE fun v hv => ?_⟩
      by_cases h : needN g mo f v ≤ f v
      · exact h
      · exfalso
        have h1 := sum_lt (f := f) (f' := fun _ => topN mo) (n := n) (v := v) (fun u hu => hf.le hE hu) hv (by have := need_le hE (fun v hv => hf.le hE hv) hv (mo := mo) (f := f); omega)
        have h2 := sum_bd (f := fun _ => topN mo) (t := topN mo) (n := n) fun _ _ => Nat.le_refl _
        omega
    | succ d ih =>
      intro f hf hd
      by_cases h : ∃ v, v < n ∧ f v < needN g mo f v
      · obtain ⟨v, hv, hl⟩ := h
        refine ih _ (hf.raise hE hv) ?_
        have h1 := sum_lt (f := f) (f' := fun u => if u = v then needN g mo f v else f u) (n := n) (v := v) (fun u _ => by
          by_cases e : u = v
          · subst e; simp only [if_true]; omega
          · simp only [if_neg e]; omega) hv (by simpa using hl)
        omega
      · exact ⟨f, hf.done hE fun v hv => Nat.le_of_not_lt fun hl => h ⟨v, hv, hl⟩⟩
  exact key _ (fun _ => 0) Und.zero (Nat.le_refl _)
open Classical in
/-- The least progress measure, by numbers. -/
noncomputable def lfpF (g : Gm) (mo : List Nat) : Nat → Nat := if h : ∃ f, LeastP g g.owner.length mo f then h.choose else fun _ => 0
theorem lfp_is (hE : RE g g.owner.length) : LeastP g g.owner.length mo (lfpF g mo) := by
  unfold lfpF
  rw [dif_pos (least_exists hE)]
  exact (least_exists hE).choose_spec
theorem lfp_eq {f : Nat → Nat} (h : LeastP g g.owner.length mo f) {v : Nat} (hv : v < g.owner.length) : lfpF g mo v = f v := by
  unfold lfpF
  have hx : ∃ f, LeastP g g.owner.length mo f := ⟨f, h⟩
  rw [dif_pos hx]
  exact hx.choose_spec.uniq h hv
end

/-! Views. -/
def highG (g : Gm) : Int := g.prio.foldl max 0
/-- How many positions have the odd priority 2k+1. -/
def cntP (g : Gm) (k : Nat) : Nat := (g.prio.filter fun x => decide (x = ((2 * k + 1 : Nat) : Int))).length
def moG (g : Gm) : List Nat := (List.range (partN (highG g).toNat)).map (cntP g)
theorem foldMax : ∀ (l : List Int) (m : Int), m ≤ l.foldl max m ∧ (∀ x ∈ l, x ≤ l.foldl max m) ∧ (l.foldl max m = m ∨ l.foldl max m ∈ l) := by
  intro l
  induction l with
  | nil => intro m; exact ⟨Int.le_refl _, (fun x hx => by cases hx), .inl rfl⟩
  | cons y l ih =>
    intro m
    obtain ⟨h1, h2, h3⟩ := ih (max m y)
    rw [List.foldl_cons]
    generalize l.foldl max (max m y) = M at *
    refine ⟨by omega, fun x hx => ?_, ?_⟩
    · rcases List.mem_cons.1 hx with e | hx
      · subst e; omega
      · exact h2 x hx
    · rcases h3 with h3 | h3
      · by_cases hc : y ≤ m
        · exact .inl (by omega)
        · exact .inr (by rw [show M = y by omega]; exact List.mem_cons_self)
      · exact .inr (List.mem_cons_of_mem _ h3)
theorem high_ge {g : Gm} {x : Int} (h : x ∈ g.prio) : x ≤ highG g := (foldMax g.prio 0).2.1 x h
theorem high_nn (g : Gm) : 0 ≤ highG g := (foldMax g.prio 0).1
theorem high_in (g : Gm) : highG g = 0 ∨ highG g ∈ g.prio := (foldMax g.prio 0).2.2
theorem mo_len (g : Gm) : (moG g).length = partN (highG g).toNat := by simp [moG]
theorem mo_at {g : Gm} {k : Nat} (h : k < (moG g).length) : (moG g).getD k 0 = cntP g k := by
  have : k < partN (highG g).toNat := by rw [← mo_len]; exact h
  simp [moG, List.getD, this]
/-- The work, and one more than the limit where it is too great. -/
def workN (n : Nat) (mo : List Nat) : Nat := if 2000000 < n * unitL mo then 2000001 else n * unitL mo
/-- What the functions compute of the view. -/
noncomputable def measV (w : Gm) : List (List Int) × Int := if 2000000 < workN w.owner.length (moG w) then ([], 2) else ((List.range w.owner.length).map fun v => digL (moG w) (lfpF w (moG w) v), 0)
def pmB (w : Gm) (m : List (List Int)) : Bool := decide (m.length = w.owner.length) && m.all (meB (moG w)) && (List.range w.owner.length).all fun v => decide (needN w (moG w) (fun u => cdN (moG w) (m.getD u [])) v ≤ cdN (moG w) (m.getD v []))
/-- The first one of a list where a function is least. -/
def bestI (f : Nat → Nat) (l : List Int) : Int := l.foldl (fun b x => if f x.toNat < f b.toNat then x else b) (l.getD 0 0)
def choV (w : Gm) (m : List (List Int)) : List Int := (List.range w.owner.length).map fun v => if own w v = 0 ∧ m.getD v [] ≠ [] then bestI (fun u => cdN (moG w) (m.getD u [])) (w.succ.getD v []) else -1

end Go.Proofs.Ytijkjhcigdfdgaa
