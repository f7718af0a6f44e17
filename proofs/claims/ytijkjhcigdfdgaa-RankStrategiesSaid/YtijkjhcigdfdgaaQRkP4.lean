/- The least measure exists; views, bounds, work, and what the functions return (plain). Views in memory; part; games stay where a cell that holds no row is written. -/
import Derived.Test.YtijkjhcigdfdgaaQRkP3
namespace Go.Proofs.Ytijkjhcigdfdgaa

/-! Sums. -/
def sumN (f : Nat → Nat) : Nat → Nat
  | 0 => 0
  | n + 1 => sumN f n + f n
section
variable {f f' : Nat → Nat}
theorem sum_le : ∀ {n : Nat}, (∀ u, u < n → f u ≤ f' u) → sumN f n ≤ sumN f' n
  | 0, _ => Nat.le_refl _
  | n + 1, h => Nat.add_le_add (sum_le fun u hu => h u (by omega)) (h n (by omega))
theorem sum_lt : ∀ {n v : Nat}, (∀ u, u < n → f u ≤ f' u) → v < n → f v < f' v → sumN f n < sumN f' n
  | n + 1, v, h, hv, hl => by
    show sumN f n + f n < sumN f' n + f' n
    by_cases e : v = n
    · subst e
      have := sum_le (n := v) fun u hu => h u (by omega)
      omega
    · have := sum_lt (n := n) (v := v) (fun u hu => h u (by omega)) (by omega) hl
      have := h n (by omega)
      omega
theorem sum_bd {t : Nat} : ∀ {n : Nat}, (∀ u, u < n → f u ≤ t) → sumN f n ≤ n * t
  | 0, _ => Nat.zero_le _
  | n + 1, h => by
    have := sum_bd (n := n) fun u hu => h u (by omega)
    have := h n (by omega)
    show sumN f n + f n ≤ _
    rw [Nat.succ_mul]; omega
end
section
variable {g : Gm} {n : Nat} {mo : List Nat}
theorem least_exists (hE : RE g n) : ∃ f, LeastP g n mo f := by
  have key : ∀ (d : Nat) (f : Nat → Nat), Und g n mo f → n * topN mo - sumN f n ≤ d → ∃ f, LeastP g n mo f := by
    intro d
    induction d with
    | zero =>
      intro f hf hd
      refine ⟨f, hf.done hE fun v hv => ?_⟩
      by_cases h : needN g mo f v ≤ f v
      · exact h
      · exfalso
        have h1 := sum_lt (f := f) (f' := fun _ => topN mo) (n := n) (v := v) (fun u hu => hf.le hE hu) hv (by have := need_le hE (fun v hv => hf.le hE hv) hv (mo := mo) (f := f); omega)
        have h2 := sum_bd (f := fun _ => topN mo) (t := topN mo) (n := n) fun _ _ => Nat.le_refl _
        omega
    | succ d ih =>
      intro f hf hd
      by_cases h : ∃ v, v < n ∧ f v < needN g mo f v
      · obtain ⟨v, hv, hl⟩ := h
        refine ih _ (hf.raise hE hv) ?_
        have h1 := sum_lt (f := f) (f' := fun u => if u = v then needN g mo f v else f u) (n := n) (v := v) (fun u _ => by
          by_cases e : u = v
          · subst e; simp only [if_true]; omega
          · simp only [if_neg e]; omega) hv (by simpa using hl)
        omega
      · exact ⟨f, hf.done hE fun v hv => Nat.le_of_not_lt fun hl => h ⟨v, hv, hl⟩⟩
  exact key _ (fun _ => 0) Und.zero (Nat.le_refl _)
open Classical in
/-- The least progress measure, by numbers. -/
noncomputable def lfpF (g : Gm) (mo : List Nat) : Nat → Nat := if h : ∃ f, LeastP g g.owner.length mo f then h.choose else fun _ => 0
theorem lfp_is (hE : RE g g.owner.length) : LeastP g g.owner.length mo (lfpF g mo) := by
  unfold lfpF
  rw [dif_pos (least_exists hE)]
  exact (least_exists hE).choose_spec
theorem lfp_eq {f : Nat → Nat} (h : LeastP g g.owner.length mo f) {v : Nat} (hv : v < g.owner.length) : lfpF g mo v = f v := by
  unfold lfpF
  have hx : ∃ f, LeastP g g.owner.length mo f := ⟨f, h⟩
  rw [dif_pos hx]
  exact hx.choose_spec.uniq h hv
end

/-! Views. -/
def highG (g : Gm) : Int := g.prio.foldl max 0
/-- How many positions have the odd priority 2k+1. -/
def cntP (g : Gm) (k : Nat) : Nat := (g.prio.filter fun x => decide (x = ((2 * k + 1 : Nat) : Int))).length
def moG (g : Gm) : List Nat := (List.range (partN (highG g).toNat)).map (cntP g)
theorem foldMax : ∀ (l : List Int) (m : Int), m ≤ l.foldl max m ∧ (∀ x ∈ l, x ≤ l.foldl max m) ∧ (l.foldl max m = m ∨ l.foldl max m ∈ l) := by
  intro l
  induction l with
  | nil => intro m; exact ⟨Int.le_refl _, (fun x hx => by cases hx), .inl rfl⟩
  | cons y l ih =>
    intro m
    obtain ⟨h1, h2, h3⟩ := ih (max m y)
    rw [List.foldl_cons]
    generalize l.foldl max (max m y) = M at *
    refine ⟨by omega, fun x hx => ?_, ?_⟩
    · rcases List.mem_cons.1 hx with e | hx
      · subst e; omega
      · exact h2 x hx
    · rcases h3 with h3 | h3
      · by_cases hc : y ≤ m
        · exact .inl (by omega)
        · exact .inr (by rw [show M = y by omega]; exact List.mem_cons_self)
      · exact .inr (List.mem_cons_of_mem _ h3)
theorem high_ge {g : Gm} {x : Int} (h : x ∈ g.prio) : x ≤ highG g := (foldMax g.prio 0).2.1 x h
theorem high_nn (g : Gm) : 0 ≤ highG g := (foldMax g.prio 0).1
theorem high_in (g : Gm) : highG g = 0 ∨ highG g ∈ g.prio := (foldMax g.prio 0).2.2
theorem mo_len (g : Gm) : (moG g).length = partN (highG g).toNat := by simp [moG]
theorem mo_at {g : Gm} {k : Nat} (h : k < (moG g).length) : (moG g).getD k 0 = cntP g k := by
  have : k < partN (highG g).toNat := by rw [← mo_len]; exact h
  simp [moG, List.getD, this]
/-- The work, and one more than the limit where it is too great. -/
def workN (n : Nat) (mo : List Nat) : Nat := if 2000000 < n * unitL mo then 2000001 else n * unitL mo
/-- What the functions compute of the view. -/
noncomputable def measV (w : Gm) : List (List Int) × Int := if 2000000 < workN w.owner.length (moG w) then ([], 2) else ((List.range w.owner.length).map fun v => digL (moG w) (lfpF w (moG w) v), 0)
def pmB (w : Gm) (m : List (List Int)) : Bool := decide (m.length = w.owner.length) && m.all (meB (moG w)) && (List.range w.owner.length).all fun v => decide (needN w (moG w) (fun u => cdN (moG w) (m.getD u [])) v ≤ cdN (moG w) (m.getD v []))
/-- The first one of a list where a function is least. -/
def bestI (f : Nat → Nat) (l : List Int) : Int := l.foldl (fun b x => if f x.toNat < f b.toNat then x else b) (l.getD 0 0)
def choV (w : Gm) (m : List (List Int)) : List Int := (List.range w.owner.length).map fun v => if own w v = 0 ∧ m.getD v [] ≠ [] then bestI (fun u => cdN (moG w) (m.getD u [])) (w.succ.getD v []) else -1

end Go.Proofs.Ytijkjhcigdfdgaa

namespace Go.Proofs.Ytijkjhcigdfdgaa
open Go.RowKit

def castM (l : List Nat) : List Int := l.map Int.ofNat
theorem castM_len (l : List Nat) : (castM l).length = l.length := by simp [castM]
theorem castM_get {l : List Nat} {k : Nat} (hk : k < l.length) : (castM l).getD k 0 = ((l.getD k 0 : Nat) : Int) := by simp [castM, List.getD, hk]
/-- A view in memory. -/
def IsView (w : World) (v : Value) (g : Gm) (mo : List Nat) : Prop := ∃ v0 v1 v2 vm, v = .agg #[v0, v1, v2, vm] ∧ IsGame w (.agg #[v0, v1, v2]) g ∧ IsInts w vm (castM mo)
theorem IsView.below {w wr : World} {v : Value} {g : Gm} {mo : List Nat} (h : IsView w v g mo) (hb : Below w.heap.size w wr) : IsView wr v g mo := by
  obtain ⟨v0, v1, v2, vm, rfl, h1, h2⟩ := h
  exact ⟨v0, v1, v2, vm, rfl, h1.below hb, h2.below hb⟩
theorem IsInts.off {W : World} {v : Value} {l : List Int} (h : IsInts W v l) {z k : Nat} (hz : W.cell? ⟨z, k, none⟩ = some (.slice none 0 0)) (u : Value) : IsInts (W.setCell ⟨z, k, none⟩ u) v l := by
  obtain ⟨⟨ao, cap, b, off, rfl, h1, h2, h3, h4, h5, h6⟩, hI⟩ := h
  refine ⟨⟨ao, cap, b, off, rfl, h1, h2, h3, h4, h5, fun j hj => ?_⟩, hI⟩
  rw [World.cell?_setCell_other _ _ _ _ (fun e => ?_)]
  · exact h6 j hj
  · have h7 := h6 j hj
    have e2 : (⟨b, off + j, none⟩ : Addr) = ⟨z, k, none⟩ := by first | exact e | exact e.symm
    rw [e2, hz] at h7
    simp [ivF] at h7
theorem IsRows.off {W : World} {v : Value} {l : List (List Int)} (h : IsRows W v l) (hne : ∀ i, i < l.length → l.getD i [] ≠ []) {z k : Nat} (hz : W.cell? ⟨z, k, none⟩ = some (.slice none 0 0)) (u : Value) : IsRows (W.setCell ⟨z, k, none⟩ u) v l := by
  obtain ⟨V, ⟨ao, cap, b, off, rfl, h1, h2, h3, h4, h5, h6⟩, hR⟩ := h
  refine ⟨V, ⟨ao, cap, b, off, rfl, h1, h2, h3, h4, h5, fun j hj => ?_⟩, fun j hj => (hR j hj).off hz u⟩
  rw [World.cell?_setCell_other _ _ _ _ (fun e => ?_)]
  · exact h6 j hj
  · have h7 := h6 j hj
    have e2 : (⟨b, off + j, none⟩ : Addr) = ⟨z, k, none⟩ := by first | exact e | exact e.symm
    rw [e2, hz] at h7
    have h8 := Option.some.inj h7
    obtain ⟨⟨ao', cap', b', off', hv, g1, g2, g3, g4, g5, g6⟩, -⟩ := hR j hj
    have hpos : 0 < (l.getD j []).length := List.length_pos_iff.2 (hne j hj)
    rw [hv, g5 hpos] at h8
    simp at h8
theorem IsGame.off {W : World} {v : Value} {g : Gm} (h : IsGame W v g) (hne : ∀ i, i < g.succ.length → g.succ.getD i [] ≠ []) {z k : Nat} (hz : W.cell? ⟨z, k, none⟩ = some (.slice none 0 0)) (u : Value) : IsGame (W.setCell ⟨z, k, none⟩ u) v g := by
  obtain ⟨v0, v1, v2, rfl, h0, h1, h2⟩ := h
  exact ⟨v0, v1, v2, rfl, h0.off hz u, h1.off hz u, h2.off hne hz u⟩

set_option maxRecDepth 100000 in
theorem rpart_c (w : World) (k : Nat) (hk : k ≤ 40000) : Calls Try.prog 50 #[.int .i64 (k : Int)] w (Quiet (.int .i64 (partN k : Int)) w) := by
  have h2 : ((k : Int) + 1) / 2 = (partN k : Int) := by unfold partN; omega
  have h1 : Int.tdiv ((k : Int) + 1) 2 = (partN k : Int) := by rw [Int.tdiv_eq_ediv_of_nonneg (by omega)]; exact h2
  have hw : IntKind.i64.wrap (partN k : Int) = (partN k : Int) := IntWalk.i64_in _ ⟨by omega, by unfold partN; omega⟩
  generalize partN k = p at *
  go_enter Try.func50, Try.ntmps50
  go_wp2
  go_ret
  exact ⟨rfl, 0, rfl⟩

/-! How often each odd priority occurs. -/
/-- How often the odd priorities occur among the first j positions. -/
def mostL (pr : List Int) (pt j : Nat) : List Int := (List.range pt).map fun k => (((pr.take j).filter fun x => decide (x = ((2 * k + 1 : Nat) : Int))).length : Int)
theorem mostL_len (pr : List Int) (pt j : Nat) : (mostL pr pt j).length = pt := by simp [mostL]
theorem mostL_zero (pr : List Int) (pt : Nat) : List.replicate pt 0 = mostL pr pt 0 := by
  apply List.ext_getElem (by simp [mostL])
  intro i h1 h2
  simp [mostL]
theorem mostL_at {pr : List Int} {pt j k : Nat} (h : k < pt) : (mostL pr pt j).getD k 0 = (((pr.take j).filter fun x => decide (x = ((2 * k + 1 : Nat) : Int))).length : Int) := by simp [mostL, List.getD, h]
theorem mostL_bd {pr : List Int} {pt j k : Nat} (h : k < pt) : 0 ≤ (mostL pr pt j).getD k 0 ∧ (mostL pr pt j).getD k 0 ≤ (j : Int) := by
  rw [mostL_at h]
  have h1 := List.length_filter_le (fun x => decide (x = ((2 * k + 1 : Nat) : Int))) (pr.take j)
  have h2 := List.length_take_le j pr
  omega
theorem mostL_even {pr : List Int} {pt j x : Nat} (hj : j < pr.length) (hx : pr.getD j 0 = (x : Int)) (he : x % 2 = 0) : mostL pr pt (j + 1) = mostL pr pt j := by
  apply List.ext_getElem (by simp [mostL])
  intro i h1 h2
  simp only [mostL, List.getElem_map, List.getElem_range]
  rw [List.take_succ_eq_append_getElem hj, ← getD_lt _ 0 _ hj, hx, List.filter_append, List.length_append, List.filter_cons_of_neg (by simp; omega)]
  simp
theorem mostL_odd {pr : List Int} {pt j x : Nat} (hj : j < pr.length) (hx : pr.getD j 0 = (x : Int)) (ho : x % 2 = 1) : (mostL pr pt j).set (x / 2) ((mostL pr pt j).getD (x / 2) 0 + 1) = mostL pr pt (j + 1) := by
  apply List.ext_getElem (by simp [mostL])
  intro i h1 h2
  have hi : i < pt := by simpa [mostL] using h2
  have e : (mostL pr pt (j + 1))[i] = (mostL pr pt j).getD i 0 + if i = x / 2 then 1 else 0 := by
    rw [mostL_at hi]
    simp only [mostL, List.getElem_map, List.getElem_range]
    rw [List.take_succ_eq_append_getElem hj, ← getD_lt _ 0 _ hj, hx, List.filter_append, List.length_append]
    by_cases e : i = x / 2
    · rw [if_pos e, List.filter_cons_of_pos (by simp; omega)]; simp
    · rw [if_neg e, List.filter_cons_of_neg (by simp; omega)]; simp
  rw [e, List.getElem_set]
  by_cases e2 : x / 2 = i
  · rw [if_pos e2, if_pos e2.symm, e2]
  · rw [if_neg e2, if_neg (fun e => e2 e.symm), ← getD_lt _ 0 _ (by simpa [mostL] using hi)]; omega
theorem mostL_all (g : Gm) : mostL g.prio (partN (highG g).toNat) g.prio.length = castM (moG g) := by
  unfold mostL castM moG cntP
  rw [List.take_length, List.map_map]; rfl
/-- The view of a player. -/
def viewG (g : Gm) (p : Int) : Option Gm := if (p = 0 ∨ p = 1) ∧ validB g = true ∧ highG g ≠ 30000 then some (if p = 1 then swapG g else g) else none
theorem foldl_add1 : ∀ (l : List Int) (m : Int), (∀ x ∈ l, 0 ≤ x) → (l.map (· + 1)).foldl max (m + 1) = l.foldl max m + 1
  | [], _, _ => rfl
  | x :: l, m, h => by
    show (l.map (· + 1)).foldl max (max (m + 1) (x + 1)) = l.foldl max (max m x) + 1
    rw [show max (m + 1) (x + 1) = max m x + 1 by omega]
    exact foldl_add1 l _ fun y hy => h y (List.mem_cons_of_mem _ hy)
theorem swap_high {g : Gm} (h : g.prio ≠ []) (h0 : ∀ x ∈ g.prio, 0 ≤ x) : highG (swapG g) = highG g + 1 := by
  unfold highG swapG
  cases hg : g.prio with
  | nil => exact absurd hg h
  | cons x l =>
    have hx := h0 x (by rw [hg]; exact List.mem_cons_self)
    show (l.map (· + 1)).foldl max (max 0 (x + 1)) = l.foldl max (max 0 x) + 1
    rw [show max 0 (x + 1) = x + 1 by omega, show max 0 x = x by omega]
    exact foldl_add1 l x fun y hy => h0 y (by rw [hg]; exact List.mem_cons_of_mem _ hy)

end Go.Proofs.Ytijkjhcigdfdgaa
