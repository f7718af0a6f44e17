/- The climb: its greatest measure, and the least one along another one. The least and the greatest of successors' measures (plain). -/
import Derived.Test.YtijkjhcigdfdgaaQRkW10
namespace Go.Proofs.Ytijkjhcigdfdgaa
open Go.RowKit

/-- The units of a game's measures, as they lie in memory. -/
def unitsL (mo : List Nat) : List Int := (List.range (mo.length + 1)).map fun i => (unitN mo i : Int)
theorem units_len (mo : List Nat) : (unitsL mo).length = mo.length + 1 := by simp [unitsL]
theorem units_at {mo : List Nat} {i : Nat} (h : i ≤ mo.length) : (unitsL mo).getD i 0 = (unitN mo i : Int) := by simp [unitsL, List.getD, show i < mo.length + 1 by omega]

set_option maxRecDepth 100000 in
theorem top_c (w : World) (z : Nat) (v0 v1 v2 v3 vu va vb : Value) (mo : List Nat) (hz : w.heap[z]? = some (.cells #[v0, v1, v2, v3, vu, va, vb] 57 (0, 0))) (hU : IsInts w vu (unitsL mo)) :
    Calls Try.prog 54 #[.pointer (some ⟨z, 0, none⟩)] w (Quiet (.int .i64 (topN mo : Int)) w) := by
  obtain ⟨au, cu, rfl⟩ := hU.shape
  obtain ⟨bu, ou, du, nu, fu⟩ := hU.dat
  have hl := units_len mo
  obtain rfl := du (by omega)
  have c0 := fu 0 (by omega)
  rw [Nat.add_zero, units_at (Nat.zero_le _)] at c0
  have q4 := cell_of_row _ _ 4 _ _ _ hz
  have t0 : (0 : Int) < ((unitsL mo).length : Int) := by omega
  have t1 : 0 < (unitsL mo).length := by omega
  have HT : Hid (unitN mo 0 = topN mo) := rfl
  generalize unitN mo 0 = t at *
  clear hU hz fu du hl
  generalize (unitsL mo).length = n at *
  go_enter Try.func54, Try.ntmps54
  go_wp2
  go_ret
  exact ⟨by rw [← HT.out]; rfl, 0, rfl⟩

set_option maxRecDepth 100000 in
theorem calong_c (w : World) (z : Nat) (v0 v1 v2 v3 vu va vb : Value) (mo : List Nat) (c p : Nat) (hz : w.heap[z]? = some (.cells #[v0, v1, v2, v3, vu, va, vb] 57 (0, 0))) (hU : IsInts w vu (unitsL mo)) (hT : topN mo ≤ 2000000) (hc : c ≤ topN mo) (hp : p ≤ 30001) (hpp : partN p ≤ mo.length) :
    Calls Try.prog 53 #[.pointer (some ⟨z, 0, none⟩), .int .i64 (c : Int), .int .i64 (p : Int)] w (Quiet (.int .i64 (alongN mo c p : Int)) w) := by
  have HTC : Hid (∀ W, Below w.heap.size w W → Calls Try.prog 54 #[.pointer (some ⟨z, 0, none⟩)] W (Quiet (.int .i64 (topN mo : Int)) W)) := fun W h => top_c W z v0 v1 v2 v3 vu va vb mo ((h.block _ (Array.getElem?_eq_some_iff.1 hz).1).trans hz) (hU.below h)
  have HPC : Hid (∀ W, Calls Try.prog 50 #[.int .i64 (p : Int)] W (Quiet (.int .i64 (partN p : Int)) W)) := fun W => rpart_c W p (by omega)
  by_cases hct : c = topN mo
  · have HE : Hid (alongN mo c p = c) := by show _ = _; unfold alongN; rw [if_pos hct]
    have t1 : ((c : Int) == (topN mo : Int)) = true := by rw [beq_iff_eq]; omega
    clear hU hz hct
    generalize topN mo = t at *
    go_enter Try.func53, Try.ntmps53
    go_wp2_with fail
    refine (HTC.out _ (Below.refl _ _)).mono ?_
    rintro e w1 ⟨rfl, n1, rfl⟩
    go_wp2
    go_ret
    exact ⟨by rw [HE.out]; rfl, _, rfl⟩
  · have t1 : ((c : Int) == (topN mo : Int)) = false := by rw [beq_eq_false_iff_ne]; omega
    have HE : Hid (alongN mo c p = (c / unitN mo (partN p) + p % 2) * unitN mo (partN p)) := along_of (by omega)
    obtain ⟨au, cu, rfl⟩ := hU.shape
    obtain ⟨bu, ou, du, nu, fu⟩ := hU.dat
    have hl := units_len mo
    obtain rfl := du (by omega)
    have c0 := fu (partN p) (by omega)
    rw [units_at hpp] at c0
    have q4 := cell_of_row _ _ 4 _ _ _ hz
    have hup := unit_pos mo (partN p)
    have hut : unitN mo (partN p) ≤ topN mo := Nat.le_of_dvd (unit_pos mo 0) (unit_dv (Nat.zero_le _))
    have u0 : ((partN p : Nat) : Int) < ((unitsL mo).length : Int) := by omega
    have u1 : partN p < (unitsL mo).length := by omega
    clear fu du hl hct
    generalize unitN mo (partN p) = u at *
    generalize partN p = m at *
    generalize topN mo = t at *
    generalize (unitsL mo).length = n at *
    have hdm := Nat.div_add_mod c u
    have hmu : c % u < u := Nat.mod_lt _ hup
    have m1 : Int.tmod (c : Int) (u : Int) = ((c % u : Nat) : Int) := by rw [Int.tmod_eq_emod_of_nonneg (by omega)]; rfl
    have m2 : Int.tmod (p : Int) 2 = ((p % 2 : Nat) : Int) := by rw [Int.tmod_eq_emod_of_nonneg (by omega)]; omega
    have m3 : ¬ u = 0 := by omega
    have m4 : ¬ (u : Int) = 0 := by omega
    have HR : Hid ((c / u + p % 2) * u = c - c % u + p % 2 * u) := by
      show _ = _
      rw [Nat.add_mul, Nat.mul_comm (c / u) u]; omega
    generalize c % u = r at *
    go_enter Try.func53, Try.ntmps53
    go_wp2_with fail
    refine (HTC.out _ (Below.refl _ _)).mono ?_
    rintro e w1 ⟨rfl, n1, hw1⟩
    have HB1 : Hid (Below w.heap.size w w1) := by show Below _ _ _; rw [hw1]; exact below_draws _ _ _
    have HW1 := Lib.hid hw1
    clear hw1 hU hz
    replace q4 := cellB HB1.out q4
    replace c0 := cellB HB1.out c0
    go_upto_region 3 with (fail)
    go_quiet ((go_at_call 50; refine (HPC.out _).mono ?_; rintro e w' ⟨rfl, n', rfl⟩; exact ⟨rfl, _, by rw [World.drewN_drewN]⟩))
    by_cases ho : p % 2 = 1
    · have HV : Hid ((alongN mo c p : Int) = (c : Int) - (r : Int) + (u : Int)) := by
        show _ = _
        rw [HE.out, HR.out, ho]; omega
      rw [ho] at m2
      clear ho HR HE
      go_wp2
      go_ret
      exact ⟨by rw [HV.out]; rfl, _, by rw [HW1.out, World.drewN_drewN]⟩
    · have ho : p % 2 = 0 := by omega
      have HV : Hid ((alongN mo c p : Int) = (c : Int) - (r : Int)) := by
        show _ = _
        rw [HE.out, HR.out, ho]; omega
      rw [ho] at m2
      clear ho HR HE
      go_wp2
      go_ret
      exact ⟨by rw [HV.out]; rfl, _, by rw [HW1.out, World.drewN_drewN]⟩

end Go.Proofs.Ytijkjhcigdfdgaa

namespace Go.Proofs.Ytijkjhcigdfdgaa

theorem best_min (f : Nat → Nat) (l : List Int) : f (bestI f l).toNat = minF f l := by
  have key : ∀ (t : List Int) (b : Int), t.foldl (fun m x => min m (f x.toNat)) (f b.toNat) = f (t.foldl (fun b x => if f x.toNat < f b.toNat then x else b) b).toNat := by
    intro t
    induction t with
    | nil => intro b; rfl
    | cons x t ih =>
      intro b
      show t.foldl _ (min (f b.toNat) (f x.toNat)) = f (t.foldl _ (if f x.toNat < f b.toNat then x else b)).toNat
      rw [← ih]
      congr 1
      split <;> omega
  unfold bestI minF
  rw [← key]
/-- The greatest one, from a number on. -/
def maxK (f : Nat → Nat) (a : Nat) (l : List Int) : Nat := l.foldl (fun m x => max m (f x.toNat)) a
theorem maxK_spec (f : Nat → Nat) : ∀ (l : List Int) (a : Nat), a ≤ maxK f a l ∧ (∀ x ∈ l, f x.toNat ≤ maxK f a l) ∧ (maxK f a l = a ∨ ∃ x ∈ l, maxK f a l = f x.toNat)
  | [], a => ⟨Nat.le_refl _, fun x hx => by simp at hx, .inl rfl⟩
  | y :: l, a => by
    obtain ⟨h1, h2, h3⟩ := maxK_spec f l (max a (f y.toNat))
    have e : maxK f a (y :: l) = maxK f (max a (f y.toNat)) l := rfl
    rw [e]
    refine ⟨by omega, fun x hx => ?_, ?_⟩
    · rcases List.mem_cons.1 hx with rfl | h
      · omega
      · exact h2 x h
    · rcases h3 with h | ⟨x, hx, h⟩
      · by_cases hc : a ≤ f y.toNat
        · exact .inr ⟨y, List.mem_cons_self, by omega⟩
        · exact .inl (by omega)
      · exact .inr ⟨x, List.mem_cons_of_mem _ hx, h⟩
theorem maxK_min {f : Nat → Nat} {l : List Int} (h : l ≠ []) : maxK f (minF f l) l = maxF f l := by
  obtain ⟨h1, h2, h3⟩ := maxK_spec f l (minF f l)
  obtain ⟨⟨x, hx, ex⟩, h4⟩ := maxF_spec (f := f) h
  obtain ⟨⟨y, hy, ey⟩, h5⟩ := minF_spec (f := f) h
  have a1 := h2 x hx
  have a2 := h4 y hy
  rcases h3 with h | ⟨u, hu, h⟩
  · omega
  · have := h4 u hu; omega
theorem maxK_take (f : Nat → Nat) (a : Nat) {l : List Int} {k : Nat} (hk : k < l.length) : maxK f a (l.take (k + 1)) = max (maxK f a (l.take k)) (f (l.getD k 0).toNat) := by
  rw [List.take_succ_eq_append_getElem hk, ← getD_lt _ 0 _ hk]
  unfold maxK
  rw [List.foldl_append]; rfl

end Go.Proofs.Ytijkjhcigdfdgaa
