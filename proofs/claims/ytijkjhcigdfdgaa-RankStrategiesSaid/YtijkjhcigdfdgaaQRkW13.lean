/- A measure as it is written. -/
import Derived.Test.YtijkjhcigdfdgaaQRkW12
namespace Go.Proofs.Ytijkjhcigdfdgaa
open Go.RowKit

/-- The last numbers of a measure; zeros ahead of them. -/
def digRow (mo : List Nat) (c k : Nat) : List Int := (List.range mo.length).map fun j => if j < k then 0 else (digN mo c j : Int)
section
variable {mo : List Nat} {c k : Nat}
theorem digRow_len : (digRow mo c k).length = mo.length := by simp [digRow]
theorem digRow_zero : List.replicate mo.length 0 = digRow mo c mo.length := by
  apply List.ext_getElem (by simp [digRow])
  intro i h1 h2
  have : i < mo.length := by simpa using h1
  simp [digRow, this]
theorem digRow_step : (digRow mo c (k + 1)).set k ((c / unitN mo (k + 1) % (mo.getD k 0 + 1) : Nat) : Int) = digRow mo c k := by
  apply List.ext_getElem (by simp [digRow])
  intro i h1 h2
  rw [List.getElem_set]
  simp only [digRow, List.getElem_map, List.getElem_range]
  by_cases e : k = i
  · subst e; rw [if_pos rfl, if_neg (by omega)]; rfl
  · rw [if_neg e]
    by_cases h3 : i < k
    · rw [if_pos h3, if_pos (by omega)]
    · rw [if_neg h3, if_neg (by omega)]
theorem digRow_end (h : mo ≠ []) (hc : c ≠ topN mo) : digRow mo c 0 = digL mo c := by
  unfold digRow digL
  rw [if_neg hc, if_neg h]
  simp
theorem dig_div (hk : k < mo.length) : c / unitN mo (k + 1) / (mo.getD k 0 + 1) = c / unitN mo k := by
  rw [unit_step hk, Nat.mul_comm, ← Nat.div_div_eq_div_mul]
theorem div_end : c / unitN mo mo.length = c := by rw [unit_end (Nat.le_refl _), Nat.div_one]
end

set_option maxRecDepth 100000 in
set_option maxHeartbeats 4000000 in
theorem write_c (w : World) (z : Nat) (v0 v1 v2 v3 vu va vb : Value) (mo : List Nat) (c : Nat) (hz : w.heap[z]? = some (.cells #[v0, v1, v2, v3, vu, va, vb] 57 (0, 0))) (hU : IsInts w vu (unitsL mo)) (hM : IsInts w v3 (castM mo)) (hb : ∀ k, mo.getD k 0 ≤ 3000) (hl : mo.length ≤ 15001) (hT : topN mo ≤ 2000000) (hc : c ≤ topN mo) :
    Calls Try.prog 37 #[.pointer (some ⟨z, 0, none⟩), .int .i64 (c : Int)] w (NewSet (digL mo c) w) := by
  have hzl := (Array.getElem?_eq_some_iff.1 hz).1
  have HTC : Hid (∀ W, Below w.heap.size w W → Calls Try.prog 54 #[.pointer (some ⟨z, 0, none⟩)] W (Quiet (.int .i64 (topN mo : Int)) W)) := fun W h => top_c W z v0 v1 v2 v3 vu va vb mo ((h.block _ hzl).trans hz) (hU.below h)
  by_cases hct : c = topN mo
  · have HE : Hid (digL mo c = []) := by show _ = _; unfold digL; rw [if_pos hct]
    have t1 : ((c : Int) == (topN mo : Int)) = true := by rw [beq_iff_eq]; omega
    clear hU hM hz hct
    generalize digL mo c = res at *
    generalize topN mo = t at *
    go_enter Try.func37, Try.ntmps37
    go_wp2_with fail
    refine (HTC.out _ (Below.refl _ _)).mono ?_
    rintro e w1 ⟨rfl, n1, rfl⟩
    go_wp2
    go_ret
    exact ⟨_, rfl, by rw [HE.out]; exact OI_nil _ _, below_draws _ _ _⟩
  have t1 : ((c : Int) == (topN mo : Int)) = false := by rw [beq_eq_false_iff_ne]; omega
  obtain ⟨a3, c3, rfl⟩ := hM.shape
  obtain ⟨b3, o3, d3, n3, f3⟩ := hM.dat
  rw [castM_len] at d3 n3 f3 hz
  have q3 := cell_of_row _ _ 3 _ _ _ hz
  by_cases h0 : mo = []
  · subst h0
    have HE : Hid (digL [] c = [0]) := by show _ = _; unfold digL; rw [if_neg hct, if_pos rfl]
    clear hU hM hz hct d3 f3 n3 hb
    have q3 : w.cell? ⟨z, 3, none⟩ = some (.slice a3 0 c3) := q3
    generalize digL [] c = res at *
    generalize topN [] = t at *
    go_enter Try.func37, Try.ntmps37
    go_wp2_with fail
    refine (HTC.out _ (Below.refl _ _)).mono ?_
    rintro e w1 ⟨rfl, n1, rfl⟩
    go_upto_region 4 with (at_make; refine mk_int rfl _ _ _ Try.underlying22 rfl w.heap.size 1 1 rfl rfl rfl (by omega) (Nat.le_refl _) ?_; intro w2 hown2 hg2)
    have hB2 : Below w.heap.size w w2 := (below_draws _ _ n1).grown hg2 (Nat.le_refl _) (fun k hk => by cases hk)
    have q3' := cellB hB2 q3
    have HW2 := Lib.hid hB2
    clear hB2
    go_wp2_with fail
    go_loopg [1, 6] 0 (fun gh m i wr => gh = 0 ∧ m = .int .i64 (c : Int) ∧ i = .int .i64 (-1) ∧ wr = w2)
    case atStart => exact ⟨rfl, rfl, rfl, rfl⟩
    case round =>
      obtain ⟨rfl, rfl, rfl, rfl⟩ := hrel
      go_wp2
      go_ret
      exact ⟨_, rfl, by rw [HE.out]; exact hown2, HW2.out⟩
  · have hml : 0 < mo.length := List.length_pos_iff.2 h0
    obtain rfl := d3 hml
    have HE : Hid (digRow mo c 0 = digL mo c) := digRow_end h0 hct
    have HF : Hid (∀ j, j < mo.length → w.cell? ⟨b3, o3 + j, none⟩ = some (.int .i64 (mo.getD j 0 : Int))) := fun j hj => by rw [f3 j hj, castM_get hj]
    have hb3 : b3 < w.heap.size := World.block_lt_of_cell? w _ (HF.out 0 hml)
    have HD : Hid (c / unitN mo mo.length = c) := div_end
    have HST : Hid (∀ k, k < mo.length → c / unitN mo (k + 1) / (mo.getD k 0 + 1) = c / unitN mo k) := fun k hk => dig_div hk
    have HRS : Hid (∀ k, (digRow mo c (k + 1)).set k ((c / unitN mo (k + 1) % (mo.getD k 0 + 1) : Nat) : Int) = digRow mo c k) := fun k => digRow_step
    have HBD : Hid (∀ k, c / unitN mo k ≤ 2000000) := fun k => Nat.le_trans (Nat.div_le_self _ _) (by omega)
    have HMB : Hid (∀ k, mo.getD k 0 ≤ 3000) := hb
    have HZR : Hid (List.replicate mo.length 0 = digRow mo c mo.length) := digRow_zero
    have HLN : Hid (∀ k, (digRow mo c k).length = mo.length) := fun k => digRow_len
    clear hU hM hz hct f3 hb h0 d3
    generalize digL mo c = res at *
    generalize topN mo = t at *
    have hdl : ∀ k, (digRow mo c k).length = mo.length := fun k => digRow_len
    clear hdl
    generalize mo.length = n at *
    have n1 : ¬ (n : Int) < 1 := by omega
    have n2 : 1 ≤ n := hml
    go_enter Try.func37, Try.ntmps37
    go_wp2_with fail
    refine (HTC.out _ (Below.refl _ _)).mono ?_
    rintro e w1 ⟨rfl, nd, rfl⟩
    go_upto_region 3 with (fail)
    go_cut [5] (fun v5 wx => v5 = .slice (some ⟨w.heap.size, 0, none⟩) n n ∧ Hid (OI wx w.heap.size (.slice (some ⟨w.heap.size, 0, none⟩) n n) (digRow mo c n)) ∧ Hid (Below w.heap.size w wx))
    case first =>
      have HBD : Hid (∀ w2, (w.drewN nd).grownBy w2 none → Below w.heap.size w w2) := fun w2 hg2 => (below_draws _ _ nd).grown hg2 (Nat.le_refl _) (fun k hk => by cases hk)
      go_wp2_with (at_make; refine mk_int rfl _ _ _ Try.underlying22 rfl w.heap.size (if 1 < (n : Int) then (n : Int) else 1) n rfl rfl (by split <;> omega) (by omega) (Nat.le_refl _) ?_; intro w2 hown2 hg2)
      all_goals
        go_meet
        case rel => exact ⟨by congr 1 <;> first | rfl | omega, by show OI _ _ _ _; rw [← HZR.out]; exact hown2, HBD.out _ hg2⟩
    case rest =>
    obtain ⟨rfl, HOW, HW2⟩ := hcut
    have q3' := cellB HW2.out q3
    go_wp2_with fail
    go_loopg [1, 6] n (fun (gh : Nat) m i wr => ∃ (k : Nat) (iz : Int), k = gh ∧ m = .int .i64 ((c / unitN mo k : Nat) : Int) ∧ i = .int .i64 iz ∧ Hid (iz = (k : Int) - 1) ∧ k ≤ n ∧ Hid (OI wr w.heap.size (.slice (some ⟨w.heap.size, 0, none⟩) n n) (digRow mo c k)) ∧ Hid (Below w.heap.size w wr))
    case atStart => exact ⟨n, _, rfl, by rw [HD.out], rfl, rfl, Nat.le_refl _, HOW, HW2⟩
    case round =>
      obtain ⟨k, iz, rfl, rfl, rfl, HIZ, hk, HO, HB⟩ := hrel
      have q3r := cellB HB.out q3
      cases k with
      | zero =>
        obtain rfl : iz = -1 := by have := HIZ.out; omega
        go_wp2
        go_ret
        exact ⟨_, rfl, by rw [← HE.out]; exact HO.out, HB.out⟩
      | succ k =>
        obtain rfl : iz = (k : Int) := by have := HIZ.out; omega
        have e3 := cellB HB.out (HF.out k (by omega))
        have hfz := HO.out.fz (HLN.out _).symm k
        have hce := HO.out.at' (HLN.out _).symm k (by rw [HLN.out]; omega)
        have HS := Lib.hid (HST.out k (by omega))
        have HR := Lib.hid (HRS.out k)
        have hm0 := HBD.out (k + 1)
        have hx0 := HMB.out k
        have k1 : (k : Int) < (n : Int) := by omega
        generalize c / unitN mo (k + 1) = m at *
        generalize mo.getD k 0 = x at *
        have m1 : Int.tmod (m : Int) ((x : Int) + 1) = ((m % (x + 1) : Nat) : Int) := by rw [Int.tmod_eq_emod_of_nonneg (by omega)]; rfl
        have m1' : (m : Int) % ((x : Int) + 1) = ((m % (x + 1) : Nat) : Int) := rfl
        have m2 : Int.tdiv (m : Int) ((x : Int) + 1) = ((m / (x + 1) : Nat) : Int) := by rw [Int.tdiv_eq_ediv_of_nonneg (by omega)]; rfl
        have m2' : (m : Int) / ((x : Int) + 1) = ((m / (x + 1) : Nat) : Int) := rfl
        have m3 : ¬ (x : Int) + 1 = 0 := by omega
        have hq : m / (x + 1) ≤ 2000000 := Nat.le_trans (Nat.div_le_self _ _) hm0
        have hr : m % (x + 1) ≤ 3000 := by have := Nat.mod_lt m (show 0 < x + 1 by omega); omega
        generalize m % (x + 1) = r at *
        generalize m / (x + 1) = q at *
        go_wp2
        go_roundg k
        case measure => omega
        case rel => exact ⟨k, _, rfl, by rw [HS.out], rfl, rfl, by omega, by show OI _ _ _ _; rw [← HR.out]; exact HO.out.set (HLN.out _).symm k _, HB.out.trans ((Only.set (S := fun g => g = w.heap.size) w.heap.size k _ rfl).below _ (fun g e => by omega) HB.out.size)⟩

end Go.Proofs.Ytijkjhcigdfdgaa
