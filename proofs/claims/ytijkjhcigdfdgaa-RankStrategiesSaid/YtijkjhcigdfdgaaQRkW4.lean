/- Measures: which lists are one; along. -/
import Derived.Test.YtijkjhcigdfdgaaQRkW2
namespace Go.Proofs.Ytijkjhcigdfdgaa
open Go.RowKit

set_option maxRecDepth 100000 in
theorem meas_c (w : World) (v va : Value) (g : Gm) (mo : List Nat) (l : List Int) (hv : IsView w v g mo) (ha : IsInts w va l) :
    Calls Try.prog 59 #[v, va] w (Calm (.bool (meB mo l)) w) := by
  obtain ⟨v0, v1, v2, vm, rfl, hg, hI⟩ := hv
  obtain ⟨am, cm, rfl⟩ := hI.shape
  obtain ⟨bM, oM, hdM, hmM, hVM⟩ := hI.dat
  obtain ⟨aa, ca, rfl⟩ := ha.shape
  obtain ⟨bA, oA, hdA, hmA, hVA⟩ := ha.dat
  have HV := Lib.hid hVM
  have HA := Lib.hid hVA
  have HL : Hid ((castM mo).length = mo.length) := castM_len mo
  rw [HL.out] at hdM hmM HV ⊢
  clear hg hI hVM hVA ha
  have hB : Below w.heap.size w (w.alloc (.cells #[v0, v1, v2, .slice am mo.length cm] 49)) := (by repeat (first | exact Below.refl _ _ | assumption | (refine belA ?_ _) | (refine belD ?_ _)))
  go_enter Try.func59, Try.ntmps59
  by_cases hl : l.length = 0
  · have t1 : ((l.length : Int) == 0) = true := by rw [beq_iff_eq]; omega
    have e : meB mo l = true := meB_iff.2 (.inl (List.length_eq_zero_iff.1 hl))
    clear hl
    go_wp2
    go_ret
    exact ⟨ret_bool e.symm, hB⟩
  have t1 : ((l.length : Int) == 0) = false := by rw [beq_eq_false_iff_ne]; omega
  have hl' : 0 < l.length := by omega
  have hnl : l ≠ [] := fun e => hl (by rw [e]; rfl)
  have HNL := Lib.hid hnl
  obtain rfl := hdA hl'
  have c0 := cellB hB (HA.out 0 hl')
  rw [Nat.add_zero] at c0
  have hl2 : (0 : Int) < (l.length : Int) := by omega
  clear hl hnl hdA
  by_cases hm : mo.length = 0
  · have t2 : ((mo.length : Int) == 0) = true := by rw [beq_iff_eq]; omega
    have HM : Hid (mo = []) := List.length_eq_zero_iff.1 hm
    clear hm
    by_cases h1 : l.length = 1
    · have t3 : ((l.length : Int) == 1) = true := by rw [beq_iff_eq]; omega
      have e : meB mo l = (l.getD 0 0 == 0) := by
        have h2 : l = [l.getD 0 0] := by
          cases l with
          | nil => simp at h1
          | cons x l => simp at h1; subst h1; rfl
        rw [Bool.eq_iff_iff, meB_iff]
        simp only [beq_iff_eq]
        constructor
        · rintro (h | ⟨-, h⟩ | ⟨h, -⟩)
          · exact absurd h HNL.out
          · rw [h]; rfl
          · exact absurd HM.out h
        · intro h
          exact .inr (.inl ⟨HM.out, by rw [h2, h]⟩)
      have HE := Lib.hid e
      clear e h1
      generalize l.getD 0 0 = z at *
      go_wp2
      go_ret
      exact ⟨ret_bool HE.out.symm, hB⟩
    · have t3 : ((l.length : Int) == 1) = false := by rw [beq_eq_false_iff_ne]; omega
      have e : meB mo l = false := by
        rw [Bool.eq_false_iff, ne_eq, meB_iff]
        rintro (h | ⟨-, h⟩ | ⟨h, -⟩)
        · exact HNL.out h
        · rw [h] at h1; exact h1 rfl
        · exact h HM.out
      have HE := Lib.hid e
      clear e h1
      go_wp2
      go_ret
      exact ⟨ret_bool HE.out.symm, hB⟩
  have t2 : ((mo.length : Int) == 0) = false := by rw [beq_eq_false_iff_ne]; omega
  have HMN : Hid (mo ≠ []) := fun e => hm (by rw [e]; rfl)
  by_cases h1 : l.length = mo.length
  · have t3 : ((l.length : Int) != (mo.length : Int)) = false := by simp; omega
    have H1 := Lib.hid h1
    obtain rfl := hdM (by omega)
    clear h1 hm c0
    go_wp2
    go_loopg [31] l.length (fun gh i wr => ∃ k : Nat, gh = l.length - k ∧ i = .int .i64 (k : Int) ∧ k ≤ l.length ∧ Hid (∀ j, j < k → 0 ≤ l.getD j 0 ∧ l.getD j 0 ≤ (mo.getD j 0 : Int)) ∧ wr = w.alloc (.cells #[v0, v1, v2, .slice (some ⟨bM, oM, none⟩) mo.length cm] 49))
    case atStart => exact ⟨0, rfl, rfl, by omega, fun j hj => by omega, rfl⟩
    case round =>
      obtain ⟨k, hgk, rfl, hk, HD, rfl⟩ := hrel
      have HGK := Lib.hid hgk
      clear hgk
      by_cases hlt : k < l.length
      · have hk1 : (k : Int) < (l.length : Int) := by omega
        have hk2 : (k : Int) < (mo.length : Int) := by have := H1.out; omega
        have hk3 : k < mo.length := by have := H1.out; omega
        have c1 := cellB hB (HA.out k hlt)
        have c2 := cellB hB (HV.out k hk3)
        rw [castM_get hk3] at c2
        have HX : Hid ((0 ≤ l.getD k 0 ∧ l.getD k 0 ≤ (mo.getD k 0 : Int)) → ∀ j, j < k + 1 → 0 ≤ l.getD j 0 ∧ l.getD j 0 ≤ (mo.getD j 0 : Int)) := fun h j hj => by
          rcases Nat.lt_or_eq_of_le (Nat.le_of_lt_succ hj) with h2 | h2
          · exact HD.out j h2
          · rw [h2]; exact h
        have HF : Hid (¬ (0 ≤ l.getD k 0 ∧ l.getD k 0 ≤ (mo.getD k 0 : Int)) → meB mo l = false) := fun h => by
          rw [Bool.eq_false_iff, ne_eq, meB_iff]
          rintro (h' | ⟨h', -⟩ | ⟨-, -, h'⟩)
          · exact HNL.out h'
          · exact HMN.out h'
          · exact h (h' k hk3)
        generalize l.getD k 0 = x at *
        generalize mo.getD k 0 = y at *
        by_cases hx0 : x < 0
        · have u1 : decide (x < 0) = true := decide_eq_true hx0
          have HE := Lib.hid (HF.out (by omega))
          go_wp2
          go_ret
          exact ⟨ret_bool HE.out.symm, hB⟩
        have u1 : decide (x < 0) = false := decide_eq_false hx0
        by_cases hxy : (y : Int) < x
        · have u2 : decide ((y : Int) < x) = true := decide_eq_true hxy
          have HE := Lib.hid (HF.out (by omega))
          go_wp2
          go_ret
          exact ⟨ret_bool HE.out.symm, hB⟩
        have u2 : decide ((y : Int) < x) = false := decide_eq_false hxy
        have HD2 := Lib.hid (HX.out ⟨by omega, by omega⟩)
        go_wp2
        go_roundg (l.length - (k + 1))
        case measure => have := HGK.out; omega
        case rel => exact ⟨k + 1, rfl, by go_num, by omega, HD2.out, rfl⟩
      · have hd : ¬ (k : Int) < (l.length : Int) := by omega
        have HE : Hid (meB mo l = true) := meB_iff.2 (.inr (.inr ⟨HMN.out, H1.out, fun i hi => HD.out i (by have := H1.out; omega)⟩))
        go_wp2
        go_ret
        exact ⟨ret_bool HE.out.symm, hB⟩
  · have t3 : ((l.length : Int) != (mo.length : Int)) = true := by simp; omega
    have e : meB mo l = false := by
      rw [Bool.eq_false_iff, ne_eq, meB_iff]
      rintro (h' | ⟨h', -⟩ | ⟨-, h', -⟩)
      · exact HNL.out h'
      · exact HMN.out h'
      · exact h1 h'
    have HE := Lib.hid e
    clear e h1 hm c0
    go_wp2
    go_ret
    exact ⟨ret_bool HE.out.symm, hB⟩

/-- What along returns. -/
def alB (a b : List Int) (p : Nat) : Bool := decide (b ≠ []) && decide (((p % 2 : Nat) : Int) ≤ cmpL (a.take (partN p)) (b.take (partN p)))
theorem IsInts.cut {w : World} {a : Option Addr} {n c m : Nat} {l : List Int} (h : IsInts w (.slice a n c) l) (hm : m ≤ n) : IsInts w (.slice a m c) (l.take m) := by
  obtain ⟨⟨a', c', b, o, hv, ha⟩, hI⟩ := h
  injection hv with h1 h2 h3
  subst h1 h2 h3
  have hl : (l.take m).length = m := by rw [List.length_take]; omega
  refine ⟨⟨a, c, b, o, by rw [hl], ⟨by rw [hl]; exact Nat.le_trans hm ha.lc, ha.cm, by rw [hl]; exact Nat.le_trans hm ha.nm, ha.nc, fun h => ha.ad (by omega), fun j hj => ?_⟩⟩, fun x hx => hI x (List.mem_of_mem_take hx)⟩
  rw [hl] at hj
  rw [ha.el j (by omega)]
  simp [ivF, List.getD, hj]
theorem IsInts.cap {w : World} {a : Option Addr} {n c : Nat} {l : List Int} (h : IsInts w (.slice a n c) l) : n ≤ c ∧ c ≤ maxLen := by
  obtain ⟨⟨a', c', b, o, hv, ha⟩, -⟩ := h
  injection hv with h1 h2 h3
  subst h1 h2 h3
  exact ⟨ha.lc, ha.cm⟩

set_option maxRecDepth 100000 in
theorem along_c (w : World) (va vb : Value) (la lb : List Int) (p : Nat) (ha : IsInts w va la) (hb : IsInts w vb lb) (hp : p ≤ 30001) (h1 : partN p ≤ la.length) (h2 : la ≠ []) (h3 : lb ≠ [] → partN p ≤ lb.length) :
    Calls Try.prog 72 #[va, vb, .int .i64 (p : Int)] w (Quiet (.bool (alB la lb p)) w) := by
  obtain ⟨aa, ca, rfl⟩ := ha.shape
  obtain ⟨ab, cb, rfl⟩ := hb.shape
  by_cases hl : lb.length = 0
  · have t1 : ((lb.length : Int) == 0) = true := by rw [beq_iff_eq]; omega
    have HE : Hid (alB la lb p = false) := by
      show _ = _
      unfold alB; rw [List.length_eq_zero_iff.1 hl]; rfl
    clear ha hb h1 h2 h3 hl
    go_enter Try.func72, Try.ntmps72
    go_wp2
    go_ret
    exact ⟨ret_bool HE.out.symm, 0, rfl⟩
  have t1 : ((lb.length : Int) == 0) = false := by rw [beq_eq_false_iff_ne]; omega
  have hnl : lb ≠ [] := fun e => hl (by rw [e]; rfl)
  have h3' := h3 hnl
  have HPC : Hid (∀ W, Calls Try.prog 50 #[.int .i64 (p : Int)] W (Quiet (.int .i64 (partN p : Int)) W)) := fun W => rpart_c W p (by omega)
  obtain ⟨b1, o1, e1, -, -⟩ := ha.dat
  obtain ⟨b2, o2, e2, -, -⟩ := hb.dat
  obtain rfl := e1 (by have := List.length_pos_iff.2 h2; omega)
  obtain rfl := e2 (by omega)
  obtain ⟨c1, c2⟩ := ha.cap
  obtain ⟨c3, c4⟩ := hb.cap
  have HC : Hid (∀ W, Below w.heap.size w W → Calls Try.prog 75 #[.slice (some ⟨b1, o1, none⟩) (partN p) ca, .slice (some ⟨b2, o2, none⟩) (partN p) cb] W (Quiet (.int .i64 (cmpL (la.take (partN p)) (lb.take (partN p)))) W)) := fun W h => compare_c _ _ _ _ _ ((ha.cut h1).below h) ((hb.cut h3').below h)
  have HE : Hid (alB la lb p = decide (((p % 2 : Nat) : Int) ≤ cmpL (la.take (partN p)) (lb.take (partN p)))) := by
    show _ = _
    unfold alB; rw [decide_eq_true hnl, Bool.true_and]
  have u1 : Int.tmod (p : Int) 2 = ((p % 2 : Nat) : Int) := by rw [Int.tmod_eq_emod_of_nonneg (by omega)]; omega
  have u2 : partN p ≤ ca := by omega
  have u3 : partN p ≤ cb := by omega
  have u4 : ((partN p : Nat) : Int) ≤ (ca : Int) := by omega
  have u5 : ((partN p : Nat) : Int) ≤ (cb : Int) := by omega
  clear ha hb h3 hl hnl h2 e1 e2
  generalize cmpL (la.take (partN p)) (lb.take (partN p)) = c at *
  generalize partN p = m at *
  generalize p % 2 = r at *
  go_enter Try.func72, Try.ntmps72
  go_wp2_with fail
  refine (HPC.out _).mono ?_
  rintro e w1 ⟨rfl, n1, hw1⟩
  have hB1 : Below w.heap.size w w1 := by rw [hw1]; exact below_draws _ _ _
  have HW1 := Lib.hid hw1
  clear hw1
  go_upto_region 4 with (fail)
  go_quiet ((go_at_call 75; refine (HC.out _ (by repeat (first | exact hB1 | refine belD ?_ _))).mono ?_; rintro e w' ⟨rfl, n, rfl⟩; exact ⟨rfl, _, by rw [World.drewN_drewN]⟩))
  go_wp2
  go_ret
  exact ⟨ret_bool HE.out.symm, _, by rw [HW1.out, World.drewN_drewN]⟩

end Go.Proofs.Ytijkjhcigdfdgaa
