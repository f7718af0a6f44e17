/- Whether an automaton is small. -/
import Derived.Test.YtdkpdpcecjcmcaaRd29
namespace Go.Proofs.Ytdkpdpcecjcmcaa
open Go.RowKit

def fewA (a : Au) : Bool := decide (a.letters ≤ 12) && decide (a.next.length ≤ 14) && decide (a.prio.length ≤ 14) && (List.range a.next.length).all (fun k => decide ((a.next.getD k []).length ≤ 12)) && (List.range a.prio.length).all (fun k => decide ((a.prio.getD k []).length ≤ 12))

set_option maxRecDepth 100000 in
set_option maxHeartbeats 4000000 in
theorem Few_c (w : World) (va : Value) (a : Au) (ha : IsAuto w va a) : Calls Try.prog 11 #[va] w (Calm (.bool (fewA a)) w) := by
  obtain ⟨v2, v3, rfl, -, hv2, hv3⟩ := ha
  obtain ⟨V2, ⟨a2, s2, b2, o2, rfl, gA2⟩, rA2⟩ := hv2
  obtain ⟨V3, ⟨a3, s3, b3, o3, rfl, gA3⟩, rA3⟩ := hv3
  have hnA2 := gA2.nb
  have hnA3 := gA3.nb
  have hB2 : Below w.heap.size w (w.alloc (.cells #[.int .i64 a.letters, .int .i64 a.start, .slice a2 a.next.length s2, .slice a3 a.prio.length s3] 24)) := bel_box _
  have hx1 : (w.alloc (.cells #[.int .i64 a.letters, .int .i64 a.start, .slice a2 a.next.length s2, .slice a3 a.prio.length s3] 24)).heap[w.heap.size]? = some (.cells #[.int .i64 a.letters, .int .i64 a.start, .slice a2 a.next.length s2, .slice a3 a.prio.length s3] 24 (0, 0)) := heap_alloc_new _ _
  by_cases q0 : a.letters ≤ 12
  case neg =>
    have hne0 : decide ((12 : Int) < a.letters) = true := decide_eq_true (by omega)
    have hnn0 : (12 : Int) < a.letters := by omega
    have HF : Hid (fewA a = false) := by show _ = _; simp [fewA, q0]
    clear q0
    go_enter Try.func11, Try.ntmps11
    go_upto_region 1 with (fail)
    generalize (w.alloc (.cells #[.int .i64 a.letters, .int .i64 a.start, .slice a2 a.next.length s2, .slice a3 a.prio.length s3] 24)) = w2 at *
    have d0 := cell_of_row _ _ 0 _ _ _ hx1
    go_wp2
    go_ret
    exact ⟨by rw [HF.out]; rfl, hB2⟩
  have hne0 : decide ((12 : Int) < a.letters) = false := decide_eq_false (by omega)
  have hnn0 : ¬ (12 : Int) < a.letters := by omega
  have HQ0 := Lib.hid q0
  clear q0
  by_cases q1 : a.next.length ≤ 14
  case neg =>
    have hne1 : decide ((14 : Int) < (a.next.length : Int)) = true := decide_eq_true (by omega)
    have hnn1 : (14 : Int) < (a.next.length : Int) := by omega
    have HF : Hid (fewA a = false) := by show _ = _; simp [fewA, q1]
    clear q1
    go_enter Try.func11, Try.ntmps11
    go_upto_region 1 with (fail)
    generalize (w.alloc (.cells #[.int .i64 a.letters, .int .i64 a.start, .slice a2 a.next.length s2, .slice a3 a.prio.length s3] 24)) = w2 at *
    have d0 := cell_of_row _ _ 0 _ _ _ hx1
    have d1 := cell_of_row _ _ 2 _ _ _ hx1
    go_wp2
    go_ret
    exact ⟨by rw [HF.out]; rfl, hB2⟩
  have hne1 : decide ((14 : Int) < (a.next.length : Int)) = false := decide_eq_false (by omega)
  have hnn1 : ¬ (14 : Int) < (a.next.length : Int) := by omega
  have HQ1 := Lib.hid q1
  clear q1
  by_cases q2 : a.prio.length ≤ 14
  case neg =>
    have hne2 : decide ((14 : Int) < (a.prio.length : Int)) = true := decide_eq_true (by omega)
    have hnn2 : (14 : Int) < (a.prio.length : Int) := by omega
    have HF : Hid (fewA a = false) := by show _ = _; simp [fewA, q2]
    clear q2
    go_enter Try.func11, Try.ntmps11
    go_upto_region 1 with (fail)
    generalize (w.alloc (.cells #[.int .i64 a.letters, .int .i64 a.start, .slice a2 a.next.length s2, .slice a3 a.prio.length s3] 24)) = w2 at *
    have d0 := cell_of_row _ _ 0 _ _ _ hx1
    have d1 := cell_of_row _ _ 2 _ _ _ hx1
    have d2 := cell_of_row _ _ 3 _ _ _ hx1
    go_wp2
    go_ret
    exact ⟨by rw [HF.out]; rfl, hB2⟩
  have hne2 : decide ((14 : Int) < (a.prio.length : Int)) = false := decide_eq_false (by omega)
  have hnn2 : ¬ (14 : Int) < (a.prio.length : Int) := by omega
  have HQ2 := Lib.hid q2
  clear q2
  have HNE : Hid (∀ k, k < a.next.length → ¬ (a.next.getD k []).length ≤ 12 → fewA a = false) := fun k hk h => by
    unfold fewA
    rw [rg_all_false _ _ k hk (decide_eq_false h)]; simp
  have HNE2 : Hid (∀ k, k < a.prio.length → ¬ (a.prio.getD k []).length ≤ 12 → fewA a = false) := fun k hk h => by
    unfold fewA
    rw [rg_all_false _ a.prio.length k hk (decide_eq_false h)]; simp
  have HEQ : Hid ((∀ k, k < a.next.length → (a.next.getD k []).length ≤ 12) → (∀ k, k < a.prio.length → (a.prio.getD k []).length ≤ 12) → fewA a = true) := fun h h' => by
    have h0 := HQ0.out
    have h1 := HQ1.out
    have h2 := HQ2.out
    simp only [fewA, Bool.and_eq_true, decide_eq_true_eq, List.all_eq_true, List.mem_range]
    exact ⟨⟨⟨⟨h0, h1⟩, h2⟩, h⟩, h'⟩
  go_enter Try.func11, Try.ntmps11
  go_upto_region 1 with (fail)
  generalize (w.alloc (.cells #[.int .i64 a.letters, .int .i64 a.start, .slice a2 a.next.length s2, .slice a3 a.prio.length s3] 24)) = w2 at *
  have d0 := cell_of_row _ _ 0 _ _ _ hx1
  have d2 := cell_of_row _ _ 2 _ _ _ hx1
  have d3 := cell_of_row _ _ 3 _ _ _ hx1
  have HX1 := Lib.hid hx1
  go_wp2
  clear d0 hx1 hne0 hne1 hne2 hnn0 hnn1 hnn2
  go_loopg [3] a.next.length (fun gh i wr => ∃ k : Nat, gh = a.next.length - k ∧ i = .int .i64 k ∧ k ≤ a.next.length ∧ Hid (∀ j, j < k → (a.next.getD j []).length ≤ 12) ∧ w2 = wr)
  case atStart => exact ⟨0, rfl, rfl, by omega, fun j hj => absurd hj (Nat.not_lt_zero _), rfl⟩
  case round =>
    obtain ⟨k, hgk, rfl, hk, HE, rfl⟩ := hrel
    have HGK := Lib.hid hgk
    clear hgk
    by_cases hlt : k < a.next.length
    · as_aux_lemma =>
      have hk1 : (k : Int) < a.next.length := by omega
      obtain rfl := gA2.ad (by omega)
      have k1 := cellB hB2 (gA2.el k hlt)
      have rA' := rA2 k hlt
      obtain ⟨⟨ax, sx, bx, ox, hvx, gx⟩, -⟩ := rA'
      have hgx := gx.nb
      rw [hvx] at k1
      by_cases h12 : (a.next.getD k []).length ≤ 12
      · have hd : decide ((12 : Int) < ((a.next.getD k []).length : Int)) = false := decide_eq_false (by omega)
        have hd2 : ¬ (12 : Int) < ((a.next.getD k []).length : Int) := by omega
        have HEn : Hid (∀ j, j < k + 1 → (a.next.getD j []).length ≤ 12) := fun j hj => by
          by_cases e : j = k
          · subst e; exact h12
          · exact HE.out j (by omega)
        generalize (a.next.getD k []).length = lx at *
        clear hvx h12
        go_wp2
        go_roundg (a.next.length - (k + 1))
        case measure => have := HGK.out; omega
        case rel => exact ⟨k + 1, rfl, by go_num, by omega, HEn, rfl⟩
      · have hd : decide ((12 : Int) < ((a.next.getD k []).length : Int)) = true := decide_eq_true (by omega)
        have hd2 : (12 : Int) < ((a.next.getD k []).length : Int) := by omega
        have HF := Lib.hid (HNE.out k hlt h12)
        generalize (a.next.getD k []).length = lx at *
        clear hvx h12
        go_wp2
        go_ret
        exact ⟨ret_false HF.out, hB2⟩
    · as_aux_lemma =>
      obtain rfl : k = a.next.length := by omega
      have HEn := HE
      clear HE
      go_wp2
      go_loopg [4] a.prio.length (fun gh i wr => ∃ k : Nat, gh = a.prio.length - k ∧ i = .int .i64 k ∧ k ≤ a.prio.length ∧ Hid (∀ j, j < k → (a.prio.getD j []).length ≤ 12) ∧ w2 = wr)
      case atStart => exact ⟨0, rfl, rfl, by omega, fun j hj => absurd hj (Nat.not_lt_zero _), rfl⟩
      case round =>
        obtain ⟨k, hgk, rfl, hk, HE, rfl⟩ := hrel
        have HGK := Lib.hid hgk
        clear hgk
        by_cases hlt : k < a.prio.length
        · as_aux_lemma =>
          have hk1 : (k : Int) < a.prio.length := by omega
          obtain rfl := gA3.ad (by omega)
          have k1 := cellB hB2 (gA3.el k hlt)
          have rA' := rA3 k hlt
          obtain ⟨⟨ax, sx, bx, ox, hvx, gx⟩, -⟩ := rA'
          have hgx := gx.nb
          rw [hvx] at k1
          by_cases h12 : (a.prio.getD k []).length ≤ 12
          · have hd : decide ((12 : Int) < ((a.prio.getD k []).length : Int)) = false := decide_eq_false (by omega)
            have hd2 : ¬ (12 : Int) < ((a.prio.getD k []).length : Int) := by omega
            have HEn : Hid (∀ j, j < k + 1 → (a.prio.getD j []).length ≤ 12) := fun j hj => by
              by_cases e : j = k
              · subst e; exact h12
              · exact HE.out j (by omega)
            generalize (a.prio.getD k []).length = lx at *
            clear hvx h12
            go_wp2
            go_roundg (a.prio.length - (k + 1))
            case measure => have := HGK.out; omega
            case rel => exact ⟨k + 1, rfl, by go_num, by omega, HEn, rfl⟩
          · have hd : decide ((12 : Int) < ((a.prio.getD k []).length : Int)) = true := decide_eq_true (by omega)
            have hd2 : (12 : Int) < ((a.prio.getD k []).length : Int) := by omega
            have HF := Lib.hid (HNE2.out k hlt h12)
            generalize (a.prio.getD k []).length = lx at *
            clear hvx h12
            go_wp2
            go_ret
            exact ⟨ret_false HF.out, hB2⟩
        · as_aux_lemma =>
          obtain rfl : k = a.prio.length := by omega
          go_wp2
          go_ret
          exact ⟨ret_true (HEQ.out HEn.out HE.out), hB2⟩

end Go.Proofs.Ytdkpdpcecjcmcaa
