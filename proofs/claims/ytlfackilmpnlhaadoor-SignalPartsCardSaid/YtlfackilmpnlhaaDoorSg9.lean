/- What the reference's side, Inputs, Outputs and Letters compute. -/
import Derived.Test.YtlfackilmpnlhaaDoorSg5
namespace Go.Proofs.YtlfackilmpnlhaaDoor
open Go.RowKit

theorem prodC_snoc (ch : Sig → Bool) (l : List Sig) (s : Sig) : prodC ch (l ++ [s]) = if ch s then prodC ch l * s.size else prodC ch l := by
  induction l with
  | nil => simp only [List.nil_append, prodC]; split <;> simp
  | cons a l ih =>
    simp only [List.cons_append, prodC, ih]
    split <;> split <;> simp [Int.mul_assoc]

theorem prodC_take {ch : Sig → Bool} {l : List Sig} {k : Nat} (h : k < l.length) : prodC ch (l.take (k + 1)) = if ch l[k] then prodC ch (l.take k) * l[k].size else prodC ch (l.take k) := by
  rw [List.take_succ_eq_append_getElem h, prodC_snoc]

theorem prodC_bd (ch : Sig → Bool) (l : List Sig) (h : ∀ s ∈ l, sizeB s = true) : 1 ≤ prodC ch l ∧ prodC ch l ≤ 4 ^ l.length := by
  induction l with
  | nil => simp [prodC]
  | cons a l ih =>
    obtain ⟨h1, h2⟩ := ih (fun s hs => h s (List.mem_cons_of_mem _ hs))
    have ha := h a List.mem_cons_self
    simp only [sizeB, Bool.and_eq_true, decide_eq_true_eq] at ha
    rw [prodC, List.length_cons, Int.pow_succ]
    have h3 := Int.mul_le_mul ha.2 h2 (by omega) (by omega)
    have h4 := Int.mul_le_mul (show (1 : Int) ≤ a.size by omega) h1 (by omega) (by omega)
    have h5 : (4 : Int) * 4 ^ l.length = 4 ^ l.length * 4 := Int.mul_comm _ _
    split <;> omega

theorem prodC_both (l : List Sig) : prodC (fun s => s.inp) l * prodC (fun s => !s.inp) l = prodL l := by
  induction l with
  | nil => rfl
  | cons a l ih =>
    simp only [prodC, prodL, ← ih]
    rcases Bool.eq_false_or_eq_true a.inp with h | h
    · rw [if_pos h, if_neg (by rw [h]; simp), Int.mul_assoc]
    · rw [if_neg (by rw [h]; simp), if_pos (by rw [h]; rfl), Int.mul_left_comm]

theorem prodC_true (l : List Sig) : prodC (fun _ => true) l = prodL l := by
  induction l with
  | nil => rfl
  | cons a l ih => simp [prodC, prodL, ih]

theorem prod_wrap' {p z : Int} (h1 : 1 ≤ p) (h2 : p ≤ 4096) (h3 : 2 ≤ z) (h4 : z ≤ 4) : IntKind.i64.wrap (p * z) = p * z := by
  refine IntWalk.i64_in _ ⟨?_, ?_⟩
  · have := Int.mul_nonneg (show 0 ≤ p by omega) (show 0 ≤ z by omega); omega
  · have := Int.mul_le_mul h2 h4 (by omega) (by omega); omega

def sideI (l : List Sig) (b : Bool) : Int := if validS l then prodC (fun s => s.inp == b) l else 0

theorem valid_sizes {l : List Sig} (h : validS l = true) : (∀ s ∈ l, sizeB s = true) ∧ 1 ≤ l.length ∧ l.length ≤ 6 ∧ prodL l ≤ 64 := by
  simp only [validS, Bool.and_eq_true, decide_eq_true_eq] at h
  exact ⟨fun s hs => allB_mem h.1.2 (Nat.le_refl _) s (by rwa [List.take_length]), h.1.1.1, h.1.1.2, h.2⟩

set_option maxRecDepth 100000 in
set_option maxHeartbeats 4000000 in
theorem side_c (w : World) (vl : Value) (l : List Sig) (q : Bool) (hl : IsSigs w vl l) : Calls Tryd.prog 42 #[vl, .bool q] w (Calm (.int .i64 (sideI l q)) w) := by
  have hlx := hl
  obtain ⟨ao, cap, b, off, rfl, hl⟩ := hl
  have hn := hl.nb
  have HS : Hid (∀ c, validS l = c → sideI l q = if c then prodC (fun s => s.inp == q) l else 0) := fun c h => by unfold sideI; rw [h]
  cases hv : validS l
  · go_enter Tryd.func42, Tryd.ntmps42
    go_wp2_with fail
    refine (RSValid_c _ _ l hlx).mono ?_
    rintro e w1 ⟨rfl, hb⟩
    rw [hv]
    go_wp2
    go_ret
    exact ⟨ret_int (by rw [HS.out _ hv]; rfl), hb⟩
  obtain ⟨hz, hl1, hl6, -⟩ := valid_sizes hv
  have HZ := Lib.hid hz
  have HV := Lib.hid hv
  clear hz hv
  go_enter Tryd.func42, Tryd.ntmps42
  go_wp2_with fail
  refine (RSValid_c _ _ l hlx).mono ?_
  rintro e w1 ⟨rfl, hb⟩
  rw [HV.out]
  go_wp2
  go_loop [5, 6] (fun p i => ∃ k : Nat, i = .int .i64 k ∧ p = .int .i64 (prodC (fun s => s.inp == q) (l.take k)) ∧ k ≤ l.length) (fun _ i => l.length - (intOf i).toNat)
  case atStart => exact ⟨0, rfl, rfl, by omega⟩
  case round =>
    obtain ⟨k, rfl, rfl, hk⟩ := hrel
    by_cases hlt : k < l.length
    · obtain rfl := hl.ad (by omega)
      have c1 := cellB hb (hl.ni k hlt)
      have c2 := cellB hb (hl.nz k hlt)
      obtain ⟨hp1, hp2⟩ := prodC_bd (fun s => s.inp == q) (l.take k) (fun s hs => HZ.out s (List.mem_of_mem_take hs))
      have hp3 : prodC (fun s => s.inp == q) (l.take k) ≤ 4096 := Int.le_trans hp2 (pow4 (by rw [List.length_take]; omega))
      have hsz := HZ.out _ (List.getElem_mem hlt)
      simp only [sizeB, Bool.and_eq_true, decide_eq_true_eq] at hsz
      obtain ⟨hs1, hs2⟩ := hsz
      have hpw := prod_wrap' hp1 hp3 hs1 hs2
      have HT := Lib.hid (prodC_take (ch := fun s => s.inp == q) hlt)
      clear hp2
      generalize prodC (fun s => s.inp == q) (l.take k) = pp at *
      cases hq : (l[k].inp == q)
      · go_wp2
        go_round
        case rel => exact ⟨k + 1, by go_num, by rw [HT.out, hq]; rfl, by omega⟩
        case measure => simp [intOf]; omega
      · go_wp2
        go_round
        case rel => exact ⟨k + 1, by go_num, by rw [HT.out, hq]; first | rfl | (rw [hpw]; rfl), by omega⟩
        case measure => simp [intOf]; omega
    · obtain rfl : k = l.length := by omega
      rw [List.take_length]
      go_wp2
      go_ret
      exact ⟨ret_int (by rw [HS.out _ HV.out]; rfl), hb⟩

end Go.Proofs.YtlfackilmpnlhaaDoor
