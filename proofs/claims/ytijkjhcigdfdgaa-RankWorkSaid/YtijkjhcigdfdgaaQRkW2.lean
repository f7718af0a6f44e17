/- Work; the comparison of two lists of numbers. -/
import Derived.Test.YtijkjhcigdfdgaaQRkW1
namespace Go.Proofs.Ytijkjhcigdfdgaa
open Go.RowKit

/-! The comparison. -/
def cmpI (x y : Int) : Int := if x < y then -1 else if y < x then 1 else 0
theorem isNaN_c (w : World) (x : Int) : Calls Try.prog 77 #[.int .i64 x] w (Quiet (.bool false) w) := by
  have h : (x != x) = false := by simp
  go_enter Try.func77, Try.ntmps77
  go_wp2
  go_ret
  exact ⟨rfl, 0, rfl⟩
theorem cmp_c (w : World) (x y : Int) : Calls Try.prog 76 #[.int .i64 x, .int .i64 y] w (Quiet (.int .i64 (cmpI x y)) w) := by
  have hN : Hid (∀ W z, Calls Try.prog 77 #[.int .i64 z] W (Quiet (.bool false) W)) := fun W z => isNaN_c W z
  go_enter Try.func76, Try.ntmps76
  go_wp2_with fail
  refine (hN.out _ _).mono ?_
  rintro e w1 ⟨rfl, n1, rfl⟩
  go_wp2_with fail
  refine (hN.out _ _).mono ?_
  rintro e w2 ⟨rfl, n2, rfl⟩
  rcases Int.lt_trichotomy x y with h | h | h
  · have h1 : decide (x < y) = true := decide_eq_true h
    have e1 : cmpI x y = -1 := if_pos h
    go_wp2
    go_ret
    exact ⟨by simp [e1], n1 + n2, rfl⟩
  · have e1 : cmpI x y = 0 := by subst h; simp [cmpI]
    have h1 : decide (x < y) = false := decide_eq_false (by omega)
    have h2 : decide (y < x) = false := decide_eq_false (by omega)
    clear h
    go_wp2
    go_ret
    exact ⟨by simp [e1], n1 + n2, rfl⟩
  · have e1 : cmpI x y = 1 := by unfold cmpI; rw [if_neg (by omega), if_pos h]
    have h1 : decide (x < y) = false := decide_eq_false (by omega)
    have h2 : decide (y < x) = true := decide_eq_true (by omega)
    go_wp2
    go_ret
    exact ⟨by simp [e1], n1 + n2, rfl⟩

theorem cmpL_step {a b : List Int} {k : Nat} (ha : k < a.length) (hb : k < b.length) : cmpL (a.drop k) (b.drop k) = if cmpI (a.getD k 0) (b.getD k 0) = 0 then cmpL (a.drop (k + 1)) (b.drop (k + 1)) else cmpI (a.getD k 0) (b.getD k 0) := by
  rw [List.drop_eq_getElem_cons ha, List.drop_eq_getElem_cons hb, getD_lt _ _ _ ha, getD_lt _ _ _ hb]
  show (if a[k] < b[k] then -1 else if b[k] < a[k] then 1 else _) = _
  unfold cmpI
  by_cases h1 : a[k] < b[k]
  · rw [if_pos h1, if_pos h1, if_neg (by omega)]
  · rw [if_neg h1, if_neg h1]
    by_cases h2 : b[k] < a[k]
    · rw [if_pos h2, if_pos h2, if_neg (by omega)]
    · rw [if_neg h2, if_neg h2, if_pos rfl]
theorem cmpL_long {a b : List Int} {k : Nat} (ha : k < a.length) (hb : b.length ≤ k) : cmpL (a.drop k) (b.drop k) = 1 := by
  rw [List.drop_eq_getElem_cons ha, List.drop_eq_nil_of_le hb]; rfl
theorem cmpL_stop {a b : List Int} {k : Nat} (ha : a.length ≤ k) : cmpL (a.drop k) (b.drop k) = if k < b.length then -1 else 0 := by
  rw [List.drop_eq_nil_of_le ha]
  by_cases h : k < b.length
  · rw [List.drop_eq_getElem_cons h, if_pos h]; rfl
  · rw [List.drop_eq_nil_of_le (by omega), if_neg h]; rfl
theorem cmpL_range (a b : List Int) : cmpL a b = -1 ∨ cmpL a b = 0 ∨ cmpL a b = 1 := by
  induction a generalizing b with
  | nil => cases b <;> simp [cmpL]
  | cons x a ih =>
    cases b with
    | nil => simp [cmpL]
    | cons y b =>
      rw [show cmpL (x :: a) (y :: b) = if x < y then (-1 : Int) else if y < x then 1 else cmpL a b from rfl]
      split
      · exact .inl rfl
      · split
        · exact .inr (.inr rfl)
        · exact ih b

set_option maxRecDepth 100000 in
theorem compare_c (w : World) (va vb : Value) (la lb : List Int) (ha : IsInts w va la) (hb : IsInts w vb lb) :
    Calls Try.prog 75 #[va, vb] w (Quiet (.int .i64 (cmpL la lb)) w) := by
  obtain ⟨⟨aoa, ca, ba, oa, rfl, ha⟩, _⟩ := ha
  obtain ⟨⟨aob, cb, bb, ob, rfl, hb⟩, _⟩ := hb
  have hna := ha.nb
  have hnb := hb.nb
  have hC : Hid (∀ W x y, Calls Try.prog 76 #[.int .i64 x, .int .i64 y] W (Quiet (.int .i64 (cmpI x y)) W)) := fun W x y => cmp_c W x y
  go_enter Try.func75, Try.ntmps75
  go_wp2
  go_loopg [11] la.length (fun gh i wr => ∃ k n : Nat, gh = la.length - k ∧ i = .int .i64 (k : Int) ∧ wr = w.drewN n ∧ k ≤ la.length ∧ k ≤ lb.length ∧ Hid (cmpL la lb = cmpL (la.drop k) (lb.drop k)))
  case atStart => exact ⟨0, 0, rfl, rfl, rfl, by omega, by omega, rfl⟩
  case round =>
    obtain ⟨k, n, hgk, rfl, rfl, hk, hkb, HE⟩ := hrel
    have HGK := Lib.hid hgk
    clear hgk
    by_cases hlt : k < la.length
    · have hk1 : (k : Int) < (la.length : Int) := by omega
      obtain rfl := ha.ad (by omega)
      have c1 := ha.el k hlt
      unfold ivF at c1
      by_cases hltb : k < lb.length
      · have h1 : decide ((lb.length : Int) ≤ (k : Int)) = false := decide_eq_false (by omega)
        have h2 : decide (lb.length ≤ k) = false := decide_eq_false (by omega)
        obtain rfl := hb.ad (by omega)
        have c2 := hb.el k hltb
        unfold ivF at c2
        have HS := Lib.hid (cmpL_step hlt hltb)
        generalize la.getD k 0 = x at *
        generalize lb.getD k 0 = y at *
        go_wp2_with fail
        refine (hC.out _ _ _).mono ?_
        rintro e w1 ⟨rfl, n1, rfl⟩
        obtain ⟨c, hc⟩ : ∃ c, cmpI x y = c := ⟨_, rfl⟩
        rw [hc] at HS ⊢
        by_cases h0 : c = 0
        · have h3 : (c != 0) = false := by simp [h0]
          have HE2 : Hid (cmpL la lb = cmpL (la.drop (k + 1)) (lb.drop (k + 1))) := by show _ = _; rw [HE.out, HS.out, if_pos h0]
          clear h0 hc
          go_wp2
          go_roundg (la.length - (k + 1))
          case measure => have := HGK.out; omega
          case rel => exact ⟨k + 1, _, rfl, by go_num, rfl, by omega, by omega, HE2⟩
        · have h3 : (c != 0) = true := by simp [h0]
          have HE2 : Hid (cmpL la lb = c) := by show _ = _; rw [HE.out, HS.out, if_neg h0]
          clear hc
          go_wp2
          go_ret
          exact ⟨by simp [HE2.out], _, rfl⟩
      · have h1 : decide ((lb.length : Int) ≤ (k : Int)) = true := decide_eq_true (by omega)
        have h2 : decide (lb.length ≤ k) = true := decide_eq_true (by omega)
        have HE2 : Hid (cmpL la lb = 1) := by show _ = _; rw [HE.out, cmpL_long hlt (by omega)]
        go_wp2
        go_ret
        exact ⟨by simp [HE2.out], _, rfl⟩
    · have hd : ¬ (k : Int) < (la.length : Int) := by omega
      have HE2 := Lib.hid (HE.out.trans (cmpL_stop (b := lb) (by omega)))
      by_cases hl : la.length < lb.length
      · have h1 : decide ((la.length : Int) < (lb.length : Int)) = true := decide_eq_true (by omega)
        have h2 : decide (la.length < lb.length) = true := decide_eq_true (by omega)
        go_wp2
        go_ret
        exact ⟨by rw [HE2.out, if_pos (by omega)]; rfl, _, rfl⟩
      · have h1 : decide ((la.length : Int) < (lb.length : Int)) = false := decide_eq_false (by omega)
        have h2 : decide (la.length < lb.length) = false := decide_eq_false (by omega)
        go_wp2
        go_ret
        exact ⟨by rw [HE2.out, if_neg (by omega)]; rfl, _, rfl⟩

end Go.Proofs.Ytijkjhcigdfdgaa
