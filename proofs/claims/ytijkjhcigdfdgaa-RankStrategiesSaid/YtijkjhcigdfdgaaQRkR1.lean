/- The reference's order of measures: Top, Less, Same, limit, zero. -/
import Derived.Test.YtijkjhcigdfdgaaQRkW11
import Derived.Test.YtijkjhcigdfdgaaQRkP7
namespace Go.Proofs.Ytijkjhcigdfdgaa
open Go.RowKit

/-- The first numbers that differ decide. -/
def lesL : List Int → List Int → Bool
  | x :: a, y :: b => if x = y then lesL a b else decide (x < y)
  | _, _ => false
def lessB (a b : List Int) : Bool := if a = [] ∨ b = [] then decide (a ≠ []) && decide (b = []) else lesL a b
theorem les_cmp : ∀ (a b : List Int), a.length = b.length → lesL a b = decide (cmpL a b < 0)
  | [], [], _ => rfl
  | x :: a, y :: b, h => by
    show (if x = y then lesL a b else decide (x < y)) = decide ((if x < y then -1 else if y < x then 1 else cmpL a b) < 0)
    by_cases h1 : x < y
    · rw [if_neg (by omega), if_pos h1, decide_eq_true h1]; rfl
    · by_cases h2 : y < x
      · rw [if_neg (by omega), if_neg h1, if_pos h2, decide_eq_false h1]; rfl
      · rw [if_pos (by omega), if_neg h1, if_neg h2]
        exact les_cmp a b (by simpa using h)
theorem less_bef {mo : List Nat} {a b : List Int} (ha : meB mo a = true) (hb : meB mo b = true) : lessB a b = decide (cdN mo a < cdN mo b) := by
  rw [← bef_iff ha hb]
  unfold lessB befB
  by_cases h1 : a = []
  · rw [if_pos (.inl h1), if_pos (.inl h1)]; simp [h1]
  · by_cases h2 : b = []
    · rw [if_pos (.inr h2), if_pos (.inr h2)]; simp [h2]
    · rw [if_neg (by simp [h1, h2]), if_neg (by simp [h1, h2])]
      refine les_cmp a b ?_
      have la : ∀ {l : List Int}, meB mo l = true → l ≠ [] → l.length = max mo.length 1 := by
        intro l h hn
        rcases meB_iff.1 h with h | ⟨h, h'⟩ | ⟨h0, h, -⟩
        · exact absurd h hn
        · rw [h, h']; rfl
        · have := List.length_pos_iff.2 h0; omega
      rw [la ha h1, la hb h2]
theorem les_drop : ∀ (k : Nat) (a b : List Int), a.take k = b.take k → lesL a b = lesL (a.drop k) (b.drop k)
  | 0, _, _, _ => rfl
  | _ + 1, [], [], _ => rfl
  | _ + 1, [], _ :: _, h => by simp at h
  | _ + 1, _ :: _, [], h => by simp at h
  | k + 1, x :: a, y :: b, h => by
    simp only [List.take_succ_cons, List.cons.injEq] at h
    show (if x = y then lesL a b else decide (x < y)) = lesL (a.drop k) (b.drop k)
    rw [if_pos h.1]
    exact les_drop k a b h.2
theorem les_at {k : Nat} {a b : List Int} (ha : k < a.length) (hb : k < b.length) (h : a.take k = b.take k) (hne : a.getD k 0 ≠ b.getD k 0) : lesL a b = decide (a.getD k 0 < b.getD k 0) := by
  rw [les_drop k a b h, List.drop_eq_getElem_cons ha, List.drop_eq_getElem_cons hb, ← getD_lt _ 0 _ ha, ← getD_lt _ 0 _ hb]
  show (if _ then _ else _) = _
  rw [if_neg hne]
theorem les_end {k : Nat} {a b : List Int} (h : a.take k = b.take k) (hk : a.length ≤ k ∨ b.length ≤ k) : lesL a b = false := by
  rw [les_drop k a b h]
  rcases hk with hk | hk
  · rw [List.drop_eq_nil_of_le hk]; unfold lesL; rfl
  · rw [List.drop_eq_nil_of_le hk]
    cases a.drop k <;> rfl

theorem Top_c (w : World) (ao : Option Addr) (n c : Nat) (b : Bool) (hb : ((n : Int) == 0) = b) : Calls Try.prog 24 #[.slice ao n c] w (fun e w' => e = .returned (.bool b) ∧ w = w') := by
  go_enter Try.func24, Try.ntmps24
  go_wp2
  go_ret
  exact ⟨rfl, rfl⟩

theorem limit_c (w : World) : Calls Try.prog 40 #[] w (fun e w' => e = .returned (.int .i64 2000000) ∧ w = w') := by
  go_enter Try.func40, Try.ntmps40
  go_wp2
  go_ret
  exact ⟨rfl, rfl⟩

set_option maxRecDepth 100000 in
set_option maxHeartbeats 2000000 in
theorem Less_c (w : World) (va vb : Value) (a b : List Int) (ha : IsInts w va a) (hb : IsInts w vb b) :
    Calls Try.prog 22 #[va, vb] w (Quiet (.bool (lessB a b)) w) := by
  obtain ⟨aa, ca, rfl⟩ := ha.shape
  obtain ⟨ba, oa, da, na, fa⟩ := ha.dat
  obtain ⟨ab, cb, rfl⟩ := hb.shape
  obtain ⟨bb, ob, db, nb, fb⟩ := hb.dat
  clear ha hb
  by_cases h1 : a.length = 0
  · have t1 : ((a.length : Int) == 0) = true := by rw [beq_iff_eq]; omega
    have HE : Hid (lessB a b = false) := by
      show _ = _
      unfold lessB; rw [if_pos (.inl (List.length_eq_zero_iff.1 h1)), decide_eq_false (by simp [List.length_eq_zero_iff.1 h1])]; rfl
    clear h1 da db fa fb
    go_enter Try.func22, Try.ntmps22
    go_wp2_with (go_at_call 24; refine (Top_c _ _ _ _ _ t1).mono ?_; rintro e w' ⟨rfl, rfl⟩)
    go_ret
    exact ⟨ret_bool HE.out.symm, 0, rfl⟩
  have t1 : ((a.length : Int) == 0) = false := by rw [beq_eq_false_iff_ne]; omega
  have ha0 : a ≠ [] := fun e => h1 (by rw [e]; rfl)
  by_cases h2 : b.length = 0
  · have t2 : ((b.length : Int) == 0) = true := by rw [beq_iff_eq]; omega
    have HE : Hid (lessB a b = true) := by
      show _ = _
      unfold lessB; rw [if_pos (.inr (List.length_eq_zero_iff.1 h2)), decide_eq_true ha0, decide_eq_true (List.length_eq_zero_iff.1 h2)]; rfl
    clear h1 h2 ha0 da db fa fb
    go_enter Try.func22, Try.ntmps22
    go_wp2_with (go_at_call 24; refine (Top_c _ _ _ _ _ (by assumption)).mono ?_; rintro e w' ⟨rfl, rfl⟩)
    go_ret
    exact ⟨ret_bool HE.out.symm, 0, rfl⟩
  have t2 : ((b.length : Int) == 0) = false := by rw [beq_eq_false_iff_ne]; omega
  have hb0 : b ≠ [] := fun e => h2 (by rw [e]; rfl)
  obtain rfl := da (by omega)
  obtain rfl := db (by omega)
  have HE : Hid (lessB a b = lesL a b) := by show _ = _; unfold lessB; rw [if_neg (by simp [ha0, hb0])]
  have HFA := Lib.hid fa
  have HFB := Lib.hid fb
  clear fa fb da db ha0 hb0 h1 h2
  go_enter Try.func22, Try.ntmps22
  go_upto_region 3 with (go_at_call 24; refine (Top_c _ _ _ _ _ (by assumption)).mono ?_; rintro e w' ⟨rfl, rfl⟩)
  go_wp2_with fail
  go_loopg [5] a.length (fun gh i wr => ∃ k nd : Nat, gh = a.length - k ∧ i = .int .i64 (k : Int) ∧ k ≤ a.length ∧ k ≤ b.length ∧ Hid (a.take k = b.take k) ∧ Hid (wr = w.drewN nd))
  case atStart => exact ⟨0, 0, rfl, rfl, by omega, by omega, rfl, rfl⟩
  case round =>
    obtain ⟨k, nd, hgk, rfl, hka, hkb, HT, HW⟩ := hrel
    have HGK := Lib.hid hgk
    clear hgk
    have HB : Hid (Below w.heap.size w wr) := by show Below _ _ _; rw [HW.out]; exact below_draws _ _ _
    by_cases hlt : k < a.length ∧ k < b.length
    · obtain ⟨l1, l2⟩ := hlt
      have i1 : (k : Int) < (a.length : Int) := by omega
      have i2 : (k : Int) < (b.length : Int) := by omega
      have c1 := cellB HB.out (HFA.out k l1)
      have c2 := cellB HB.out (HFB.out k l2)
      by_cases hne : a.getD k 0 = b.getD k 0
      · have HT2 : Hid (a.take (k + 1) = b.take (k + 1)) := by
          show _ = _
          exact take_succ_eq l1 l2 HT.out (by rwa [getD_lt _ _ _ l1, getD_lt _ _ _ l2] at hne)
        rw [hne] at c1
        clear hne
        generalize b.getD k 0 = y at *
        have t5 : (y != y) = false := by simp
        go_upto_region 6 with (fail)
        go_quiet (fail)
        go_wp2
        go_roundg (a.length - (k + 1))
        case measure => have := HGK.out; omega
        case rel => exact ⟨k + 1, _, rfl, by go_num, by omega, by omega, HT2, by show _ = _; rw [HW.out, World.drewN_drewN]⟩
      · have HV : Hid (lessB a b = decide (a.getD k 0 < b.getD k 0)) := by show _ = _; rw [HE.out, les_at l1 l2 HT.out hne]
        have t5 : (a.getD k 0 != b.getD k 0) = true := by simpa using hne
        clear hne
        generalize a.getD k 0 = x at *
        generalize b.getD k 0 = y at *
        go_upto_region 6 with (fail)
        go_quiet (fail)
        go_upto_region 7 with (fail)
        go_quiet (fail)
        go_wp2
        go_ret
        exact ⟨ret_bool HV.out.symm, _, by rw [HW.out, World.drewN_drewN, World.drewN_drewN]⟩
    · have HV : Hid (lessB a b = false) := by show _ = _; rw [HE.out]; exact les_end HT.out (by omega)
      by_cases l1 : k < a.length
      · have l2 : ¬ k < b.length := by omega
        have i1 : (k : Int) < (a.length : Int) := by omega
        have i2 : ¬ (k : Int) < (b.length : Int) := by omega
        clear hlt
        go_wp2
        go_ret
        exact ⟨ret_bool HV.out.symm, _, HW.out⟩
      · have i1 : ¬ (k : Int) < (a.length : Int) := by omega
        clear hlt
        go_wp2
        go_ret
        exact ⟨ret_bool HV.out.symm, _, HW.out⟩

set_option maxRecDepth 100000 in
theorem zero_c (w : World) (ao : Option Addr) (n c : Nat) (hn : n ≤ 20000) : Calls Try.prog 57 #[.slice ao n c] w (NewSet (List.replicate (max n 1) 0) w) := by
  by_cases h : n = 0
  · subst h
    go_enter Try.func57, Try.ntmps57
    go_wp2_with (at_make; refine mk_int rfl _ _ _ Try.underlying22 rfl w.heap.size 1 1 rfl rfl rfl (by omega) (Nat.le_refl _) ?_; intro w2 hown2 hg2)
    go_ret
    exact ⟨_, rfl, hown2, (Below.refl _ _).grown hg2 (Nat.le_refl _) (fun k hk => by cases hk)⟩
  · have t1 : ¬ (n : Int) < 1 := by omega
    have HE : Hid (max n 1 = n) := by show _ = _; omega
    rw [HE.out]
    go_enter Try.func57, Try.ntmps57
    go_wp2_with (at_make; refine mk_int rfl _ _ _ Try.underlying22 rfl w.heap.size n n rfl rfl rfl (by omega) (Nat.le_refl _) ?_; intro w2 hown2 hg2)
    go_ret
    exact ⟨_, rfl, hown2, (Below.refl _ _).grown hg2 (Nat.le_refl _) (fun k hk => by cases hk)⟩

end Go.Proofs.Ytijkjhcigdfdgaa
