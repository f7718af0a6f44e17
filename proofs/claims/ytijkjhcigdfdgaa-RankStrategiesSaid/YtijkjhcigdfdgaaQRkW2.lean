/- Work; the comparison of two lists of numbers. Work, measure, along. -/
import Derived.Test.YtijkjhcigdfdgaaQRkW1
namespace Go.Proofs.Ytijkjhcigdfdgaa
open Go.RowKit

/-! The comparison. -/
def cmpI (x y : Int) : Int := if x < y then -1 else if y < x then 1 else 0
theorem isNaN_c (w : World) (x : Int) : Calls Try.prog 77 #[.int .i64 x] w (Quiet (.bool false) w) := by
  have h : (x != x) = false := by simp
  go_enter Try.func77, Try.ntmps77
  go_wp2
  go_ret
  exact ⟨rfl, 0, rfl⟩
theorem cmp_c (w : World) (x y : Int) : Calls Try.prog 76 #[.int .i64 x, .int .i64 y] w (Quiet (.int .i64 (cmpI x y)) w) := by
  have hN : Hid (∀ W z, Calls Try.prog 77 #[.int .i64 z] W (Quiet (.bool false) W)) := fun W z => isNaN_c W z
  go_enter Try.func76, Try.ntmps76
  go_wp2_with fail
  refine (hN.out _ _).mono ?_
  rintro e w1 ⟨rfl, n1, rfl⟩
  go_wp2_with fail
  refine (hN.out _ _).mono ?_
  rintro e w2 ⟨rfl, n2, rfl⟩
  rcases Int.lt_trichotomy x y with h | h | h
  · have h1 : decide (x < y) = true := decide_eq_true h
    have e1 : cmpI x y = -1 := if_pos h
    go_wp2
    go_ret
    exact ⟨by simp [e1], n1 + n2, rfl⟩
  · have e1 : cmpI x y = 0 := by subst h; simp [cmpI]
    have h1 : decide (x < y) = false := decide_eq_false (by omega)
    have h2 : decide (y < x) = false := decide_eq_false (by omega)
    clear h
    go_wp2
    go_ret
    exact ⟨by simp [e1], n1 + n2, rfl⟩
  · have e1 : cmpI x y = 1 := by unfold cmpI; rw [if_neg (by omega), if_pos h]
    have h1 : decide (x < y) = false := decide_eq_false (by omega)
    have h2 : decide (y < x) = true := decide_eq_true (by omega)
    go_wp2
    go_ret
    exact ⟨by simp [e1], n1 + n2, rfl⟩

theorem cmpL_step {a b : List Int} {k : Nat} (ha : k < a.length) (hb : k < b.length) : cmpL (a.drop k) (b.drop k) = if cmpI (a.getD k 0) (b.getD k 0) = 0 then cmpL (a.drop (k + 1)) (b.drop (k + 1)) else cmpI (a.getD k 0) (b.getD k 0) := by
  rw [List.drop_eq_getElem_cons ha, List.drop_eq_getElem_cons hb, getD_lt _ _ _ ha, getD_lt _ _ _ hb]
  show (if a[k] < b[k] then -1 else if b[k] < a[k] then 1 else _) = _
  unfold cmpI
  by_cases h1 : a[k] < b[k]
  · rw [if_pos h1, if_pos h1, if_neg (by omega)]
  · rw [if_neg h1, if_neg h1]
    by_cases h2 : b[k] < a[k]
    · rw [if_pos h2, if_pos h2, if_neg (by omega)]
    · rw [if_neg h2, if_neg h2, if_pos rfl]
theorem cmpL_long {a b : List Int} {k : Nat} (ha : k < a.length) (hb : b.length ≤ k) : cmpL (a.drop k) (b.drop k) = 1 := by
  rw [List.drop_eq_getElem_cons ha, List.drop_eq_nil_of_le hb]; rfl
theorem cmpL_stop {a b : List Int} {k : Nat} (ha : a.length ≤ k) : cmpL (a.drop k) (b.drop k) = if k < b.length then -1 else 0 := by
  rw [List.drop_eq_nil_of_le ha]
  by_cases h : k < b.length
  · rw [List.drop_eq_getElem_cons h, if_pos h]; rfl
  · rw [List.drop_eq_nil_of_le (by omega), if_neg h]; rfl
theorem cmpL_range (a b : List Int) : cmpL a b = -1 ∨ cmpL a b = 0 ∨ cmpL a b = 1 := by
  induction a generalizing b with
  | nil => cases b <;> simp [cmpL]
  | cons x a ih =>
    cases b with
    | nil => simp [cmpL]
    | cons y b =>
      rw [show cmpL (x :: a) (y :: b) = if x < y then (-1 : Int) else if y < x then 1 else cmpL a b from rfl]
      split
      · exact .inl rfl
      · split
        · exact .inr (.inr rfl)
        · exact ih b

set_option maxRecDepth 100000 in
theorem compare_c (w : World) (va vb : Value) (la lb : List Int) (ha : IsInts w va la) (hb : IsInts w vb lb) :
    Calls Try.prog 75 #[va, vb] w (Quiet (.int .i64 (cmpL la lb)) w) := by
  obtain ⟨⟨aoa, ca, ba, oa, rfl, ha⟩, _⟩ := ha
  obtain ⟨⟨aob, cb, bb, ob, rfl, hb⟩, _⟩ := hb
  have hna := ha.nb
  have hnb := hb.nb
  have hC : Hid (∀ W x y, Calls Try.prog 76 #[.int .i64 x, .int .i64 y] W (Quiet (.int .i64 (cmpI x y)) W)) := fun W x y => cmp_c W x y
  go_enter Try.func75, Try.ntmps75
  go_wp2
  go_loopg [11] la.length (fun gh i wr => ∃ k n : Nat, gh = la.length - k ∧ i = .int .i64 (k : Int) ∧ wr = w.drewN n ∧ k ≤ la.length ∧ k ≤ lb.length ∧ Hid (cmpL la lb = cmpL (la.drop k) (lb.drop k)))
  case atStart => exact ⟨0, 0, rfl, rfl, rfl, by omega, by omega, rfl⟩
  case round =>
    obtain ⟨k, n, hgk, rfl, rfl, hk, hkb, HE⟩ := hrel
    have HGK := Lib.hid hgk
    clear hgk
    by_cases hlt : k < la.length
    · have hk1 : (k : Int) < (la.length : Int) := by omega
      obtain rfl := ha.ad (by omega)
      have c1 := ha.el k hlt
      unfold ivF at c1
      by_cases hltb : k < lb.length
      · have h1 : decide ((lb.length : Int) ≤ (k : Int)) = false := decide_eq_false (by omega)
        have h2 : decide (lb.length ≤ k) = false := decide_eq_false (by omega)
        obtain rfl := hb.ad (by omega)
        have c2 := hb.el k hltb
        unfold ivF at c2
        have HS := Lib.hid (cmpL_step hlt hltb)
        generalize la.getD k 0 = x at *
        generalize lb.getD k 0 = y at *
        go_wp2_with fail
        refine (hC.out _ _ _).mono ?_
        rintro e w1 ⟨rfl, n1, rfl⟩
        obtain ⟨c, hc⟩ : ∃ c, cmpI x y = c := ⟨_, rfl⟩
        rw [hc] at HS ⊢
        by_cases h0 : c = 0
        · have h3 : (c != 0) = false := by simp [h0]
          have HE2 : Hid (cmpL la lb = cmpL (la.drop (k + 1)) (lb.drop (k + 1))) := by show _ = _; rw [HE.out, HS.out, if_pos h0]
          clear h0 hc
          go_wp2
          go_roundg (la.length - (k + 1))
          case measure => have := HGK.out; omega
          case rel => exact ⟨k + 1, _, rfl, by go_num, rfl, by omega, by omega, HE2⟩
        · have h3 : (c != 0) = true := by simp [h0]
          have HE2 : Hid (cmpL la lb = c) := by show _ = _; rw [HE.out, HS.out, if_neg h0]
          clear hc
          go_wp2
          go_ret
          exact ⟨by simp [HE2.out], _, rfl⟩
      · have h1 : decide ((lb.length : Int) ≤ (k : Int)) = true := decide_eq_true (by omega)
        have h2 : decide (lb.length ≤ k) = true := decide_eq_true (by omega)
        have HE2 : Hid (cmpL la lb = 1) := by show _ = _; rw [HE.out, cmpL_long hlt (by omega)]
        go_wp2
        go_ret
        exact ⟨by simp [HE2.out], _, rfl⟩
    · have hd : ¬ (k : Int) < (la.length : Int) := by omega
      have HE2 := Lib.hid (HE.out.trans (cmpL_stop (b := lb) (by omega)))
      by_cases hl : la.length < lb.length
      · have h1 : decide ((la.length : Int) < (lb.length : Int)) = true := decide_eq_true (by omega)
        have h2 : decide (la.length < lb.length) = true := decide_eq_true (by omega)
        go_wp2
        go_ret
        exact ⟨by rw [HE2.out, if_pos (by omega)]; rfl, _, rfl⟩
      · have h1 : decide ((la.length : Int) < (lb.length : Int)) = false := decide_eq_false (by omega)
        have h2 : decide (la.length < lb.length) = false := decide_eq_false (by omega)
        go_wp2
        go_ret
        exact ⟨by rw [HE2.out, if_neg (by omega)]; rfl, _, rfl⟩

end Go.Proofs.Ytijkjhcigdfdgaa

namespace Go.Proofs.Ytijkjhcigdfdgaa
open Go.RowKit

/-- The product of the first factors. -/
def prodN (mo : List Nat) (n : Nat) : Nat → Nat
  | 0 => n
  | j + 1 => prodN mo n j * (mo.getD j 0 + 1)
theorem prod_unit {mo : List Nat} {n : Nat} : ∀ (j : Nat), j ≤ mo.length → prodN mo n j * unitN mo j = n * unitL mo
  | 0, _ => rfl
  | j + 1, h => by
    rw [← prod_unit j (by omega), unit_step (show j < mo.length by omega)]
    show prodN mo n j * (mo.getD j 0 + 1) * _ = _
    rw [Nat.mul_assoc]
theorem prod_all (mo : List Nat) (n : Nat) : prodN mo n mo.length = n * unitL mo := by
  have := prod_unit (mo := mo) (n := n) mo.length (Nat.le_refl _)
  rwa [unit_end (Nat.le_refl _), Nat.mul_one] at this
theorem prod_le {mo : List Nat} {n j : Nat} (h : j ≤ mo.length) : prodN mo n j ≤ n * unitL mo := by
  rw [← prod_unit j h]
  exact Nat.le_mul_of_pos_right _ (unit_pos mo j)

set_option maxRecDepth 100000 in
theorem work_c (w : World) (v : Value) (g : Gm) (mo : List Nat) (hv : IsView w v g mo) (hn : g.owner.length ≤ 3000) (hm : ∀ k, mo.getD k 0 ≤ 3000) :
    Calls Try.prog 34 #[v] w (Calm (.int .i64 (workN g.owner.length mo : Int)) w) := by
  obtain ⟨v0, v1, v2, vm, rfl, hg, hI⟩ := hv
  obtain ⟨h0, h1, h2⟩ := hg.parts3
  obtain ⟨a0, c0, rfl⟩ := h0.shape
  obtain ⟨am, cm, rfl⟩ := hI.shape
  obtain ⟨bM, oM, hdM, hmM, hVM⟩ := hI.dat
  have HV := Lib.hid hVM
  have HL : Hid ((castM mo).length = mo.length) := castM_len mo
  rw [HL.out] at hdM hmM HV ⊢
  clear h0 h1 h2 hg hI hVM
  generalize g.owner.length = n at *
  have hB : Below w.heap.size w (w.alloc (.cells #[.slice a0 n c0, v1, v2, .slice am mo.length cm] 49)) := (by repeat (first | exact Below.refl _ _ | assumption | (refine belA ?_ _) | (refine belD ?_ _)))
  go_enter Try.func34, Try.ntmps34
  go_wp2
  go_loopg [3, 13] mo.length (fun gh r i wr => ∃ k : Nat, gh = mo.length - k ∧ r = .int .i64 (prodN mo n k : Int) ∧ i = .int .i64 (k : Int) ∧ k ≤ mo.length ∧ prodN mo n k ≤ 2000000 ∧ wr = w.alloc (.cells #[.slice a0 n c0, v1, v2, .slice am mo.length cm] 49))
  case atStart => exact ⟨0, rfl, rfl, rfl, by omega, by show n ≤ _; omega, rfl⟩
  case round =>
    obtain ⟨k, hgk, rfl, rfl, hk, hpr, rfl⟩ := hrel
    have HGK := Lib.hid hgk
    clear hgk
    by_cases hlt : k < mo.length
    · have hk1 : (k : Int) < (mo.length : Int) := by omega
      obtain rfl := hdM (by omega)
      have c1 := cellB hB (HV.out k hlt)
      rw [castM_get hlt] at c1
      have HP : Hid (prodN mo n (k + 1) = prodN mo n k * (mo.getD k 0 + 1)) := rfl
      have hx := hm k
      generalize mo.getD k 0 = x at *
      generalize hp : prodN mo n k = p at *
      have hpp : p * (x + 1) ≤ 2000000 * 3001 := Nat.mul_le_mul hpr (by omega)
      have e1 : (p : Int) * ((x : Int) + 1) = ((p * (x + 1) : Nat) : Int) := by simp
      have e2 : IntKind.i64.wrap ((p : Int) * ((x : Int) + 1)) = ((p * (x + 1) : Nat) : Int) := by rw [e1]; exact IntWalk.i64_in _ ⟨by omega, by omega⟩
      by_cases hbig : 2000000 < p * (x + 1)
      · have t1 : decide ((2000000 : Int) < ((p * (x + 1) : Nat) : Int)) = true := decide_eq_true (by omega)
        have HW : Hid (workN n mo = 2000001) := by
          show _ = _
          have := prod_le (mo := mo) (n := n) (show k + 1 ≤ mo.length from hlt)
          rw [HP.out] at this
          unfold workN; rw [if_pos (by omega)]
        generalize p * (x + 1) = q at *
        go_wp2
        go_ret
        exact ⟨by rw [HW.out]; rfl, hB⟩
      · have t1 : decide ((2000000 : Int) < ((p * (x + 1) : Nat) : Int)) = false := decide_eq_false (by omega)
        generalize p * (x + 1) = q at *
        go_wp2
        go_roundg (mo.length - (k + 1))
        case measure => have := HGK.out; omega
        case rel => exact ⟨k + 1, rfl, by rw [HP.out], by go_num, by omega, by rw [HP.out]; omega, rfl⟩
    · have hd : ¬ (k : Int) < (mo.length : Int) := by omega
      have HW : Hid (workN n mo = prodN mo n k) := by
        show _ = _
        have e : k = mo.length := by omega
        unfold workN
        rw [← prod_all, ← e, if_neg (by omega)]
      go_wp2
      go_ret
      exact ⟨by rw [HW.out]; rfl, hB⟩

end Go.Proofs.Ytijkjhcigdfdgaa
