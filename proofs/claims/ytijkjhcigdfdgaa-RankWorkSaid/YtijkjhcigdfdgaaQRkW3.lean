/- Work, measure, along. -/
import Derived.Test.YtijkjhcigdfdgaaQRkW2
namespace Go.Proofs.Ytijkjhcigdfdgaa
open Go.RowKit

/-- The product of the first factors. -/
def prodN (mo : List Nat) (n : Nat) : Nat → Nat
  | 0 => n
  | j + 1 => prodN mo n j * (mo.getD j 0 + 1)
theorem prod_unit {mo : List Nat} {n : Nat} : ∀ (j : Nat), j ≤ mo.length → prodN mo n j * unitN mo j = n * unitL mo
  | 0, _ => rfl
  | j + 1, h => by
    rw [← prod_unit j (by omega), unit_step (show j < mo.length by omega)]
    show prodN mo n j * (mo.getD j 0 + 1) * _ = _
    rw [Nat.mul_assoc]
theorem prod_all (mo : List Nat) (n : Nat) : prodN mo n mo.length = n * unitL mo := by
  have := prod_unit (mo := mo) (n := n) mo.length (Nat.le_refl _)
  rwa [unit_end (Nat.le_refl _), Nat.mul_one] at this
theorem prod_le {mo : List Nat} {n j : Nat} (h : j ≤ mo.length) : prodN mo n j ≤ n * unitL mo := by
  rw [← prod_unit j h]
  exact Nat.le_mul_of_pos_right _ (unit_pos mo j)

set_option maxRecDepth 100000 in
theorem work_c (w : World) (v : Value) (g : Gm) (mo : List Nat) (hv : IsView w v g mo) (hn : g.owner.length ≤ 3000) (hm : ∀ k, mo.getD k 0 ≤ 3000) :
    Calls Try.prog 34 #[v] w (Calm (.int .i64 (workN g.owner.length mo : Int)) w) := by
  obtain ⟨v0, v1, v2, vm, rfl, hg, hI⟩ := hv
  obtain ⟨h0, h1, h2⟩ := hg.parts3
  obtain ⟨a0, c0, rfl⟩ := h0.shape
  obtain ⟨am, cm, rfl⟩ := hI.shape
  obtain ⟨bM, oM, hdM, hmM, hVM⟩ := hI.dat
  have HV := Lib.hid hVM
  have HL : Hid ((castM mo).length = mo.length) := castM_len mo
  rw [HL.out] at hdM hmM HV ⊢
  clear h0 h1 h2 hg hI hVM
  generalize g.owner.length = n at *
  have hB : Below w.heap.size w (w.alloc (.cells #[.slice a0 n c0, v1, v2, .slice am mo.length cm] 49)) := (by repeat (first | exact Below.refl _ _ | assumption | (refine belA ?_ _) | (refine belD ?_ _)))
  go_enter Try.func34, Try.ntmps34
  go_wp2
  go_loopg [3, 13] mo.length (fun gh r i wr => ∃ k : Nat, gh = mo.length - k ∧ r = .int .i64 (prodN mo n k : Int) ∧ i = .int .i64 (k : Int) ∧ k ≤ mo.length ∧ prodN mo n k ≤ 2000000 ∧ wr = w.alloc (.cells #[.slice a0 n c0, v1, v2, .slice am mo.length cm] 49))
  case atStart => exact ⟨0, rfl, rfl, rfl, by omega, by show n ≤ _; omega, rfl⟩
  case round =>
    obtain ⟨k, hgk, rfl, rfl, hk, hpr, rfl⟩ := hrel
    have HGK := Lib.hid hgk
    clear hgk
    by_cases hlt : k < mo.length
    · have hk1 : (k : Int) < (mo.length : Int) := by omega
      obtain rfl := hdM (by omega)
      have c1 := cellB hB (HV.out k hlt)
      rw [castM_get hlt] at c1
      have HP : Hid (prodN mo n (k + 1) = prodN mo n k * (mo.getD k 0 + 1)) := rfl
      have hx := hm k
      generalize mo.getD k 0 = x at *
      generalize hp : prodN mo n k = p at *
      have hpp : p * (x + 1) ≤ 2000000 * 3001 := Nat.mul_le_mul hpr (by omega)
      have e1 : (p : Int) * ((x : Int) + 1) = ((p * (x + 1) : Nat) : Int) := by simp
      have e2 : IntKind.i64.wrap ((p : Int) * ((x : Int) + 1)) = ((p * (x + 1) : Nat) : Int) := by rw [e1]; exact IntWalk.i64_in _ ⟨by omega, by omega⟩
      by_cases hbig : 2000000 < p * (x + 1)
      · have t1 : decide ((2000000 : Int) < ((p * (x + 1) : Nat) : Int)) = true := decide_eq_true (by omega)
        have HW : Hid (workN n mo = 2000001) := by
          show _ = _
          have := prod_le (mo := mo) (n := n) (show k + 1 ≤ mo.length from hlt)
          rw [HP.out] at this
          unfold workN; rw [if_pos (by omega)]
        generalize p * (x + 1) = q at *
        go_wp2
        go_ret
        exact ⟨by rw [HW.out]; rfl, hB⟩
      · have t1 : decide ((2000000 : Int) < ((p * (x + 1) : Nat) : Int)) = false := decide_eq_false (by omega)
        generalize p * (x + 1) = q at *
        go_wp2
        go_roundg (mo.length - (k + 1))
        case measure => have := HGK.out; omega
        case rel => exact ⟨k + 1, rfl, by rw [HP.out], by go_num, by omega, by rw [HP.out]; omega, rfl⟩
    · have hd : ¬ (k : Int) < (mo.length : Int) := by omega
      have HW : Hid (workN n mo = prodN mo n k) := by
        show _ = _
        have e : k = mo.length := by omega
        unfold workN
        rw [← prod_all, ← e, if_neg (by omega)]
      go_wp2
      go_ret
      exact ⟨by rw [HW.out]; rfl, hB⟩

end Go.Proofs.Ytijkjhcigdfdgaa
