/- The reference's work, what it takes for a measure, and Same. -/
import Derived.Test.YtijkjhcigdfdgaaQRkR3
namespace Go.Proofs.Ytijkjhcigdfdgaa
open Go.RowKit

/-- The work behind the first factors. -/
def minP (mo : List Nat) (n k : Nat) : Nat := if 2000000 < prodN mo n k then 2000001 else prodN mo n k
theorem minP_step {mo : List Nat} {n k : Nat} : min (minP mo n k * (mo.getD k 0 + 1)) 2000001 = minP mo n (k + 1) := by
  have e : prodN mo n (k + 1) = prodN mo n k * (mo.getD k 0 + 1) := rfl
  have h1 : prodN mo n k ≤ prodN mo n k * (mo.getD k 0 + 1) := Nat.le_mul_of_pos_right _ (by omega)
  unfold minP
  rw [e]
  by_cases h : 2000000 < prodN mo n k
  · have h2 : 2000001 ≤ 2000001 * (mo.getD k 0 + 1) := Nat.le_mul_of_pos_right _ (by omega)
    rw [if_pos h, if_pos (by omega)]; omega
  · rw [if_neg h]
    split <;> omega
theorem minP_all {mo : List Nat} {n : Nat} : minP mo n mo.length = workN n mo := by
  unfold minP workN
  rw [prod_all]
theorem minP_le (mo : List Nat) (n k : Nat) : minP mo n k ≤ 2000001 := by unfold minP; split <;> omega

set_option maxRecDepth 100000 in
set_option maxHeartbeats 4000000 in
theorem rwork_c (w : World) (vg : Value) (g : Gm) (hg : IsGame w vg g) (h0 : g.owner.length ≤ 3000) (hn : g.prio.length ≤ 3000) (hh : highG g ≤ 30001) (hmb : ∀ k, (moG g).getD k 0 ≤ 3000) :
    Calls Try.prog 39 #[vg] w (Calm (.int .i64 (workN g.owner.length (moG g) : Int)) w) := by
  have HBC : Hid (∀ W, Below w.heap.size w W → Calls Try.prog 56 #[vg] W (NewSet (castM (moG g)) W)) := fun W h => Bounds_c W vg g (hg.below h) hn hh
  obtain ⟨v0, v1, v2, rfl, g0, g1, g2⟩ := hg
  obtain ⟨a0, c0, rfl⟩ := g0.shape
  have HML : Hid ((moG g).length ≤ 15001) := by show _ ≤ _; rw [mo_len]; unfold partN; omega
  have HAL : Hid (workN g.owner.length (moG g) = minP (moG g) g.owner.length (moG g).length) := minP_all.symm
  have HCI : Hid (∀ x ∈ castM (moG g), I64 x) := fun x hx => by
    obtain ⟨y, hy, rfl⟩ := List.mem_map.1 hx
    obtain ⟨i, hi, rfl⟩ := List.getElem_of_mem hy
    have := hmb i
    rw [getD_lt _ _ _ hi] at this
    show _ ∧ _
    constructor
    · have : (0 : Int) ≤ Int.ofNat (moG g)[i] := Int.natCast_nonneg _; omega
    · show ((moG g)[i] : Int) ≤ _; omega
  have HMB : Hid (∀ k, (moG g).getD k 0 ≤ 3000) := hmb
  clear g0 g1 g2 hn hh hmb
  generalize moG g = mo at *
  generalize workN g.owner.length mo = res at *
  generalize g.owner.length = n at *
  have HZ : Hid (minP mo n 0 = n) := by show _ = _; unfold minP; rw [show prodN mo n 0 = n from rfl, if_neg (by omega)]
  have hx : (w.alloc (.cells #[.slice a0 n c0, v1, v2] 25)).heap[w.heap.size]? = some (.cells #[.slice a0 n c0, v1, v2] 25 (0, 0)) := (by (repeat (rw [alloc_get]; first | rw [if_pos (by first | (simp; done) | (simp; omega))] | rw [if_neg (by first | (simp; done) | (simp; omega))])); (try rfl))
  have hB : Below w.heap.size w (w.alloc (.cells #[.slice a0 n c0, v1, v2] 25)) := (by repeat (first | exact Below.refl _ _ | assumption | (refine belA ?_ _) | (refine belD ?_ _)))
  go_enter Try.func39, Try.ntmps39
  go_upto_region 1 with (fail)
  generalize (w.alloc (.cells #[.slice a0 n c0, v1, v2] 25)) = w1 at *
  have q0 := cell_of_row _ _ 0 _ _ _ hx
  have q1 := cell_of_row _ _ 1 _ _ _ hx
  have q2 := cell_of_row _ _ 2 _ _ _ hx
  have HB0 := Lib.hid hB
  clear hx hB
  go_wp2_with fail
  refine (HBC.out _ HB0.out).mono ?_
  rintro e w2 ⟨vb, rfl, hO, hb⟩
  have HB2 := Lib.hid (HB0.out.trans (hb.mono HB0.out.size))
  have HI := Lib.hid (hO.is (by rw [castM_len]; have := HML.out; unfold maxN; omega) HCI.out)
  obtain ⟨ab, cb, rfl⟩ := HI.out.shape
  obtain ⟨bb, ob, db, nb, fb⟩ := HI.out.dat
  rw [castM_len] at db nb fb ⊢
  have HD := Lib.hid db
  have HF : Hid (∀ j, j < mo.length → w2.cell? ⟨bb, ob + j, none⟩ = some (.int .i64 (mo.getD j 0 : Int))) := fun j hj => by rw [fb j hj, castM_get hj]
  clear hO hb HI db fb q0 q1 q2
  have HSP : Hid (∀ k, min (minP mo n k * (mo.getD k 0 + 1)) 2000001 = minP mo n (k + 1)) := fun k => minP_step
  generalize mo.length = L at *
  go_wp2_with fail
  go_loopg [3, 5] L (fun gh r i wr => ∃ k nd : Nat, gh = L - k ∧ r = .int .i64 (minP mo n k : Int) ∧ i = .int .i64 (k : Int) ∧ k ≤ L ∧ Hid (wr = w2.drewN nd))
  case atStart => exact ⟨0, 0, rfl, by rw [HZ.out], rfl, by omega, rfl⟩
  case round =>
    obtain ⟨k, nd, hgk, rfl, rfl, hk, HW⟩ := hrel
    have HGK := Lib.hid hgk
    clear hgk
    by_cases hlt : k < L
    · as_aux_lemma =>
      obtain rfl := HD.out (by omega)
      have i1 : (k : Int) < (L : Int) := by omega
      have HBW : Hid (Below w2.heap.size w2 wr) := by show Below _ _ _; rw [HW.out]; exact below_draws _ _ _
      have e1 := cellB HBW.out (HF.out k hlt)
      have HS := Lib.hid (HSP.out k)
      have hx := HMB.out k
      have hy := minP_le mo n k
      generalize minP mo n k = y at *
      generalize mo.getD k 0 = x at *
      have hpp : y * (x + 1) ≤ 2000001 * 3001 := Nat.mul_le_mul hy (by omega)
      have e2 : (y : Int) * ((x : Int) + 1) = ((y * (x + 1) : Nat) : Int) := by simp
      have e3 : IntKind.i64.wrap ((y : Int) * ((x : Int) + 1)) = ((y * (x + 1) : Nat) : Int) := by rw [e2]; exact IntWalk.i64_in _ ⟨by omega, by omega⟩
      have e4 : IntKind.i64.wrap ((x : Int) + 1) = (x : Int) + 1 := IntWalk.i64_in _ ⟨by omega, by omega⟩
      generalize y * (x + 1) = z at *
      go_upto_region 6 with (fail)
      go_region_with ((go_at_call 40; refine (limit_c _).mono ?_; rintro e w' ⟨rfl, rfl⟩))
      all_goals go_wp2
      all_goals
        go_roundg (L - (k + 1))
        case measure => have := HGK.out; omega
        case rel => exact ⟨k + 1, _, rfl, by rw [← HS.out]; congr 1 <;> omega, by go_num, by omega, by show _ = _; rw [HW.out]; exact (World.drewN_drewN w2 nd 1)⟩
    · as_aux_lemma =>
      obtain rfl : k = L := by omega
      have i1 : ¬ (k : Int) < (k : Int) := by omega
      go_wp2
      go_ret
      exact ⟨by rw [HAL.out]; rfl, HB2.out.trans (by rw [HW.out]; exact below_draws _ _ _)⟩

end Go.Proofs.Ytijkjhcigdfdgaa
