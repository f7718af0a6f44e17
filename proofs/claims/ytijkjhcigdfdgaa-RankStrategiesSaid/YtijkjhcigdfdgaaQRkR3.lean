/- The reference's bounds, work, and what it takes for a measure; Same. The reference's work, what it takes for a measure, and Same. -/
import Derived.Test.YtijkjhcigdfdgaaQRkR2
namespace Go.Proofs.Ytijkjhcigdfdgaa
open Go.RowKit

theorem cnt_take {l : List Int} {x : Int} {j : Nat} (h : j < l.length) : ((l.take (j + 1)).filter fun y => decide (y = x)).length = ((l.take j).filter fun y => decide (y = x)).length + if l.getD j 0 = x then 1 else 0 := by
  rw [List.take_succ_eq_append_getElem h, ← getD_lt _ 0 _ h, List.filter_append, List.length_append]
  by_cases e : l.getD j 0 = x
  · rw [if_pos e, List.filter_cons_of_pos (by simpa using e)]; simp
  · rw [if_neg e, List.filter_cons_of_neg (by simpa using e)]; simp
theorem castM_snoc (l : List Nat) (x : Nat) : castM (l ++ [x]) = castM l ++ [(x : Int)] := by simp [castM]

set_option maxRecDepth 100000 in
set_option maxHeartbeats 4000000 in
theorem Bounds_c (w : World) (vg : Value) (g : Gm) (hg : IsGame w vg g) (hn : g.prio.length ≤ 3000) (hh : highG g ≤ 30001) :
    Calls Try.prog 56 #[vg] w (NewSet (castM (moG g)) w) := by
  have HGC : Hid (∀ W, Below w.heap.size w W → Calls Try.prog 30 #[vg] W (Calm (.int .i64 (highG g)) W)) := fun W h => Greatest_c W vg g (hg.below h) hn
  obtain ⟨v0, v1, v2, rfl, g0, g1, g2⟩ := hg
  obtain ⟨a1, c1, rfl⟩ := g1.shape
  obtain ⟨b1, o1, d1, n1, f1⟩ := g1.dat
  have HF1 := Lib.hid f1
  have HD1 := Lib.hid d1
  obtain ⟨H, hH⟩ : ∃ H : Nat, highG g = (H : Int) := ⟨(highG g).toNat, by have := high_nn g; omega⟩
  have hHb : H ≤ 30001 := by omega
  have HMO : Hid (moG g = (List.range (partN H)).map (cntP g)) := by show _ = _; unfold moG; rw [hH]; rfl
  rw [hH] at HGC
  have hK : partN H = (H + 1) / 2 := rfl
  have HK := Lib.hid hK
  have HC0 : Hid (∀ k, cntP g k = ((g.prio.take g.prio.length).filter fun y => decide (y = ((2 * k + 1 : Nat) : Int))).length) := fun k => by rw [List.take_length]; rfl
  have HCS : Hid (∀ k j, j < g.prio.length → ((g.prio.take (j + 1)).filter fun y => decide (y = ((2 * k + 1 : Nat) : Int))).length = ((g.prio.take j).filter fun y => decide (y = ((2 * k + 1 : Nat) : Int))).length + if g.prio.getD j 0 = ((2 * k + 1 : Nat) : Int) then 1 else 0) := fun k j hj => cnt_take hj
  obtain ⟨C, hC⟩ : ∃ C : Nat → Nat → Nat, ∀ k j, C k j = ((g.prio.take j).filter fun y => decide (y = ((2 * k + 1 : Nat) : Int))).length := ⟨_, fun _ _ => rfl⟩
  simp only [← hC] at HC0 HCS
  have HCZ : Hid (∀ k, C k 0 = 0) := fun k => by rw [hC]; rfl
  have HCB : Hid (∀ k j, C k j ≤ j) := fun k j => by
    rw [hC]
    have h1 := List.length_filter_le (fun y => decide (y = ((2 * k + 1 : Nat) : Int))) (g.prio.take j)
    have h2 := List.length_take_le j g.prio
    omega
  clear hC g0 g1 g2 d1 f1 hh hH hK
  generalize moG g = mo at *
  obtain ⟨cn, hcn⟩ : ∃ cn : Nat → Nat, cn = cntP g := ⟨_, rfl⟩
  rw [← hcn] at HC0 HMO
  clear hcn
  obtain ⟨pr, hpr⟩ : ∃ pr : Nat → Int, ∀ j, pr j = g.prio.getD j 0 := ⟨_, fun _ => rfl⟩
  simp only [← hpr] at HF1 HCS
  clear hpr
  generalize g.prio.length = n at *
  generalize partN H = K at *
  have hx : (w.alloc (.cells #[v0, .slice a1 n c1, v2] 25)).heap[w.heap.size]? = some (.cells #[v0, .slice a1 n c1, v2] 25 (0, 0)) := (by (repeat (rw [alloc_get]; first | rw [if_pos (by first | (simp; done) | (simp; omega))] | rw [if_neg (by first | (simp; done) | (simp; omega))])); (try rfl))
  have hB : Below w.heap.size w (w.alloc (.cells #[v0, .slice a1 n c1, v2] 25)) := (by repeat (first | exact Below.refl _ _ | assumption | (refine belA ?_ _) | (refine belD ?_ _)))
  go_enter Try.func56, Try.ntmps56
  go_upto_region 1 with (fail)
  generalize (w.alloc (.cells #[v0, .slice a1 n c1, v2] 25)) = w1 at *
  have q0 := cell_of_row _ _ 0 _ _ _ hx
  have q1 := cell_of_row _ _ 1 _ _ _ hx
  have q2 := cell_of_row _ _ 2 _ _ _ hx
  have HB0 := Lib.hid hB
  clear hx hB
  go_wp2_with fail
  go_loopg [3, 4] K (fun gh v p wr => ∃ k : Nat, gh = K - k ∧ p = .int .i64 (2 * (k : Int) + 1) ∧ k ≤ K ∧ Hid (OI wr w1.heap.size v (castM ((List.range k).map cn))) ∧ Hid (Below w1.heap.size w1 wr))
  case atStart => exact ⟨0, rfl, rfl, by omega, OI_nil _ _, Below.refl _ _⟩
  case round =>
    obtain ⟨k, hgk, rfl, hk, HO, HB⟩ := hrel
    have HGK := Lib.hid hgk
    clear hgk
    have q0r := cellB HB.out q0
    have q1r := cellB HB.out q1
    have q2r := cellB HB.out q2
    go_wp2_with fail
    refine (HGC.out _ (HB0.out.trans (HB.out.mono HB0.out.size))).mono ?_
    rintro e w3 ⟨rfl, hb3⟩
    have HB3 := Lib.hid (HB.out.trans (hb3.mono HB.out.size))
    have HO3 := Lib.hid (HO.out.below hb3)
    have q1s := cellB hb3 q1r
    clear hb3 q0r q1r q2r HO HB
    by_cases hlt : k < K
    · as_aux_lemma =>
      have t1 : 2 * (k : Int) + 1 ≤ (H : Int) := by have := HK.out; omega
      have HCN : Hid (C k n = cn k) := by have := HC0.out k; exact this.symm
      have HCL : Hid (castM ((List.range (k + 1)).map cn) = castM ((List.range k).map cn) ++ [(cn k : Int)]) := by
        show _ = _
        rw [List.range_succ, List.map_append]
        exact castM_snoc _ _
      have hln : (castM ((List.range k).map cn)).length < 17592186043904 := by rw [castM_len, List.length_map, List.length_range]; omega
      have hbs : w1.heap.size ≤ w3.heap.size := HB3.out.size
      have HZ := Lib.hid (HCZ.out k)
      go_wp2_with fail
      go_loopg [5, 6] n (fun gh c i wr => ∃ j : Nat, gh = n - j ∧ c = .int .i64 (C k j : Int) ∧ i = .int .i64 (j : Int) ∧ j ≤ n ∧ w3 = wr)
      case atStart => exact ⟨0, rfl, by rw [HZ.out]; try rfl, rfl, by omega, rfl⟩
      case round =>
        obtain ⟨j, hgj, rfl, rfl, hj, rfl⟩ := hrel
        have HGJ := Lib.hid hgj
        clear hgj
        by_cases hjn : j < n
        · as_aux_lemma =>
          obtain rfl := HD1.out (by omega)
          have e1 := cellB (HB0.out.trans (HB3.out.mono HB0.out.size)) (HF1.out j hjn)
          have i1 : (j : Int) < (n : Int) := by omega
          have HS := Lib.hid (HCS.out k j hjn)
          have hcb := HCB.out k j
          generalize C k j = c at *
          by_cases e : pr j = ((2 * k + 1 : Nat) : Int)
          · have HS2 : Hid (C k (j + 1) = c + 1) := by show _ = _; rw [HS.out, if_pos e]
            have t5 : (pr j == 2 * (k : Int) + 1) = true := by rw [beq_iff_eq]; omega
            clear e
            generalize pr j = y at *
            go_wp2
            go_roundg (n - (j + 1))
            case measure => have := HGJ.out; omega
            case rel => exact ⟨j + 1, rfl, by rw [HS2.out] <;> go_num, by go_num, by omega, rfl⟩
          · have HS2 : Hid (C k (j + 1) = c) := by show _ = _; rw [HS.out, if_neg e]; try rfl
            have t5 : (pr j == 2 * (k : Int) + 1) = false := by rw [beq_eq_false_iff_ne]; omega
            clear e
            generalize pr j = y at *
            go_wp2
            go_roundg (n - (j + 1))
            case measure => have := HGJ.out; omega
            case rel => exact ⟨j + 1, rfl, by rw [HS2.out], by go_num, by omega, rfl⟩
        · as_aux_lemma =>
          obtain rfl : j = n := by omega
          have i1 : ¬ (j : Int) < (j : Int) := by omega
          rw [HCN.out]
          go_wp2_with (at_builtin; refine app_int rfl _ _ (cn k : Int) rfl w1.heap.size _ _ HO3.out rfl _ (by simp) rfl hln hbs ?_; intro v' w' hown' hg hmv)
          have HBN : Hid (Below w1.heap.size w1 w') := HB3.out.grown hg (by omega) (fun q hq => HO3.out.ge q hq)
          clear hg hmv
          go_roundg (K - (k + 1))
          case measure => have := HGK.out; omega
          case rel => exact ⟨k + 1, rfl, by congr 1 <;> omega, by omega, by rw [HCL.out]; exact hown', HBN⟩
    · as_aux_lemma =>
      obtain rfl : k = K := by omega
      have t1 : ¬ 2 * (k : Int) + 1 ≤ (H : Int) := by have := HK.out; omega
      go_wp2
      go_ret
      exact ⟨_, rfl, by rw [HMO.out]; exact HO3.out.base HB0.out.size, HB0.out.trans (HB3.out.mono HB0.out.size)⟩

end Go.Proofs.Ytijkjhcigdfdgaa

namespace Go.Proofs.Ytijkjhcigdfdgaa
open Go.RowKit

/-- The work behind the first factors. -/
def minP (mo : List Nat) (n k : Nat) : Nat := if 2000000 < prodN mo n k then 2000001 else prodN mo n k
theorem minP_step {mo : List Nat} {n k : Nat} : min (minP mo n k * (mo.getD k 0 + 1)) 2000001 = minP mo n (k + 1) := by
  have e : prodN mo n (k + 1) = prodN mo n k * (mo.getD k 0 + 1) := rfl
  have h1 : prodN mo n k ≤ prodN mo n k * (mo.getD k 0 + 1) := Nat.le_mul_of_pos_right _ (by omega)
  unfold minP
  rw [e]
  by_cases h : 2000000 < prodN mo n k
  · have h2 : 2000001 ≤ 2000001 * (mo.getD k 0 + 1) := Nat.le_mul_of_pos_right _ (by omega)
    rw [if_pos h, if_pos (by omega)]; omega
  · rw [if_neg h]
    split <;> omega
theorem minP_all {mo : List Nat} {n : Nat} : minP mo n mo.length = workN n mo := by
  unfold minP workN
  rw [prod_all]
theorem minP_le (mo : List Nat) (n k : Nat) : minP mo n k ≤ 2000001 := by unfold minP; split <;> omega

set_option maxRecDepth 100000 in
set_option maxHeartbeats 4000000 in
theorem rwork_c (w : World) (vg : Value) (g : Gm) (hg : IsGame w vg g) (h0 : g.owner.length ≤ 3000) (hn : g.prio.length ≤ 3000) (hh : highG g ≤ 30001) (hmb : ∀ k, (moG g).getD k 0 ≤ 3000) :
    Calls Try.prog 39 #[vg] w (Calm (.int .i64 (workN g.owner.length (moG g) : Int)) w) := by
  have HBC : Hid (∀ W, Below w.heap.size w W → Calls Try.prog 56 #[vg] W (NewSet (castM (moG g)) W)) := fun W h => Bounds_c W vg g (hg.below h) hn hh
  obtain ⟨v0, v1, v2, rfl, g0, g1, g2⟩ := hg
  obtain ⟨a0, c0, rfl⟩ := g0.shape
  have HML : Hid ((moG g).length ≤ 15001) := by show _ ≤ _; rw [mo_len]; unfold partN; omega
  have HAL : Hid (workN g.owner.length (moG g) = minP (moG g) g.owner.length (moG g).length) := minP_all.symm
  have HCI : Hid (∀ x ∈ castM (moG g), I64 x) := fun x hx => by
    obtain ⟨y, hy, rfl⟩ := List.mem_map.1 hx
    obtain ⟨i, hi, rfl⟩ := List.getElem_of_mem hy
    have := hmb i
    rw [getD_lt _ _ _ hi] at this
    show _ ∧ _
    constructor
    · have : (0 : Int) ≤ Int.ofNat (moG g)[i] := Int.natCast_nonneg _; omega
    · show ((moG g)[i] : Int) ≤ _; omega
  have HMB : Hid (∀ k, (moG g).getD k 0 ≤ 3000) := hmb
  clear g0 g1 g2 hn hh hmb
  generalize moG g = mo at *
  generalize workN g.owner.length mo = res at *
  generalize g.owner.length = n at *
  have HZ : Hid (minP mo n 0 = n) := by show _ = _; unfold minP; rw [show prodN mo n 0 = n from rfl, if_neg (by omega)]
  have hx : (w.alloc (.cells #[.slice a0 n c0, v1, v2] 25)).heap[w.heap.size]? = some (.cells #[.slice a0 n c0, v1, v2] 25 (0, 0)) := (by (repeat (rw [alloc_get]; first | rw [if_pos (by first | (simp; done) | (simp; omega))] | rw [if_neg (by first | (simp; done) | (simp; omega))])); (try rfl))
  have hB : Below w.heap.size w (w.alloc (.cells #[.slice a0 n c0, v1, v2] 25)) := (by repeat (first | exact Below.refl _ _ | assumption | (refine belA ?_ _) | (refine belD ?_ _)))
  go_enter Try.func39, Try.ntmps39
  go_upto_region 1 with (fail)
  generalize (w.alloc (.cells #[.slice a0 n c0, v1, v2] 25)) = w1 at *
  have q0 := cell_of_row _ _ 0 _ _ _ hx
  have q1 := cell_of_row _ _ 1 _ _ _ hx
  have q2 := cell_of_row _ _ 2 _ _ _ hx
  have HB0 := Lib.hid hB
  clear hx hB
  go_wp2_with fail
  refine (HBC.out _ HB0.out).mono ?_
  rintro e w2 ⟨vb, rfl, hO, hb⟩
  have HB2 := Lib.hid (HB0.out.trans (hb.mono HB0.out.size))
  have HI := Lib.hid (hO.is (by rw [castM_len]; have := HML.out; unfold maxN; omega) HCI.out)
  obtain ⟨ab, cb, rfl⟩ := HI.out.shape
  obtain ⟨bb, ob, db, nb, fb⟩ := HI.out.dat
  rw [castM_len] at db nb fb ⊢
  have HD := Lib.hid db
  have HF : Hid (∀ j, j < mo.length → w2.cell? ⟨bb, ob + j, none⟩ = some (.int .i64 (mo.getD j 0 : Int))) := fun j hj => by rw [fb j hj, castM_get hj]
  clear hO hb HI db fb q0 q1 q2
  have HSP : Hid (∀ k, min (minP mo n k * (mo.getD k 0 + 1)) 2000001 = minP mo n (k + 1)) := fun k => minP_step
  generalize mo.length = L at *
  go_wp2_with fail
  go_loopg [3, 5] L (fun gh r i wr => ∃ k nd : Nat, gh = L - k ∧ r = .int .i64 (minP mo n k : Int) ∧ i = .int .i64 (k : Int) ∧ k ≤ L ∧ Hid (wr = w2.drewN nd))
  case atStart => exact ⟨0, 0, rfl, by rw [HZ.out], rfl, by omega, rfl⟩
  case round =>
    obtain ⟨k, nd, hgk, rfl, rfl, hk, HW⟩ := hrel
    have HGK := Lib.hid hgk
    clear hgk
    by_cases hlt : k < L
    · as_aux_lemma =>
      obtain rfl := HD.out (by omega)
      have i1 : (k : Int) < (L : Int) := by omega
      have HBW : Hid (Below w2.heap.size w2 wr) := by show Below _ _ _; rw [HW.out]; exact below_draws _ _ _
      have e1 := cellB HBW.out (HF.out k hlt)
      have HS := Lib.hid (HSP.out k)
      have hx := HMB.out k
      have hy := minP_le mo n k
      generalize minP mo n k = y at *
      generalize mo.getD k 0 = x at *
      have hpp : y * (x + 1) ≤ 2000001 * 3001 := Nat.mul_le_mul hy (by omega)
      have e2 : (y : Int) * ((x : Int) + 1) = ((y * (x + 1) : Nat) : Int) := by simp
      have e3 : IntKind.i64.wrap ((y : Int) * ((x : Int) + 1)) = ((y * (x + 1) : Nat) : Int) := by rw [e2]; exact IntWalk.i64_in _ ⟨by omega, by omega⟩
      have e4 : IntKind.i64.wrap ((x : Int) + 1) = (x : Int) + 1 := IntWalk.i64_in _ ⟨by omega, by omega⟩
      generalize y * (x + 1) = z at *
      go_upto_region 6 with (fail)
      go_region_with ((go_at_call 40; refine (limit_c _).mono ?_; rintro e w' ⟨rfl, rfl⟩))
      all_goals go_wp2
      all_goals
        go_roundg (L - (k + 1))
        case measure => have := HGK.out; omega
        case rel => exact ⟨k + 1, _, rfl, by rw [← HS.out]; congr 1 <;> omega, by go_num, by omega, by show _ = _; rw [HW.out]; exact (World.drewN_drewN w2 nd 1)⟩
    · as_aux_lemma =>
      obtain rfl : k = L := by omega
      have i1 : ¬ (k : Int) < (k : Int) := by omega
      go_wp2
      go_ret
      exact ⟨by rw [HAL.out]; rfl, HB2.out.trans (by rw [HW.out]; exact below_draws _ _ _)⟩

end Go.Proofs.Ytijkjhcigdfdgaa
