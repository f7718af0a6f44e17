/- What small, Example and Ints compute; the winners by the reference. -/
import Derived.Test.YtjhafakkadnfmaaSo14
import Derived.Test.YtjhafakkadnfmaaSo21
import Derived.Test.YtjhafakkadnfmaaC16
namespace Go.Proofs.Ytjhafakkadnfmaa
open Go.RowKit

/-- The reference's answer. -/
def solR (g : Gm) : List Int := if validB g then (List.range g.owner.length).map (winF (regF g g.owner.length (g.owner.length + 1) (List.replicate g.owner.length true))) else []
theorem solR_is (g : Gm) : IsSol g (solR g) := by
  refine ⟨fun h => by unfold solR; rw [h]; rfl, fun h => ?_⟩
  have F := valid_fits h 0 (.inl rfl)
  have hset : ∀ i, setOf (List.replicate g.owner.length true) i ↔ i < g.owner.length := fun i => by
    constructor
    · intro hi; have := set_lt hi; simpa using this
    · intro hi; simp [setOf, List.getD, hi]
  have hT : Total g (setOf (List.replicate g.owner.length true)) := fun i hi => by
    have hi' := (hset i).1 hi
    obtain ⟨x, hx⟩ := List.exists_mem_of_ne_nil _ (F.ne i hi')
    obtain ⟨v, rfl, hv⟩ := valid_rg h i hi' x hx
    exact ⟨v, hx, (hset v).2 hv⟩
  obtain ⟨h1, -, h2⟩ := regF_sol (n := g.owner.length) (valid_rg h) (valid_own h) (valid_pri h) (g.owner.length + 1) (List.replicate g.owner.length true) (by simp) (by rw [List.count_replicate]; simp) hT
  unfold solR
  rw [if_pos h]
  refine ⟨by simp, (h2.congrS hset).congr fun i hi => ?_⟩
  simp [List.getD, hi]
theorem IsSol.eq {g : Gm} {l : List Int} (h : IsSol g l) : l = solR g := h.unique (solR_is g)

theorem Ints23_c (w : World) (va vb : Value) (la lb : List Int) (ha : IsInts w va la) (hb : IsInts w vb lb) :
    Calls Try.prog 12 #[va, vb] w (Quiet (.bool (decide (la = lb))) w) := by
  obtain ⟨⟨aoa, ca, ba, oa, rfl, ha⟩, _⟩ := ha
  obtain ⟨⟨aob, cb, bb, ob, rfl, hb⟩, _⟩ := hb
  have hna := ha.nb
  have hnb := hb.nb
  by_cases hl : la.length = lb.length
  · have hne : ((la.length : Int) != lb.length) = false := by simp [hl]
    have HL := Lib.hid hl
    clear hl
    go_enter Try.func12, Try.ntmps12
    go_wp2
    go_loopw [5] (fun i wr => ∃ k n : Nat, i = .int .i64 k ∧ wr = w.drewN n ∧ k ≤ la.length ∧ la.take k = lb.take k) (fun i _ => la.length - (intOf i).toNat)
    case atStart => exact ⟨0, 0, rfl, rfl, by omega, by simp⟩
    case round =>
      obtain ⟨k, n, rfl, rfl, hk, heq⟩ := hrel
      have HE := Lib.hid heq
      clear heq
      by_cases hlt : k < la.length
      · have hltb : k < lb.length := by rw [← HL.out]; exact hlt
        obtain rfl := ha.ad (by omega)
        obtain rfl := hb.ad (by omega)
        have c1 := ha.el k hlt
        have c2 := hb.el k hltb
        unfold ivF at c1 c2
        go_wp2
        go_quiet (fail)
        go_wp2
        · have hd : (la[k] != lb[k]) = true := by assumption
          go_ret
          refine ⟨ret_bool (Eq.symm (decide_eq_false ?_)), _, World.drewN_drewN ..⟩
          rintro rfl
          simp at hd
        · have hd : (la[k] != lb[k]) = false := by assumption
          go_roundw
          case rel => exact ⟨k + 1, _, by go_num, rfl, by omega, take_succ_eq hlt hltb HE.out (by simpa using hd)⟩
          case measure => simp [intOf]; omega
      · go_wp2
        go_ret
        refine ⟨ret_bool (Eq.symm (decide_eq_true ?_)), n, rfl⟩
        have h1 := HE.out
        have h2 := HL.out
        rwa [List.take_of_length_le (by omega), List.take_of_length_le (by omega)] at h1
  · have hne : ((la.length : Int) != lb.length) = true := by simp; omega
    go_enter Try.func12, Try.ntmps12
    go_wp2
    go_ret
    exact ⟨ret_bool (Eq.symm (decide_eq_false (by rintro rfl; exact hl rfl))), 0, rfl⟩

/-- What Solve leaves, told by the reference's answer. -/
theorem SolveR_c (w : World) (vg : Value) (g : Gm) (hg : IsGame w vg g) (hS : ∀ i, (g.succ.getD i []).length ≤ 1000) :
    Calls Try.prog 13 #[vg] w (fun e w' => ∃ v, e = .returned v ∧ IsInts w' v (solR g) ∧ Below w.heap.size w w') :=
  (Solve_c w vg g hg hS).mono fun e w' ⟨v, l, he, hi, hs, hb⟩ => ⟨v, he, by rw [← hs.eq]; exact hi, hb⟩

def smallV (g : Gm) (most : Int) : Bool := smallB g most && validB g
theorem small_c (w : World) (vg : Value) (g : Gm) (most : Int) (hg : IsGame w vg g) :
    Calls Try.prog 15 #[vg, .int .i64 most] w (Calm (.bool (smallV g most)) w) := by
  obtain ⟨v0, v1, v2, rfl, i0, i1, i2⟩ := id hg
  have HG := Lib.hid hg
  clear hg
  obtain ⟨⟨ao0, cap0, b0, off0, rfl, -⟩, -⟩ := i0
  obtain ⟨⟨ao1, cap1, b1, off1, rfl, -⟩, -⟩ := i1
  obtain ⟨V, ⟨ao2, cap2, b2, off2, rfl, -⟩, -⟩ := i2
  have HV : Hid (smallV g most = (smallB g most && validB g)) := rfl
  go_enter Try.func15, Try.ntmps15
  go_upto_region 1 with (fail)
  have hb1 := bel_box (w := w) (Obj.cells #[Value.slice ao0 g.owner.length cap0, Value.slice ao1 g.prio.length cap1, Value.slice ao2 g.succ.length cap2] 25)
  have k := heap_alloc_new w (Obj.cells #[Value.slice ao0 g.owner.length cap0, Value.slice ao1 g.prio.length cap1, Value.slice ao2 g.succ.length cap2] 25)
  generalize (w.alloc (Obj.cells #[Value.slice ao0 g.owner.length cap0, Value.slice ao1 g.prio.length cap1, Value.slice ao2 g.succ.length cap2] 25)) = w1 at *
  have HB1 := Lib.hid hb1
  have d0 := cell_of_row _ _ 0 _ _ _ k
  have d1 := cell_of_row _ _ 1 _ _ _ k
  have d2 := cell_of_row _ _ 2 _ _ _ k
  clear hb1 k
  go_wp2_with fail
  refine (Small_c w1 _ g most (HG.out.below HB1.out)).mono ?_
  rintro e w2 ⟨rfl, hb2⟩
  have d0 := cellB hb2 d0
  have d1 := cellB hb2 d1
  have d2 := cellB hb2 d2
  have HB2 := Lib.hid (HB1.out.trans (hb2.mono HB1.out.size))
  clear hb2
  generalize smallB g most = q at *
  cases q with
  | false =>
    go_wp2
    go_ret
    exact ⟨ret_bool (by rw [HV.out]; rfl), HB2.out⟩
  | true =>
    go_wp2_with fail
    refine (RValid_c w2 _ g (HG.out.below HB2.out)).mono ?_
    rintro e w3 ⟨rfl, hb3⟩
    have hF := HB2.out.trans (hb3.mono HB2.out.size)
    go_wp2
    go_ret
    exact ⟨ret_bool (by rw [HV.out]; rfl), hF⟩

/-- The game of the examples. -/
def ex23 (pr : List Int) : Gm := ⟨[0, 1, 0, 1], pr, [[1, 2], [0, 3], [2], [2, 3]]⟩

theorem Example23_c (w : World) (v : Value) (pr : List Int) (hp : IsInts w v pr) : Calls Try.prog 28 #[v] w (NewGame (ex23 pr) w) := by
  obtain ⟨⟨ao, cap, b, off, rfl, -⟩, -⟩ := id hp
  have HP := Lib.hid hp
  clear hp
  go_enter Try.func28, Try.ntmps28
  go_wp2
  refine bodyPost_ret (v := .agg #[.slice (some ⟨w.heap.size + 1, 0, none⟩) 4 4, .slice ao pr.length cap, .slice (some ⟨w.heap.size + 1 + 1 + 1 + 1 + 1 + 1, 0, none⟩) 4 4]) (by simp [results, Try.results28, go_sem]) rfl ⟨_, rfl, ⟨_, _, _, rfl, ints_block (ex23 pr).owner (by (repeat (rw [alloc_get]; first | rw [if_pos (by first | (simp; done) | (simp; omega))] | rw [if_neg (by first | (simp; done) | (simp; omega))])); (try rfl)) (by simp [ex23]) (by simp [ex23, I64]), HP.out.below (by repeat (first | exact Below.refl _ _ | assumption | (refine belA ?_ _) | (refine belD ?_ _))), ?_⟩, (by repeat (first | exact Below.refl _ _ | assumption | (refine belA ?_ _) | (refine belD ?_ _)))⟩
  refine ⟨fun j => [Value.slice (some ⟨w.heap.size + 1 + 1, 0, none⟩) 2 2, .slice (some ⟨w.heap.size + 1 + 1 + 1, 0, none⟩) 2 2, .slice (some ⟨w.heap.size + 1 + 1 + 1 + 1, 0, none⟩) 1 1, .slice (some ⟨w.heap.size + 1 + 1 + 1 + 1 + 1, 0, none⟩) 2 2].getD j undef, ⟨_, _, w.heap.size + 1 + 1 + 1 + 1 + 1 + 1, 0, rfl, Nat.le_refl _, by simp [maxLen], by simp [maxN, ex23], (fun h => by cases h), fun _ => rfl, ?_⟩, ?_⟩
  · intro j hj
    rw [Nat.zero_add, cell_of_row _ _ j _ 22 (0, 0) (by (repeat (rw [alloc_get]; first | rw [if_pos (by first | (simp; done) | (simp; omega))] | rw [if_neg (by first | (simp; done) | (simp; omega))])); (try rfl))]
    match j, hj with
    | 0, _ => rfl
    | 1, _ => rfl
    | 2, _ => rfl
    | 3, _ => rfl
  · intro j hj
    match j, hj with
    | 0, _ => exact ints_block [1, 2] (by (repeat (rw [alloc_get]; first | rw [if_pos (by first | (simp; done) | (simp; omega))] | rw [if_neg (by first | (simp; done) | (simp; omega))])); (try rfl)) (by decide) (by simp [I64])
    | 1, _ => exact ints_block [0, 3] (by (repeat (rw [alloc_get]; first | rw [if_pos (by first | (simp; done) | (simp; omega))] | rw [if_neg (by first | (simp; done) | (simp; omega))])); (try rfl)) (by decide) (by simp [I64])
    | 2, _ => exact ints_block [2] (by (repeat (rw [alloc_get]; first | rw [if_pos (by first | (simp; done) | (simp; omega))] | rw [if_neg (by first | (simp; done) | (simp; omega))])); (try rfl)) (by decide) (by simp [I64])
    | 3, _ => exact ints_block [2, 3] (by (repeat (rw [alloc_get]; first | rw [if_pos (by first | (simp; done) | (simp; omega))] | rw [if_neg (by first | (simp; done) | (simp; omega))])); (try rfl)) (by decide) (by simp [I64])

theorem ex_sol1 : solR (ex23 [1, 1, 0, 1]) = [0, 1, 0, 1] := by decide +kernel
theorem ex_sol2 : solR (ex23 [0, 1, 1, 2]) = [1, 1, 1, 1] := by decide +kernel
theorem ex_sol3 : solR (ex23 [0, 1, 3, 2]) = [1, 1, 1, 1] := by decide +kernel
theorem ex_sol4 : solR (ex23 [0, 2, 2, 4]) = [0, 0, 0, 0] := by decide +kernel
theorem ex_sol5 : solR ⟨[0], [0], [[]]⟩ = [] := by decide +kernel
theorem ex_att : fitsB (ex23 [1, 1, 0, 1]) 0 4 = true ∧ (attQ (ex23 [1, 1, 0, 1]) 0 [false, false, true, false]).inn = [true, false, true, false] := by decide +kernel
theorem ex_valid : validB (ex23 [0, 0, 0, 0]) = true := by decide +kernel
theorem ex_sl (pr : List Int) : ∀ i, ((ex23 pr).succ.getD i []).length ≤ 1000 := fun i => by
  match i with
  | 0 => simp [ex23]
  | 1 => simp [ex23]
  | 2 => simp [ex23]
  | 3 => simp [ex23]
  | n + 4 => simp [ex23]

end Go.Proofs.Ytjhafakkadnfmaa
