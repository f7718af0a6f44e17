/- What count computes: Letters, Inputs, Outputs. -/
import Derived.Test.YtlfackilmpnlhaaDoorSg5
import Derived.Sort.CutIn
namespace Go.Proofs.YtlfackilmpnlhaaDoor
open Go.RowKit Go.Shelf
attribute [local go_sem] Oper.semAt_some

theorem prod_wrap {p z : Int} (h1 : 1 ≤ p) (h2 : p ≤ 4096) (h3 : 2 ≤ z) (h4 : z ≤ 4) : IntKind.i64.wrap (p * z) = p * z := by
  refine IntWalk.i64_in _ ⟨?_, ?_⟩
  · have := Int.mul_nonneg (show 0 ≤ p by omega) (show 0 ≤ z by omega); omega
  · have := Int.mul_le_mul h2 h4 (by omega) (by omega); omega

theorem new1 (w : World) (v : Value) (t : TypeId) : (w.alloc (.cells #[v] t)).cell? ⟨w.heap.size, 0, none⟩ = some v := cell_of_row _ _ 0 #[v] t (0, 0) (heap_alloc_new _ _)
theorem newF (w : World) (v : Value) (t : TypeId) : (w.alloc (.cells #[v] t)).frozen? ⟨w.heap.size, 0, none⟩ = false := frozen_of_row _ _ 0 _ _ (heap_alloc_new _ _)

theorem keepsFrom_of_below {B : Nat} {W W' : World} (h : Below W.heap.size W W') : KeepsFrom B W W' := ⟨h.size, fun i _ _ hi _ => (h.block i (Array.getElem?_eq_some_iff.1 hi).1).trans hi⟩

/-- What lies in the boxes of count: the slice, the function, the product, the iterator's slice. -/
def CountI (w : World) (vs vf : Value) (p : Int) (W : World) : Prop :=
  W.cell? ⟨w.heap.size + 2, 0, none⟩ = some (.int .i64 p) ∧ W.frozen? ⟨w.heap.size + 2, 0, none⟩ = false ∧ W.cell? ⟨w.heap.size, 0, none⟩ = some vs ∧ W.cell? ⟨w.heap.size + 1, 0, none⟩ = some vf ∧ W.cell? ⟨w.heap.size + 3, 0, none⟩ = some vs

theorem countI_own (w : World) (vs vf : Value) {α : Type} (f : α → Int) (B : Nat) : OwnFrom B (fun (s : α) W => CountI w vs vf (f s) W) :=
  Own.from (fun _ _ _ _ hs hg hr => ⟨cell_kept hs.1 hg hr, (frozen_kept hs.1 hg hr).trans hs.2.1, cell_kept hs.2.2.1 hg hr, cell_kept hs.2.2.2.1 hg hr, cell_kept hs.2.2.2.2 hg hr⟩) _

theorem CountI.below {w W W3 : World} {vs vf : Value} {p : Int} (h : CountI w vs vf p W) (hb : Below W.heap.size W W3) : CountI w vs vf p W3 :=
  ⟨cellB hb h.1, (hb.frozen (p := ⟨w.heap.size + 2, 0, none⟩) (World.block_lt_of_cell? W _ h.1)).trans h.2.1, cellB hb h.2.2.1, cellB hb h.2.2.2.1, cellB hb h.2.2.2.2⟩

theorem cell_set_far {W : World} {a b : Nat} {u v : Value} (h : W.cell? ⟨a, 0, none⟩ = some v) (hne : a ≠ b) : (W.setCell ⟨b, 0, none⟩ u).cell? ⟨a, 0, none⟩ = some v :=
  (World.cell?_of_block (a := ⟨a, 0, none⟩) (heap_setCell_other W ⟨b, 0, none⟩ a u hne)).trans h

theorem CountI.set {w W : World} {vs vf : Value} {p : Int} (h : CountI w vs vf p W) (q : Int) : CountI w vs vf q (W.setCell ⟨w.heap.size + 2, 0, none⟩ (.int .i64 q)) :=
  ⟨World.cell?_setCell_same' _ _ _ (by rw [h.1]; rfl), by rw [World.frozen?_setCell]; exact h.2.1, cell_set_far h.2.2.1 (by omega), cell_set_far h.2.2.2.1 (by omega), cell_set_far h.2.2.2.2 (by omega)⟩

/-- A round that multiplies. -/
theorem count_round {B : Nat} {w W W3 : World} {vs vf : Value} {p q : Int} (h : CountI w vs vf p W) (hB : Below w.heap.size w W) (hb : Below W.heap.size W W3) :
    KeepsFrom B W (W3.setCell ⟨w.heap.size + 2, 0, none⟩ (.int .i64 q)).drew ∧ KpW w.heap.size (w.heap.size + 3) W (W3.setCell ⟨w.heap.size + 2, 0, none⟩ (.int .i64 q)).drew ∧
      CountI w vs vf q (W3.setCell ⟨w.heap.size + 2, 0, none⟩ (.int .i64 q)).drew ∧ Below w.heap.size w (W3.setCell ⟨w.heap.size + 2, 0, none⟩ (.int .i64 q)).drew := by
  have h3 := (h.below hb).set q
  have hb2 : Below w.heap.size W (W3.setCell ⟨w.heap.size + 2, 0, none⟩ (.int .i64 q)).drew := ((hb.mono hB.size).setCell (p := ⟨w.heap.size + 2, 0, none⟩) (by simp) _).trans (Below.drew (Below.refl _ _))
  refine ⟨((keepsFrom_of_below hb).trans ((KeepsOthers.setCell _ _ _).from _)).trans ((KeepsOthers.drew _).from _), ⟨hb2, ?_⟩, h3, hB.trans hb2⟩
  show (W3.setCell ⟨w.heap.size + 2, 0, none⟩ (.int .i64 q)).heap[w.heap.size + 3]? = _
  rw [heap_setCell_other W3 ⟨w.heap.size + 2, 0, none⟩ (w.heap.size + 3) _ (by simp)]
  exact hb.block _ (World.block_lt_of_cell? W _ h.2.2.2.2)

/-- A round that leaves the product. -/
theorem count_skip {B : Nat} {w W W3 : World} {vs vf : Value} {p : Int} (h : CountI w vs vf p W) (hB : Below w.heap.size w W) (hb : Below W.heap.size W W3) :
    KeepsFrom B W W3 ∧ KpW w.heap.size (w.heap.size + 3) W W3 ∧ CountI w vs vf p W3 ∧ Below w.heap.size w W3 :=
  ⟨keepsFrom_of_below hb, ⟨hb.mono hB.size, hb.block _ (World.block_lt_of_cell? W _ h.2.2.2.2)⟩, h.below hb, hB.trans (hb.mono hB.size)⟩

set_option maxRecDepth 100000 in
set_option maxHeartbeats 4000000 in
theorem count0_c (w : World) (vl : Value) (l : List Sig) (hK : Keys w) (hl : IsSigs w vl l) :
    Calls Tryd.prog 39 #[vl, .func (.func 40) #[] #[]] w (Calm (.int .i64 (if validS l then prodC (fun _ => true) l else 0)) w) := by
  have hlx := hl
  obtain ⟨ao, cap, b, off, rfl, hl⟩ := hl
  have hn := hl.nb
  cases hv : validS l
  · go_enter Tryd.func39, Tryd.ntmps39
    go_wp2_with fail
    refine (SValid_c _ _ l (hK.below (by repeat (first | exact Below.refl _ _ | assumption | (refine belA ?_ _) | (refine belD ?_ _)))) (hlx.below (by repeat (first | exact Below.refl _ _ | assumption | (refine belA ?_ _) | (refine belD ?_ _))))).mono ?_
    rintro e w1 ⟨rfl, n, rfl⟩
    rw [hv]
    go_wp2
    go_ret
    exact ⟨rfl, belD (by repeat (first | exact Below.refl _ _ | assumption | (refine belA ?_ _) | (refine belD ?_ _))) _⟩
  have hV : Hid (∀ W, Below w.heap.size w W → Calls Tryd.prog 13 #[.slice ao l.length cap] W (Quiet (.bool true) W)) := fun W hW => by
    have := SValid_c W _ l (hK.below hW) (hlx.below hW)
    rwa [hv] at this
  refine callsIn_wide (n := 5) |>.1 ?_
  refine callsIn_of_wp_marks Tryd.func39 rfl trivial ?_
  simp only [Tryd.ntmps39, List.size_toArray, List.length_cons, List.length_nil, Nat.reduceAdd, Nat.reduceSub, Array.replicate_succ, Array.replicate_zero, List.push_toArray, List.append_toArray, List.nil_append, List.cons_append]
  gi_wp2_with fail
  refine ⟨trivial, ?_⟩
  refine (callsIn_wide.2 (hV.out _ (by repeat (first | exact Below.refl _ _ | assumption | (refine belA ?_ _) | (refine belD ?_ _))))).mono ?_
  rintro e w1 ⟨rfl, n1, hw1⟩
  have hB1 : Below w.heap.size w w1 := by rw [hw1]; exact belD (by repeat (first | exact Below.refl _ _ | assumption | (refine belA ?_ _) | (refine belD ?_ _))) _
  have hz1 : w1.heap.size = w.heap.size + 2 := by rw [hw1]; simp [World.drewN]
  have c0 : w1.cell? ⟨w.heap.size, 0, none⟩ = some (.slice ao l.length cap) := by rw [hw1]; exact cellD n1 (cellB (bel_box _) (new1 w _ _))
  have c1 : w1.cell? ⟨w.heap.size + 1, 0, none⟩ = some (.func (.func 40) #[] #[]) := by rw [hw1]; have := new1 (w.alloc (.cells #[.slice ao l.length cap] 22)) (.func (.func 40) #[] #[]) 50; rwa [World.size_alloc] at this
  clear hw1
  gi_wp2_with fail
  refine ⟨trivial, ?_⟩
  refine (callsIn_wide.2 (weights_c _ _ _ _)).mono ?_
  rintro e w2 ⟨rfl, hw2⟩
  gi_wp2_with fail
  rw [← hw2]
  have hB2 : Below w.heap.size w w2 := by rw [hw2]; exact hB1.trans ((((Below.refl _ w1).alloc (Nat.le_refl _) _).alloc (by simp) _).mono (by omega))
  have hz2 : w2.heap.size = w.heap.size + 4 := by rw [hw2]; simp [hz1]
  have e0 : w2.cell? ⟨w.heap.size, 0, none⟩ = some (.slice ao l.length cap) := by rw [hw2]; exact cellB (bel_box _) (cellB (bel_box _) c0)
  have e1 : w2.cell? ⟨w.heap.size + 1, 0, none⟩ = some (.func (.func 40) #[] #[]) := by rw [hw2]; exact cellB (bel_box _) (cellB (bel_box _) c1)
  have en := new1 w1 (.int .i64 1) 3
  have e2 : w2.cell? ⟨w.heap.size + 2, 0, none⟩ = some (.int .i64 1) := by rw [hw2, ← hz1]; exact cellB (bel_box _) en
  have f2 : w2.frozen? ⟨w.heap.size + 2, 0, none⟩ = false := by rw [hw2, ← hz1]; exact ((bel_box _).frozen (p := ⟨w1.heap.size, 0, none⟩) (by simp)).trans (newF w1 _ _)
  have e3 : w2.cell? ⟨w.heap.size + 3, 0, none⟩ = some (.slice ao l.length cap) := by
    have := new1 (w1.alloc (.cells #[.int .i64 1] 3)) (.slice ao l.length cap) 22
    rw [World.size_alloc, hz1] at this
    rw [hw2]; exact this
  have hvx := hv
  simp only [validS, Bool.and_eq_true, decide_eq_true_eq] at hvx
  obtain ⟨⟨⟨hl1, hl6⟩, hA⟩, -⟩ := hvx
  have hsz : ∀ s ∈ l, sizeB s = true := fun s hs => allB_mem hA (Nat.le_refl _) s (by rwa [List.take_length])
  have hb : b < w.heap.size := by
    have := World.block_lt_of_cell? w _ (hl.nn 0 (by omega))
    exact this
  have hmx : Tryd.prog.follows .mixedOrders = true := by kernel_rfl
  clear hA c0 c1 en hw2 hB1 hz1
  refine wpIn_rangeFunc_ownG rfl (by omega) (gf := 47) (lb := #[.pointer (some ⟨w.heap.size + 2 + 1, 0, none⟩)]) rfl trivial (enters_of Tryd.func47 (by kernel_rfl) rfl)
    (weights_stops Fence.wide (5 - 1) trivial rfl (by omega) (w.heap.size + 3) w.heap.size b off cap ao l hv hb w2 (by omega) (by omega) e3 (hl.below hB2)) KpW.trans (KpW.put (by omega) (by omega)) (Below.refl _ _) (fun _ => rfl)
    (fun pre W => CountI w (.slice ao l.length cap) (.func (.func 40) #[] #[]) (prodF (fun _ => true) l pre) W ∧ Below w.heap.size w W)
    (fun _ _ _ => False)
    (OwnFrom.and (countI_own w _ _ (prodF (fun _ => true) l) _) (ownFrom_below (Nat.le_refl _) (by omega)))
    (fun _ _ _ _ _ hs _ _ => hs)
    ⟨⟨e2, f2, e0, e1, e3⟩, hB2⟩
    (fun x => { tmps := #[.slice ao l.length cap, .func (.func 40) #[] #[], .pointer (some ⟨w.heap.size, 0, none⟩), .pointer (some ⟨w.heap.size + 1, 0, none⟩), .int .i64 0, .pointer (some ⟨w.heap.size + 2, 0, none⟩), .int .i64 ((x : Nat) : Int), .slice ao l.length cap, .bool true, .bool false, .slice ao l.length cap, .func (.func 47) #[] #[.pointer (some ⟨w.heap.size + 2 + 1, 0, none⟩)], .int .i64 ((x : Nat) : Int), .int .i64 (prodL (l.take x)), undef, undef, undef, undef, undef, undef, undef, undef, undef, undef, undef, undef, undef, undef], defers := [] }) ?assign ?body ?done ?stop
  case assign =>
    intro lY x W K hK
    unfold encW
    gi_wp2
    exact hK
  case body =>
    rintro lY pre x W ⟨hI, hB⟩ hpl
    obtain ⟨q2, g2, q0, q1, -⟩ := id hI
    have hd : 1 ≤ 5 - 1 - 1 := by omega
    have hlW := hl.below hB
    obtain ⟨x, hx⟩ := x
    have n0 := hlW.nn x hx
    have n1 := hlW.ni x hx
    have n2 := hlW.nz x hx
    obtain rfl := hl.ad (by omega)
    have hch : ∀ W : World, Calls Tryd.prog 40 #[.agg #[.string l[x].name, .bool l[x].inp, .int .i64 l[x].size]] W (Calm (.bool true) W) := fun W => ch0_c W l[x]
    have HCH := Lib.hid hch
    clear hch hlx hK hV hn
    gi_upto_region 6 with (fail)
    gi_cut [19] from 14 (fun v wx => ∃ W3 : World, W3 = wx ∧ v = .bool true ∧ Below W.heap.size W W3)
    case first =>
      gi_region_with_o (refine ⟨trivial, ?_⟩; gi_at_call 40; refine (CallsIn.inRound lY (callsIn_wide.2 (HCH.out _))).mono ?_; rintro e W3 ⟨rfl, hb3⟩)
      all_goals gi_wp2_with fail
      all_goals
        gi_meet
        case rel => exact ⟨_, rfl, rfl, (Below.drew (Below.refl _ _)).trans hb3⟩
    case rest =>
      obtain ⟨W3, rfl, rfl, hb3⟩ := hcut
      have hsx := hsz _ (List.getElem_mem hx)
      obtain ⟨hp1, hp2⟩ := prodF_bd (ch := fun _ => true) hsz pre
      have hp3 : prodF (fun _ => true) l pre ≤ 4096 := Int.le_trans hp2 (pow4 (by omega))
      simp only [sizeB, Bool.and_eq_true, decide_eq_true_eq] at hsx
      obtain ⟨hs1, hs2⟩ := hsx
      have hpw := prod_wrap hp1 hp3 hs1 hs2
      have HSN : Hid (prodF (fun _ => true) l (pre ++ [⟨x, hx⟩]) = prodF (fun _ => true) l pre * l[x].size) := prodF_snoc _ _ _ _
      have r2 := cellB hb3 q2
      have r0 := cellB hb3 q0
      have m2 := cellB hb3 n2
      have g3 : W3.frozen? ⟨w.heap.size + 2, 0, none⟩ = false := (hb3.frozen (p := ⟨w.heap.size + 2, 0, none⟩) (World.block_lt_of_cell? W _ q2)).trans g2
      have r1 := cellB hb3 q1
      have HI := Lib.hid hI
      clear q2 q0 q1 n0 n1 n2 g2 e0 e1 e2 e3 f2 HCH hp2 hlW hI
      generalize prodF (fun _ => true) l pre = pp at *
      gi_wp2
      gi_region_with_o (fail)
      all_goals gi_wp2
      all_goals
        have hr := count_round (B := w2.heap.size) (q := pp * l[x].size) HI.out hB hb3
        exact ⟨hr.1, hr.2.1, by rw [HSN.out]; exact hr.2.2.1, hr.2.2.2⟩
  case done =>
    rintro D ys W hD rfl ⟨⟨q2, g2, q0, q1, -⟩, hB⟩ hK
    gi_wp2
    refine ⟨by simp, .inl ⟨_, _, rfl, run_takeDeferred hK, ?_⟩⟩
    exact ⟨_, results_tmp rfl _ _ _, by simp [prodF_all], hB.trans (belowK_b (w := w) (Nat.le_refl _) W D _ _ (by omega) hK rfl rfl)⟩
  case stop =>
    rintro D c pre W _ _ h _
    exact h.elim

end Go.Proofs.YtlfackilmpnlhaaDoor
