/- What more computes. -/
import Derived.Test.YtjhafakkadnfmaaSo27
import Derived.Test.YtjhafakkadnfmaaC19
import Derived.Test.YtjhafakkadnfmaaRegUse
import Derived.Deep.AppendLies
import Derived.Deep.RegionLaw
namespace Go.Proofs.Ytjhafakkadnfmaa
open Go.RowKit

theorem app_ints {ops : Array Oper} {rest : List Oper} {o : Oper} {a : Act} {Q : Exit → Act → World → Prop} {w : World} (hgd : o.guard = none) (s x : Operand)
    (ho : o.op = .call { callee := .builtin .append, args := #[s, x], argTypes := #[22, 22] })
    (base : Nat) (v v2 : Value) (l l2 : List Int) (hown : OI w base v l) (hs : a.eval s = v) (hsrc : IsInts w v2 l2) (hx : a.eval x = v2)
    (hn : l.length + l2.length ≤ 17592186043904) (hbase : base ≤ w.heap.size)
    (h : ∀ v' w', OI w' base v' (l ++ l2) → w.grownBy w' v.ownBlock → Moved w v v' → wpList Try.prog ops Q rest (a.put o.dst v') w') :
    wpList Try.prog ops Q (o :: rest) a w := by
  obtain ⟨⟨ao, cap, b, off, rfl, hsrc⟩, -⟩ := hsrc
  refine wpList_appA hgd s x _ _ 8 _ ho Try.underlying22 info_int rfl base v l.length _ hs hown ao cap b off l2.length (ivF l2) hx hsrc (fun _ => rfl) (by omega) (by decide) hbase fun v' w' h1 h2 h3 => h v' w' ?_ h2 h3
  have e : (List.range l2.length).map (ivF l2) = l2.map (Value.int .i64) := by
    apply List.ext_getElem (by simp)
    intro j h1 h2
    have : j < l2.length := by simpa using h1
    simp [ivF, this]
  rw [e] at h1
  unfold OI
  simpa using h1

theorem OI_empty0 (w : World) : OI (w.alloc (.cells #[] 3)) w.heap.size (.slice (some ⟨w.heap.size, 0, none⟩) 0 0) [] :=
  World.ownsRow_made w #[] 0 (Nat.le_refl _) (by simp [maxLen]) rfl
theorem OR_empty0 (w : World) : (w.alloc (.cells #[] 22)).ownsRow w.heap.size 22 1 (.slice (some ⟨w.heap.size, 0, none⟩) 0 0) 0 [] :=
  World.ownsRow_made w #[] 0 (Nat.le_refl _) (by simp [maxLen]) rfl

theorem OI_emptyN (w : World) (n : Nat) (h : n = w.heap.size) : OI (w.alloc (.cells #[] 3)) n (.slice (some ⟨n, 0, none⟩) 0 0) [] := h ▸ OI_empty0 w
theorem OR_emptyN (w : World) (n : Nat) (h : n = w.heap.size) : (w.alloc (.cells #[] 22)).ownsRow n 22 1 (.slice (some ⟨n, 0, none⟩) 0 0) 0 [] := h ▸ OR_empty0 w

/-- A copy of rows. -/
theorem app_rows {ops : Array Oper} {rest : List Oper} {o : Oper} {a : Act} {Q : Exit → Act → World → Prop} {w : World} (hgd : o.guard = none) (s x : Operand)
    (ho : o.op = .call { callee := .builtin .append, args := #[s, x], argTypes := #[23, 23] })
    (base : Nat) (v : Value) (hown : w.ownsRow base 22 1 v 0 []) (hs : a.eval s = v) (ao : Option Addr) (cap b off n : Nat) (V : Nat → Value) (hsrc : ArrAt w ao cap b off n V) (h1 : ∀ j, (V j).oneCell' = true) (hx : a.eval x = .slice ao n cap)
    (hn : n ≤ 5864062014000) (hbase : base ≤ w.heap.size)
    (h : ∀ v' w', w'.ownsRow base 22 1 v' n ((List.range n).map V) → w.grownBy w' v.ownBlock → Moved w v v' → wpList Try.prog ops Q rest (a.put o.dst v') w') :
    wpList Try.prog ops Q (o :: rest) a w :=
  wpList_appA hgd s x _ _ 24 _ ho Try.underlying23 info_ints rfl base v 0 _ hs hown ao cap b off n V hx hsrc h1 (by omega) (by decide) hbase fun v' w' h1 h2 h3 => h v' w' (by simpa using h1) h2 h3

/-- The box's cells are set. -/
theorem Fr.set0 {w wr : World} {x y z : Value} (h : Fr w wr #[x, y, z]) (v : Value) : Fr w (wr.setCell ⟨w.heap.size, 0, none⟩ v) #[v, y, z] :=
  ⟨⟨h.bx.bl.setCell (Nat.le_refl _) v, heap_setCell_same _ _ 0 _ _ v h.bx.bx⟩, by rw [heap_set_ne _ _ _ _ _ (by omega)]; exact h.rc⟩
theorem Fr.set1 {w wr : World} {x y z : Value} (h : Fr w wr #[x, y, z]) (v : Value) : Fr w (wr.setCell ⟨w.heap.size, 1, none⟩ v) #[x, v, z] :=
  ⟨⟨h.bx.bl.setCell (Nat.le_refl _) v, heap_setCell_same _ _ 1 _ _ v h.bx.bx⟩, by rw [heap_set_ne _ _ _ _ _ (by omega)]; exact h.rc⟩
theorem Fr.set2 {w wr : World} {x y z : Value} (h : Fr w wr #[x, y, z]) (v : Value) : Fr w (wr.setCell ⟨w.heap.size, 2, none⟩ v) #[x, y, v] :=
  ⟨⟨h.bx.bl.setCell (Nat.le_refl _) v, heap_setCell_same _ _ 2 _ _ v h.bx.bx⟩, by rw [heap_set_ne _ _ _ _ _ (by omega)]; exact h.rc⟩
theorem Fr.own {w wr : World} {cs : Array Value} (h : Fr w wr cs) {g j : Nat} (hg : w.heap.size + 2 ≤ g) (v : Value) : Fr w (wr.setCell ⟨g, j, none⟩ v) cs :=
  h.step ((Below.refl _ _).setCell hg v)

theorem Fr.cells {w wr : World} {x y z : Value} (h : Fr w wr #[x, y, z]) : (wr.cell? ⟨w.heap.size, 0, none⟩ = some x ∧ wr.cell? ⟨w.heap.size, 1, none⟩ = some y ∧ wr.cell? ⟨w.heap.size, 2, none⟩ = some z) ∧ wr.frozen? ⟨w.heap.size, 0, none⟩ = false ∧ wr.frozen? ⟨w.heap.size, 1, none⟩ = false ∧ wr.frozen? ⟨w.heap.size, 2, none⟩ = false :=
  ⟨⟨h.bx.cell 0 rfl, h.bx.cell 1 rfl, h.bx.cell 2 rfl⟩, frozen_of_row _ _ 0 _ _ h.bx.bx, frozen_of_row _ _ 1 _ _ h.bx.bx, frozen_of_row _ _ 2 _ _ h.bx.bx⟩
theorem Fr.res {w wr : World} {cs : Array Value} (h : Fr w wr cs) : (wr.cell? ⟨w.heap.size + 1, 0, none⟩ = some (.slice none 0 0) ∧ wr.cell? ⟨w.heap.size + 1, 1, none⟩ = some (.slice none 0 0) ∧ wr.cell? ⟨w.heap.size + 1, 2, none⟩ = some (.slice none 0 0)) ∧ wr.frozen? ⟨w.heap.size + 1, 0, none⟩ = false ∧ wr.frozen? ⟨w.heap.size + 1, 1, none⟩ = false ∧ wr.frozen? ⟨w.heap.size + 1, 2, none⟩ = false :=
  ⟨⟨cell_of_row _ _ 0 _ _ _ h.rc, cell_of_row _ _ 1 _ _ _ h.rc, cell_of_row _ _ 2 _ _ _ h.rc⟩, frozen_of_row _ _ 0 _ _ h.rc, frozen_of_row _ _ 1 _ _ h.rc, frozen_of_row _ _ 2 _ _ h.rc⟩

theorem gameEnd {w wf : World} {x0 x1 x2 : Value} {g : Gm} (hb : Below w.heap.size w wf) (h0 : IsInts wf x0 g.owner) (h1 : IsInts wf x1 g.prio) (h2 : IsRows wf x2 g.succ) : NewGame g w (.returned (.agg #[x0, x1, x2])) wf := ⟨_, rfl, ⟨_, _, _, rfl, h0, h1, h2⟩, hb⟩

set_option maxRecDepth 100000 in
set_option maxHeartbeats 4000000 in
theorem more0_c (w : World) (vg : Value) (g : Gm) (kind at1 to1 : Nat) (hg : IsGame w vg g) (hv : validB g = true) (h0 : 0 < g.owner.length) (hk0 : kind % 3 = 0) (ha : at1 ≤ 255) :
    Calls Try.prog 16 #[vg, .int .u8 kind, .int .u8 at1, .int .u8 to1] w (NewGame (moreG g 0 (at1 % g.owner.length) (to1 % g.owner.length)) w) := by
  obtain ⟨la, lb, lc⟩ := valid_lens hv
  obtain ⟨v0, v1, v2, rfl, i0, i1, i2⟩ := id hg
  have HI0 := Lib.hid i0
  have HI1 := Lib.hid i1
  have HI2 := Lib.hid i2
  obtain ⟨⟨ao0, cap0, b0, off0, rfl, -⟩, -⟩ := i0
  obtain ⟨⟨ao1, cap1, b1, off1, rfl, -⟩, -⟩ := i1
  obtain ⟨V, ⟨ao2, cap2, b2, off2, rfl, -⟩, -⟩ := i2
  have HSn := Lib.hid lc
  have htm : ((at1 : Int)).tmod g.owner.length = ((at1 % g.owner.length : Nat) : Int) := (Int.ofNat_tmod at1 g.owner.length).symm
  have hti : at1 % g.owner.length < g.owner.length := Nat.mod_lt _ h0
  have hkm : ((kind : Int)).tmod 3 = 0 := by rw [show (3 : Int) = ((3 : Nat) : Int) from rfl, ← Int.ofNat_tmod, hk0]; rfl
  have hw1 : IntKind.i64.wrap (at1 : Int) = (at1 : Int) := IntWalk.i64_in _ ⟨by omega, by omega⟩
  have hnz : ((g.owner.length : Int) == 0) = false := beq_eq_false_iff_ne.2 (by omega)
  generalize at1 % g.owner.length = i at *
  have hw2 : IntKind.i64.wrap (i : Int) = (i : Int) := IntWalk.i64_in _ ⟨by omega, by omega⟩
  rw [lc]
  have HT := Lib.hid hti
  have hle0 : (0 : Int) ≤ i := by omega
  have hlt0 : (i : Int) < g.owner.length := by omega
  clear hti hg hk0 lb lc hv
  go_enter Try.func16, Try.ntmps16
  go_wp2_with (at_builtin; go_loud (refine app_ints rfl _ _ rfl (w.heap.size + 2) _ _ [] g.owner (OI.down (OI_emptyN _ _ (by simp)) (by omega)) rfl (HI0.out.below (by repeat (first | exact Below.refl _ _ | assumption | (refine belA ?_ _) | (refine belD ?_ _)))) rfl (by simp; omega) (by simp) ?_; intro v' w' hown' hg hmv; have hBW := ((bel_box _).mono (by simp)).grown (B := w.heap.size + 2) hg (by simp) (fun g h => by simp [Value.ownBlock] at h; omega); have HF : Hid (Fr w w' #[Value.slice ao0 g.owner.length cap0, Value.slice ao1 g.prio.length cap1, Value.slice ao2 g.owner.length cap2]) := ⟨Boxed.start ((bel_box _).trans (hBW.mono (by simp))), (hBW.block _ (by simp)).trans (by (repeat (rw [alloc_get]; first | rw [if_pos (by first | (simp; done) | (simp; omega))] | rw [if_neg (by first | (simp; done) | (simp; omega))])); (try rfl))⟩; have HO := Lib.hid hown'; obtain ⟨gb, cb, hv', -, -⟩ := HO.out.row (by simp; omega); subst hv'; clear hown' hg hmv hBW; have HF2 := Lib.hid (HF.out.set0 (.slice (some ⟨gb, 0, none⟩) g.owner.length cb)); have HO2 := Lib.hid (HO.out.setFar (n := w.heap.size) (j := 0) (u := .slice (some ⟨gb, 0, none⟩) g.owner.length cb) (by omega)); have hgb := HO.out.ge gb rfl; have HF3 := Lib.hid (HF2.out.own (j := i) hgb (.int .i64 0)); have HO3 := Lib.hid (HO2.out.set rfl i 0); obtain ⟨⟨p0, p1, p2⟩, p3, -, -⟩ := HF.out.cells; obtain ⟨⟨q0, q1, q2⟩, -⟩ := HF2.out.cells; obtain ⟨⟨r0, r1, r2⟩, -⟩ := HF3.out.cells; obtain ⟨⟨z0, z1, z2⟩, y0, y1, y2⟩ := HF3.out.res; have k1 := HO2.out.at' rfl i HT.out; have k2 := HO2.out.fz rfl i))
  (have hc3 := three_set (a := .slice (some ⟨gb, 0, none⟩) g.owner.length cb) (b := .slice ao1 g.prio.length cap1) (c := .slice ao2 g.owner.length cap2) HF3.out.rc); (have c0 := cell_of_row _ _ 0 _ _ _ hc3); (have c1 := cell_of_row _ _ 1 _ _ _ hc3); (have c2 := cell_of_row _ _ 2 _ _ _ hc3); (refine bodyPost_ret (v := .agg #[.slice (some ⟨gb, 0, none⟩) g.owner.length cb, .slice ao1 g.prio.length cap1, .slice ao2 g.owner.length cap2]) (by simp [results, Try.results16, go_sem, c0, c1, c2]) rfl ?_)
  have hbf := below_three (a := .slice (some ⟨gb, 0, none⟩) g.owner.length cb) (b := .slice ao1 g.prio.length cap1) (c := .slice ao2 g.owner.length cap2) HF3.out.bx.bl (Nat.le_succ _)
  refine gameEnd hbf ?_ ?_ ?_
  · show IsInts _ _ (g.owner.set i 0)
    have hO : OI _ (w.heap.size + 2) (.slice (some ⟨gb, 0, none⟩) g.owner.length cb) (g.owner.set i 0) := ((HO3.out.setFar (n := w.heap.size + 1) (j := 0) (u := .slice (some ⟨gb, 0, none⟩) g.owner.length cb) (by omega)).setFar (n := w.heap.size + 1) (j := 1) (u := .slice ao1 g.prio.length cap1) (by omega)).setFar (n := w.heap.size + 1) (j := 2) (u := .slice ao2 g.owner.length cap2) (by omega)
    refine hO.is (by rw [List.length_set]; unfold maxN; omega) fun x hx => ?_
    rcases List.mem_or_eq_of_mem_set hx with hx | rfl
    · exact HI0.out.2 x hx
    · unfold I64; omega
  · exact HI1.out.below hbf
  · have h2 := HI2.out
    rw [HSn.out] at h2
    exact h2.below hbf


set_option maxRecDepth 100000 in
set_option maxHeartbeats 4000000 in
theorem more1_c (w : World) (vg : Value) (g : Gm) (kind at1 to1 : Nat) (hg : IsGame w vg g) (hv : validB g = true) (h0 : 0 < g.owner.length) (hk0 : kind % 3 = 1) (ha : at1 ≤ 255) :
    Calls Try.prog 16 #[vg, .int .u8 kind, .int .u8 at1, .int .u8 to1] w (NewGame (moreG g 1 (at1 % g.owner.length) (to1 % g.owner.length)) w) := by
  obtain ⟨la, lb, lc⟩ := valid_lens hv
  obtain ⟨v0, v1, v2, rfl, i0, i1, i2⟩ := id hg
  have HI0 := Lib.hid i0
  have HI1 := Lib.hid i1
  have HI2 := Lib.hid i2
  obtain ⟨⟨ao0, cap0, b0, off0, rfl, -⟩, -⟩ := i0
  obtain ⟨⟨ao1, cap1, b1, off1, rfl, -⟩, -⟩ := i1
  obtain ⟨V, ⟨ao2, cap2, b2, off2, rfl, -⟩, -⟩ := i2
  have HSn := Lib.hid lc
  have htm : ((at1 : Int)).tmod g.owner.length = ((at1 % g.owner.length : Nat) : Int) := (Int.ofNat_tmod at1 g.owner.length).symm
  have hti : at1 % g.owner.length < g.owner.length := Nat.mod_lt _ h0
  have hkm : ((kind : Int)).tmod 3 = 1 := by rw [show (3 : Int) = ((3 : Nat) : Int) from rfl, ← Int.ofNat_tmod, hk0]; rfl
  have hw1 : IntKind.i64.wrap (at1 : Int) = (at1 : Int) := IntWalk.i64_in _ ⟨by omega, by omega⟩
  have hnz : ((g.owner.length : Int) == 0) = false := beq_eq_false_iff_ne.2 (by omega)
  generalize at1 % g.owner.length = i at *
  have hw2 : IntKind.i64.wrap (i : Int) = (i : Int) := IntWalk.i64_in _ ⟨by omega, by omega⟩
  rw [lc, lb]
  have HPn := Lib.hid lb
  rw [lb] at HI1
  have HT := Lib.hid hti
  have hle0 : (0 : Int) ≤ i := by omega
  have hlt0 : (i : Int) < g.owner.length := by omega
  clear hti hg hk0 lb lc hv
  go_enter Try.func16, Try.ntmps16
  go_wp2_with (at_builtin; go_loud (refine app_ints rfl _ _ rfl (w.heap.size + 2) _ _ [] g.prio (OI.down (OI_emptyN _ _ (by simp)) (by omega)) rfl (HI1.out.below (by repeat (first | exact Below.refl _ _ | assumption | (refine belA ?_ _) | (refine belD ?_ _)))) rfl (by rw [HPn.out]; simp; omega) (by simp) ?_; intro v' w' hown' hg hmv; have hBW := ((bel_box _).mono (by simp)).grown (B := w.heap.size + 2) hg (by simp) (fun g h => by simp [Value.ownBlock] at h; omega); have HF : Hid (Fr w w' #[Value.slice ao0 g.owner.length cap0, Value.slice ao1 g.owner.length cap1, Value.slice ao2 g.owner.length cap2]) := ⟨Boxed.start ((bel_box _).trans (hBW.mono (by simp))), (hBW.block _ (by simp)).trans (by (repeat (rw [alloc_get]; first | rw [if_pos (by first | (simp; done) | (simp; omega))] | rw [if_neg (by first | (simp; done) | (simp; omega))])); (try rfl))⟩; have HO := Lib.hid hown'; obtain ⟨gb, cb, hv', -, -⟩ := HO.out.row (by rw [List.nil_append, HPn.out]; omega); rw [List.nil_append, HPn.out] at hv'; subst hv'; clear hown' hg hmv hBW; have HF2 := Lib.hid (HF.out.set1 (.slice (some ⟨gb, 0, none⟩) g.owner.length cb)); have HO2 := Lib.hid (HO.out.setFar (n := w.heap.size) (j := 1) (u := .slice (some ⟨gb, 0, none⟩) g.owner.length cb) (by omega)); have hgb := HO.out.ge gb rfl; have HF3 := Lib.hid (HF2.out.own (j := i) hgb (.int .i64 0)); have HO3 := Lib.hid (HO2.out.set HPn.out.symm i 0); obtain ⟨⟨p0, p1, p2⟩, -, p3, -⟩ := HF.out.cells; obtain ⟨⟨q0, q1, q2⟩, -⟩ := HF2.out.cells; obtain ⟨⟨r0, r1, r2⟩, -⟩ := HF3.out.cells; obtain ⟨⟨z0, z1, z2⟩, y0, y1, y2⟩ := HF3.out.res; have k1 := HO2.out.at' HPn.out.symm i (by rw [List.nil_append, HPn.out]; exact HT.out); have k2 := HO2.out.fz HPn.out.symm i))
  (have hc3 := three_set (a := .slice ao0 g.owner.length cap0) (b := .slice (some ⟨gb, 0, none⟩) g.owner.length cb) (c := .slice ao2 g.owner.length cap2) HF3.out.rc); (have c0 := cell_of_row _ _ 0 _ _ _ hc3); (have c1 := cell_of_row _ _ 1 _ _ _ hc3); (have c2 := cell_of_row _ _ 2 _ _ _ hc3); (refine bodyPost_ret (v := .agg #[.slice ao0 g.owner.length cap0, .slice (some ⟨gb, 0, none⟩) g.owner.length cb, .slice ao2 g.owner.length cap2]) (by simp [results, Try.results16, go_sem, c0, c1, c2]) rfl ?_)
  have hbf := below_three (a := .slice ao0 g.owner.length cap0) (b := .slice (some ⟨gb, 0, none⟩) g.owner.length cb) (c := .slice ao2 g.owner.length cap2) HF3.out.bx.bl (Nat.le_succ _)
  refine gameEnd hbf ?_ ?_ ?_
  · exact HI0.out.below hbf
  · show IsInts _ _ (g.prio.set i 0)
    have hO : OI _ (w.heap.size + 2) (.slice (some ⟨gb, 0, none⟩) g.owner.length cb) (g.prio.set i 0) := ((HO3.out.setFar (n := w.heap.size + 1) (j := 0) (u := .slice ao0 g.owner.length cap0) (by omega)).setFar (n := w.heap.size + 1) (j := 1) (u := .slice (some ⟨gb, 0, none⟩) g.owner.length cb) (by omega)).setFar (n := w.heap.size + 1) (j := 2) (u := .slice ao2 g.owner.length cap2) (by omega)
    refine hO.is (by rw [List.length_set, HPn.out]; unfold maxN; omega) fun x hx => ?_
    rcases List.mem_or_eq_of_mem_set hx with hx | rfl
    · exact HI1.out.2 x hx
    · unfold I64; omega
  · have h2 := HI2.out
    rw [HSn.out] at h2
    exact h2.below hbf


theorem IsArr.of_arr {w : World} {ao : Option Addr} {cap b off n : Nat} {V : Nat → Value} (h : ArrAt w ao cap b off n V) : ArrAt w ao cap b off n (fun j => if j < n then V j else .bool false) :=
  ⟨h.lc, h.cm, h.nm, h.nc, h.ad, fun j hj => by rw [h.el j hj, if_pos hj]⟩

theorem rows_one {w : World} {v : Value} {ll : List (List Int)} (h : IsRows w v ll) : ∃ V : Nat → Value, IsArr w v ll.length V ∧ (∀ j, j < ll.length → IsInts w (V j) (ll.getD j [])) ∧ ∀ j, (V j).oneCell' = true := by
  obtain ⟨V, ⟨ao, cap, b, off, e, g⟩, hV⟩ := h
  refine ⟨fun j => if j < ll.length then V j else .bool false, ⟨ao, cap, b, off, e, IsArr.of_arr g⟩, fun j hj => by dsimp only; rw [if_pos hj]; exact hV j hj, fun j => ?_⟩
  dsimp only
  split
  · rename_i hj
    obtain ⟨⟨a, c, b, o, e, -⟩, -⟩ := hV j hj
    rw [e]; rfl
  · rfl
theorem OR_row {w : World} {b e sz n : Nat} {v : Value} {l : List Value} (h : w.ownsRow b e sz v n l) (hn : 0 < n) : ∃ g cap, v = .slice (some ⟨g, 0, none⟩) n cap ∧ b ≤ g := by
  rcases h.2 with ⟨hv, h0⟩ | ⟨g, cap, cur, hv, hb, hg, _⟩
  · omega
  · exact ⟨g, cap, hv, hb⟩
theorem OI_one' (W : World) (x : Int) : OI (W.alloc (.cells #[.int .i64 x] 3)) W.heap.size (.slice (some ⟨W.heap.size, 0, none⟩) 1 1) [x] :=
  (show (W.alloc (.cells #[.int .i64 x] 3)).ownsRow W.heap.size 3 1 (.slice (some ⟨W.heap.size, 0, none⟩) 1 1) 1 [.int .i64 x] from ⟨by simp, .inr ⟨W.heap.size, 1, _, rfl, Nat.le_refl _, heap_alloc_new W _, Nat.le_refl _, by simp [maxLen], by simp, by simp⟩⟩)

theorem wp_app_ints {o : Oper} {a : Act} {K : Act → World → Prop} {Q : Exit → Act → World → Prop} (w : World) (s x : Operand)
    (ho : o.op = .call { callee := .builtin .append, args := #[s, x], argTypes := #[22, 22] })
    (base : Nat) (v v2 : Value) (l l2 : List Int) (hs : a.eval s = v) (hown : OI w base v l) (hx : a.eval x = v2) (hsrc : IsInts w v2 l2)
    (hn : l.length + l2.length ≤ 17592186043904) (hbase : base ≤ w.heap.size)
    (h : ∀ v' w', OI w' base v' (l ++ l2) → w.grownBy w' v.ownBlock → K (a.put o.dst v') w') : Oper.wp Try.prog o a w K Q := by
  obtain ⟨i, hi, hz0, hz1, hz2⟩ := info_parts info_int
  obtain ⟨⟨ao, cap, b, off, rfl, g⟩, -⟩ := hsrc
  have e : (List.range l2.length).map (ivF l2) = l2.map (Value.int .i64) := by
    apply List.ext_getElem (by simp)
    intro j h1 h2
    have : j < l2.length := by simpa using h1
    simp [ivF, this]
  cases ao with
  | none =>
    have hm0 : l2.length = 0 := by rcases Nat.eq_zero_or_pos l2.length with h0 | h0; exact h0; have := g.ad h0; cases this
    have hl2 := List.eq_nil_of_length_eq_zero hm0
    subst hl2
    obtain rfl := g.nc rfl
    have hrun := run_append_owned_none (P := Try.prog) (w := w) base 22 o.type 3 i 1 Try.underlying22 hi v l.length _ hown
    unfold Oper.wp execOp
    simp only [ho, resolve, invoke, builtin, Sem.run_bind, Sem.run_pure, Result.andThen_ok, List.map_toArray, List.map_cons, List.map_nil, hs, hx]
    simp only [List.length_nil, hrun]
    exact h _ _ (by simpa using hown) (grown_refl _ _)
  | some ad =>
    obtain ⟨v', w', hr, h2, h3, h4⟩ := run_append_own (P := Try.prog) w base 22 o.type 3 i _ 1 8 Try.underlying22 hi hz0 hz1 hz2 rfl (by decide) v l.length _ hown ad l2.length cap ((List.range l2.length).map (ivF l2)) (by simp) (by
      intro j u hj
      have hjm : j < l2.length := by
        rcases Nat.lt_or_ge j l2.length with h | h
        · exact h
        · simp [Nat.not_lt.2 h] at hj
      have hadd := g.ad (by omega)
      simp only [Option.some.injEq] at hadd
      subst hadd
      have : ivF l2 j = u := by simpa [hjm] using hj
      subst this
      have h2 := g.el j hjm
      unfold Addr.add
      split
      · subst j; exact h2
      · exact h2) (by
      intro u hu
      obtain ⟨j, _, rfl⟩ := List.mem_map.1 hu
      rfl) (by simp only [maxLen]; omega) (by omega) hbase
    unfold Oper.wp execOp
    simp only [ho, resolve, invoke, builtin, Sem.run_bind, Sem.run_pure, Result.andThen_ok, List.map_toArray, List.map_cons, List.map_nil, hs, hx, hr]
    refine h _ _ ?_ h3
    unfold OI
    rw [e] at h2
    simpa using h2

/-- What the operations of the drawn statement leave. -/
def RM (B zb gb n cb i t x : Nat) (rv : Value) (row : List Int) (ix : Nat) (v : Value) (W : World) : Prop :=
  match ix with
  | 0 => v = .pointer (some ⟨zb, 2, none⟩)
  | 1 => v = .slice (some ⟨gb, 0, none⟩) n cb
  | 2 => v = .int .i64 (i : Int)
  | 3 => ∃ q, v = .slice (some ⟨q, 0, none⟩) 0 0 ∧ B ≤ q ∧ W.heap[q]? = some (.cells #[] 3 (0, 0))
  | 4 => v = .pointer (some ⟨zb, 2, none⟩)
  | 5 => v = .slice (some ⟨gb, 0, none⟩) n cb
  | 6 => v = .int .i64 (i : Int)
  | 7 => v = .pointer (some ⟨gb, i, none⟩)
  | 8 => v = rv
  | 9 => OI W B v row
  | 10 => v = .int .u8 (t : Int)
  | 11 => v = .int .i64 (t : Int)
  | 12 => v = .pointer (some ⟨zb, 2, none⟩)
  | 13 => v = .slice (some ⟨gb, 0, none⟩) n cb
  | 14 => v = .int .i64 (n : Int)
  | 15 => v = .int .i64 (x : Int)
  | 16 => IsInts W v [(x : Int)]
  | 17 => OI W B v (row ++ [(x : Int)])
  | 18 => v = .pointer (some ⟨gb, i, none⟩)
  | _ => True
theorem RM.mono (B zb gb n cb i t x : Nat) (rv : Value) (row : List Int) (ix : Nat) (v : Value) (W W' : World) (h : RM B zb gb n cb i t x rv row ix v W) (hb : Below W.heap.size W W') : RM B zb gb n cb i t x rv row ix v W' := by
  unfold RM at *
  split at h <;> first | exact h | exact OI.below h hb | exact IsInts.below h hb | (obtain ⟨q, h1, h2, h3⟩ := h; exact ⟨q, h1, h2, (hb.block q (Array.getElem?_eq_some_iff.1 h3).1).trans h3⟩)
def usesM (i : Nat) : Option Nat := match i with | 3 => some 9 | 9 => some 17 | 16 => some 17 | _ => none

theorem OI_cells0 {W : World} {B q : Nat} (hq : B ≤ q) (h : W.heap[q]? = some (.cells #[] 3 (0, 0))) : OI W B (.slice (some ⟨q, 0, none⟩) 0 0) [] :=
  ⟨rfl, .inr ⟨q, 0, #[], rfl, hq, h, Nat.le_refl _, by simp [maxLen], by simp, by simp⟩⟩
theorem IsInts.nempty {W W' : World} {v : Value} {x : Int} {q : Nat} (h : IsInts W v [x]) (hq : W.heap[q]? = some (.cells #[] 3 (0, 0))) (hg : W.grownBy W' (some q)) : IsInts W' v [x] := by
  obtain ⟨⟨ao, cap, b, off, e, k⟩, r⟩ := h
  have hne : b ≠ q := fun e2 => by
    subst e2
    have h1 := k.el 0 (by simp)
    have h3 := cell_of_row W b (off + 0) _ _ _ hq
    rw [h3] at h1
    simp at h1
  refine ⟨⟨ao, cap, b, off, e, ⟨k.lc, k.cm, k.nm, k.nc, k.ad, fun j hj => ?_⟩⟩, r⟩
  have h1 := k.el j hj
  have hlt := World.block_lt_of_cell? W _ h1
  have := hg.block b hlt (fun e2 => hne (Option.some.inj e2))
  unfold World.cell? at *
  simp only [this]
  exact h1
theorem RM.app {B zb gb n cb i t x : Nat} {rv : Value} {row : List Int} {W W' : World} {v : Value} {q : Nat} (hv : v = .slice (some ⟨q, 0, none⟩) 0 0) (hq : W.heap[q]? = some (.cells #[] 3 (0, 0))) (hg : W.grownBy W' v.ownBlock)
    (k : Nat) (y : Value) (h3 : k ≠ 3) (h9 : k ≠ 9) (h17 : k ≠ 17) (hy : RM B zb gb n cb i t x rv row k y W) : RM B zb gb n cb i t x rv row k y W' := by
  subst hv
  unfold RM at hy ⊢
  split at hy <;> first | exact hy | exact absurd rfl h3 | exact absurd rfl h9 | exact absurd rfl h17 | exact IsInts.nempty hy hq hg
theorem RM.app2 {B zb gb n cb i t x : Nat} {rv : Value} {row : List Int} {W W' : World} (k : Nat) (y : Value) (h3 : k ≠ 3) (h9 : k ≠ 9) (h16 : k ≠ 16) (h17 : k ≠ 17) (hy : RM B zb gb n cb i t x rv row k y W) : RM B zb gb n cb i t x rv row k y W' := by
  unfold RM at hy ⊢
  split at hy <;> first | exact hy | exact absurd rfl h3 | exact absurd rfl h9 | exact absurd rfl h16 | exact absurd rfl h17

set_option maxRecDepth 100000 in
set_option maxHeartbeats 4000000 in
theorem more2_c (w : World) (vg : Value) (g : Gm) (kind at1 to1 : Nat) (hg : IsGame w vg g) (hv : validB g = true) (hS : ∀ i, (g.succ.getD i []).length ≤ 999) (h0 : 0 < g.owner.length) (hk0 : kind % 3 = 2) (ha : at1 ≤ 255) (ht : to1 ≤ 255) :
    Calls Try.prog 16 #[vg, .int .u8 kind, .int .u8 at1, .int .u8 to1] w (NewGame (moreG g 2 (at1 % g.owner.length) (to1 % g.owner.length)) w) := by
  obtain ⟨la, lb, lc⟩ := valid_lens hv
  have hrows := fun i hi => (valid_at hv i hi).2.2.2
  obtain ⟨v0, v1, v2, rfl, i0, i1, i2⟩ := id hg
  have HI0 := Lib.hid i0
  have HI1 := Lib.hid i1
  have HI2 := Lib.hid i2
  obtain ⟨⟨ao0, cap0, b0, off0, rfl, g0⟩, -⟩ := i0
  obtain ⟨⟨ao1, cap1, b1, off1, rfl, -⟩, -⟩ := i1
  obtain ⟨V, ⟨ao2, cap2, b2, off2, rfl, g2⟩, hV, hV1⟩ := rows_one i2
  have HSn := Lib.hid lc
  have htm : ((at1 : Int)).tmod g.owner.length = ((at1 % g.owner.length : Nat) : Int) := (Int.ofNat_tmod at1 g.owner.length).symm
  have hti : at1 % g.owner.length < g.owner.length := Nat.mod_lt _ h0
  have htm2 : ((to1 : Int)).tmod g.owner.length = ((to1 % g.owner.length : Nat) : Int) := (Int.ofNat_tmod to1 g.owner.length).symm
  have htx : to1 % g.owner.length < g.owner.length := Nat.mod_lt _ h0
  have hkm : ((kind : Int)).tmod 3 = 2 := by rw [show (3 : Int) = ((3 : Nat) : Int) from rfl, ← Int.ofNat_tmod, hk0]; rfl
  have hw1 : IntKind.i64.wrap (at1 : Int) = (at1 : Int) := IntWalk.i64_in _ ⟨by omega, by omega⟩
  have hw3 : IntKind.i64.wrap (to1 : Int) = (to1 : Int) := IntWalk.i64_in _ ⟨by omega, by omega⟩
  have hnz : ((g.owner.length : Int) == 0) = false := beq_eq_false_iff_ne.2 (by omega)
  generalize at1 % g.owner.length = i at *
  generalize to1 % g.owner.length = x at *
  have hw2 : IntKind.i64.wrap (i : Int) = (i : Int) := IntWalk.i64_in _ ⟨by omega, by omega⟩
  have hw4 : IntKind.i64.wrap (x : Int) = (x : Int) := IntWalk.i64_in _ ⟨by omega, by omega⟩
  obtain rfl := g0.ad h0
  have HE := Lib.hid (g0.el i hti)
  have e1 : ((w.alloc (Obj.cells #[Value.slice (some ⟨b0, off0, none⟩) g.owner.length cap0, Value.slice ao1 g.prio.length cap1, Value.slice ao2 g.succ.length cap2] 25)).alloc (Obj.cells #[.slice none 0 0, .slice none 0 0, .slice none 0 0] 25)).cell? ⟨b0, off0 + i, none⟩ = some (.int .i64 (g.owner.getD i 0)) := cellB ((bel_box _).trans ((bel_box _).mono (by simp))) HE.out
  by_cases ho : g.owner.getD i 0 = 0
  · have HM : Hid (moreG g 2 i x = ⟨g.owner, g.prio, g.succ.set i (g.succ.getD i [] ++ [(x : Int)])⟩) := by show _ = _; unfold moreG; rw [if_neg (by decide), if_neg (by decide), if_pos ho]
    rw [ho] at e1
    have hz : ((0 : Int) == 0) = true := rfl
    have HRI := Lib.hid (hV i (by omega))
    have hsl := hS i
    generalize hrow : g.succ.getD i [] = row at *
    rw [lc] at e1 g2 ⊢
    have HT := Lib.hid hti
    have hle0 : (0 : Int) ≤ i := by omega
    have hlt0 : (i : Int) < g.owner.length := by omega
    have HG2 : Hid (∀ W, Below w.heap.size w W → ArrAt W ao2 cap2 b2 off2 g.owner.length V) := fun W h => ⟨g2.lc, g2.cm, g2.nm, g2.nc, g2.ad, fun j hj => cellB h (g2.el j hj)⟩
    have HV := Lib.hid hV
    have HRR := Lib.hid hrows
    have hmx : Try.prog.follows .mixedOrders = true := by kernel_rfl
    clear hg hk0 lb hv g0 g2 hV hS ho
    go_enter Try.func16, Try.ntmps16
    go_upto_region 5 with (at_builtin; go_loud (refine app_rows rfl _ _ rfl (w.heap.size + 2) _ (OR_emptyN _ _ (by simp)) rfl _ _ _ _ _ V (HG2.out _ (by repeat (first | exact Below.refl _ _ | assumption | (refine belA ?_ _) | (refine belD ?_ _)))) hV1 rfl (by omega) (by simp) ?_; intro v' w' hown' hg hmv; have hBW := ((bel_box _).mono (by simp)).grown (B := w.heap.size + 2) hg (by simp) (fun g h => by simp [Value.ownBlock] at h; omega); have HF : Hid (Fr w w' #[Value.slice (some ⟨b0, off0, none⟩) g.owner.length cap0, Value.slice ao1 g.prio.length cap1, Value.slice ao2 g.owner.length cap2]) := ⟨Boxed.start ((bel_box _).trans (hBW.mono (by simp))), (hBW.block _ (by simp)).trans (by (repeat (rw [alloc_get]; first | rw [if_pos (by first | (simp; done) | (simp; omega))] | rw [if_neg (by first | (simp; done) | (simp; omega))])); (try rfl))⟩; obtain ⟨gb, cb, hv', hgb⟩ := OR_row hown' h0; subst hv'; have HO2 := Lib.hid (ownsRow_set_ne (g := w.heap.size) (j := 2) (u := .slice (some ⟨gb, 0, none⟩) g.owner.length cb) hown' (fun e => by simp [Value.ownBlock] at e; omega)); clear hown' hg hmv hBW; have HF2 := Lib.hid (HF.out.set2 (.slice (some ⟨gb, 0, none⟩) g.owner.length cb)); obtain ⟨⟨p0, p1, p2⟩, -, -, p3⟩ := HF.out.cells))
    generalize (w'.setCell ⟨w.heap.size, 2, none⟩ (.slice (some ⟨gb, 0, none⟩) g.owner.length cb)) = w2 at *
    clear p0 p1 p2 p3
    have HBX : Hid (∀ W, Below w2.drew.heap.size w2.drew W → Fr w W #[Value.slice (some ⟨b0, off0, none⟩) g.owner.length cap0, Value.slice ao1 g.prio.length cap1, .slice (some ⟨gb, 0, none⟩) g.owner.length cb]) := fun W h => HF2.out.step (((Below.drew (Below.refl _ _)).trans h).mono HF2.out.lt)
    have HD : Hid (∀ W, Below w2.drew.heap.size w2.drew W → Below w2.heap.size w2 W) := fun W h => (Below.drew (Below.refl _ _)).trans h
    have HOW : Hid (∀ W, Below w2.drew.heap.size w2.drew W → W.ownsRow (w.heap.size + 2) 22 1 (.slice (some ⟨gb, 0, none⟩) g.owner.length cb) g.owner.length ((List.range g.owner.length).map V)) := fun W h => World.ownsRow.kept HO2.out (below_grown (HD.out W h)) (Classical.em _)
    have HCV : Hid (∀ W, Below w2.drew.heap.size w2.drew W → W.cell? ⟨gb, i, none⟩ = some (V i)) := fun W h => by rw [World.ownsRow.cellAt (HOW.out W h) i (by rw [Nat.mul_one]; exact HT.out)]; simp [HT.out]
    have HRW : Hid (∀ W, Below w2.drew.heap.size w2.drew W → IsInts W (V i) row) := fun W h => HRI.out.below (HBX.out W h).bx.bl
    refine region_use hmx (RM w2.drew.heap.size w.heap.size gb g.owner.length cb i to1 x (V i) row) usesM [(17, 9)] (fun vs => { tmps := (_ :: _ :: _ :: _ :: _ :: _ :: _ :: _ :: _ :: _ :: _ :: _ :: _ :: _ :: _ :: _ :: _ :: _ :: _ :: _ :: _ :: _ :: _ :: _ :: _ :: _ :: _ :: _ :: _ :: vs 0 :: vs 1 :: vs 2 :: vs 3 :: vs 4 :: vs 5 :: vs 6 :: vs 7 :: vs 8 :: vs 9 :: vs 10 :: vs 11 :: vs 12 :: vs 13 :: vs 14 :: vs 15 :: vs 16 :: vs 17 :: vs 18 :: _ :: _ :: _ :: _ :: _ :: _ :: _ :: _ :: _ :: _ :: _ :: _ :: _ :: _ :: _ :: _ :: _ :: _ :: _ :: _ :: _ :: _ :: _ :: []).toArray, defers := [] }) (fun _ => undef) 19 rfl (by kernel_rfl) (by kernel_rfl) (by kernel_rfl) ?step ?last
    case step =>
      intro ix o hi ho
      match ix, hi, ho with
      | 0, hi, ho =>
        obtain rfl := Option.some.inj ho
        intro vs W K hB hD hK
        have HK := Lib.hid (use_plain (RM.mono w2.drew.heap.size w.heap.size gb g.owner.length cb i to1 x (V i) row) hB hK)
        clear hK hD ho hi
        dsimp only
        go_simp
        have h := HK.out _ _ (Below.refl _ _) rfl
        simp only [upd, Nat.reduceEqDiff, reduceIte] at h
        exact h
      | 1, hi, ho =>
        obtain rfl := Option.some.inj ho
        intro vs W K hB hD hK
        have HK := Lib.hid (use_plain (RM.mono w2.drew.heap.size w.heap.size gb g.owner.length cb i to1 x (V i) row) hB hK)
        have e0 : vs 0 = .pointer (some ⟨w.heap.size, 2, none⟩) := dep_use hD 0 (by rfl) (.inl rfl)
        have c2 := (HBX.out W hB).cells.1.2.2
        clear hK hD ho hi
        dsimp only
        go_simp
        have h := HK.out _ _ (Below.refl _ _) rfl
        simp only [upd, Nat.reduceEqDiff, reduceIte, e0] at h
        exact h
      | 2, hi, ho =>
        obtain rfl := Option.some.inj ho
        intro vs W K hB hD hK
        have HK := Lib.hid (use_plain (RM.mono w2.drew.heap.size w.heap.size gb g.owner.length cb i to1 x (V i) row) hB hK)
        clear hK hD ho hi
        dsimp only
        go_simp
        have h := HK.out _ _ (Below.refl _ _) rfl
        simp only [upd, Nat.reduceEqDiff, reduceIte] at h
        exact h
      | 3, hi, ho =>
        obtain rfl := Option.some.inj ho
        intro vs W K hB hD hK
        have HK := Lib.hid (use_plain (RM.mono w2.drew.heap.size w.heap.size gb g.owner.length cb i to1 x (V i) row) hB hK)
        clear hK hD ho hi
        dsimp only
        go_simp
        have h := HK.out _ _ (bel_box _) ⟨_, rfl, hB.size, heap_alloc_new _ _⟩
        simp only [upd, Nat.reduceEqDiff, reduceIte] at h
        exact h
      | 4, hi, ho =>
        obtain rfl := Option.some.inj ho
        intro vs W K hB hD hK
        have HK := Lib.hid (use_plain (RM.mono w2.drew.heap.size w.heap.size gb g.owner.length cb i to1 x (V i) row) hB hK)
        clear hK hD ho hi
        dsimp only
        go_simp
        have h := HK.out _ _ (Below.refl _ _) rfl
        simp only [upd, Nat.reduceEqDiff, reduceIte] at h
        exact h
      | 5, hi, ho =>
        obtain rfl := Option.some.inj ho
        intro vs W K hB hD hK
        have HK := Lib.hid (use_plain (RM.mono w2.drew.heap.size w.heap.size gb g.owner.length cb i to1 x (V i) row) hB hK)
        have e4 : vs 4 = .pointer (some ⟨w.heap.size, 2, none⟩) := dep_use hD 4 (by rfl) (.inl rfl)
        have c2 := (HBX.out W hB).cells.1.2.2
        clear hK hD ho hi
        dsimp only
        go_simp
        have h := HK.out _ _ (Below.refl _ _) rfl
        simp only [upd, Nat.reduceEqDiff, reduceIte, e4] at h
        exact h
      | 6, hi, ho =>
        obtain rfl := Option.some.inj ho
        intro vs W K hB hD hK
        have HK := Lib.hid (use_plain (RM.mono w2.drew.heap.size w.heap.size gb g.owner.length cb i to1 x (V i) row) hB hK)
        clear hK hD ho hi
        dsimp only
        go_simp
        have h := HK.out _ _ (Below.refl _ _) rfl
        simp only [upd, Nat.reduceEqDiff, reduceIte] at h
        exact h
      | 7, hi, ho =>
        obtain rfl := Option.some.inj ho
        intro vs W K hB hD hK
        have HK := Lib.hid (use_plain (RM.mono w2.drew.heap.size w.heap.size gb g.owner.length cb i to1 x (V i) row) hB hK)
        have e5 : vs 5 = .slice (some ⟨gb, 0, none⟩) g.owner.length cb := dep_use hD 5 (by rfl) (.inl rfl)
        have e6 : vs 6 = .int .i64 (i : Int) := dep_use hD 6 (by rfl) (.inl rfl)
        clear hK hD ho hi
        dsimp only
        go_simp
        have h := HK.out _ _ (Below.refl _ _) rfl
        simp only [upd, Nat.reduceEqDiff, reduceIte, e5, e6] at h
        exact h
      | 8, hi, ho =>
        obtain rfl := Option.some.inj ho
        intro vs W K hB hD hK
        have HK := Lib.hid (use_plain (RM.mono w2.drew.heap.size w.heap.size gb g.owner.length cb i to1 x (V i) row) hB hK)
        have e7 : vs 7 = .pointer (some ⟨gb, i, none⟩) := dep_use hD 7 (by rfl) (.inl rfl)
        have c8 := HCV.out W hB
        clear hK hD ho hi
        dsimp only
        go_simp
        have h := HK.out _ _ (Below.refl _ _) rfl
        simp only [upd, Nat.reduceEqDiff, reduceIte, e7] at h
        exact h
      | 9, hi, ho =>
        obtain rfl := Option.some.inj ho
        intro vs W K hB hD hK
        have HK := Lib.hid hK
        obtain ⟨q, d3, d4, d5⟩ : ∃ q, vs 3 = .slice (some ⟨q, 0, none⟩) 0 0 ∧ w2.drew.heap.size ≤ q ∧ W.heap[q]? = some (.cells #[] 3 (0, 0)) := dep_use hD 3 (by rfl) (.inr rfl)
        have e1 : vs 8 = V i := dep_use hD 8 (by rfl) (.inl rfl)
        have hsrc := HRW.out W hB
        clear hK hD ho hi
        rw [if_pos (by rfl)]
        refine wp_app_ints W (.tmp 32) (.tmp 37) (by rfl) w2.drew.heap.size (vs 3) (V i) [] row (by rfl) (d3 ▸ OI_cells0 d4 d5) ((by rfl : _ = vs 8).trans e1) hsrc (by rw [List.length_nil]; omega) hB.size ?_
        intro v' w' hown hg
        have h := HK.out v' w' (hB.grown hg hB.size (fun g h => (d3 ▸ OI_cells0 d4 d5 : OI W w2.drew.heap.size (vs 3) []).ge g h)) hown (fun j y h1 h2 h3 h4 hx => RM.app d3 d5 hg j y (fun e => by subst e; exact h2 rfl) h1 (fun e => by subst e; exact h4 (by simp)) hx)
        simp only [upd, Nat.reduceEqDiff, reduceIte] at h
        exact h
      | 10, hi, ho =>
        obtain rfl := Option.some.inj ho
        intro vs W K hB hD hK
        have HK := Lib.hid (use_plain (RM.mono w2.drew.heap.size w.heap.size gb g.owner.length cb i to1 x (V i) row) hB hK)
        clear hK hD ho hi
        dsimp only
        go_simp
        have h := HK.out _ _ (Below.refl _ _) rfl
        simp only [upd, Nat.reduceEqDiff, reduceIte] at h
        exact h
      | 11, hi, ho =>
        obtain rfl := Option.some.inj ho
        intro vs W K hB hD hK
        have HK := Lib.hid (use_plain (RM.mono w2.drew.heap.size w.heap.size gb g.owner.length cb i to1 x (V i) row) hB hK)
        have e10 : vs 10 = .int .u8 (to1 : Int) := dep_use hD 10 (by rfl) (.inl rfl)
        clear hK hD ho hi
        dsimp only
        go_simp
        have h := HK.out _ _ (Below.refl _ _) rfl
        simp only [upd, Nat.reduceEqDiff, reduceIte, e10] at h
        exact h
      | 12, hi, ho =>
        obtain rfl := Option.some.inj ho
        intro vs W K hB hD hK
        have HK := Lib.hid (use_plain (RM.mono w2.drew.heap.size w.heap.size gb g.owner.length cb i to1 x (V i) row) hB hK)
        clear hK hD ho hi
        dsimp only
        go_simp
        have h := HK.out _ _ (Below.refl _ _) rfl
        simp only [upd, Nat.reduceEqDiff, reduceIte] at h
        exact h
      | 13, hi, ho =>
        obtain rfl := Option.some.inj ho
        intro vs W K hB hD hK
        have HK := Lib.hid (use_plain (RM.mono w2.drew.heap.size w.heap.size gb g.owner.length cb i to1 x (V i) row) hB hK)
        have e12 : vs 12 = .pointer (some ⟨w.heap.size, 2, none⟩) := dep_use hD 12 (by rfl) (.inl rfl)
        have c2 := (HBX.out W hB).cells.1.2.2
        clear hK hD ho hi
        dsimp only
        go_simp
        have h := HK.out _ _ (Below.refl _ _) rfl
        simp only [upd, Nat.reduceEqDiff, reduceIte, e12] at h
        exact h
      | 14, hi, ho =>
        obtain rfl := Option.some.inj ho
        intro vs W K hB hD hK
        have HK := Lib.hid (use_plain (RM.mono w2.drew.heap.size w.heap.size gb g.owner.length cb i to1 x (V i) row) hB hK)
        have e13 : vs 13 = .slice (some ⟨gb, 0, none⟩) g.owner.length cb := dep_use hD 13 (by rfl) (.inl rfl)
        clear hK hD ho hi
        dsimp only
        go_simp
        have h := HK.out _ _ (Below.refl _ _) rfl
        simp only [upd, Nat.reduceEqDiff, reduceIte, e13] at h
        exact h
      | 15, hi, ho =>
        obtain rfl := Option.some.inj ho
        intro vs W K hB hD hK
        have HK := Lib.hid (use_plain (RM.mono w2.drew.heap.size w.heap.size gb g.owner.length cb i to1 x (V i) row) hB hK)
        have e11 : vs 11 = .int .i64 (to1 : Int) := dep_use hD 11 (by rfl) (.inl rfl)
        have e14 : vs 14 = .int .i64 (g.owner.length : Int) := dep_use hD 14 (by rfl) (.inl rfl)
        clear hK hD ho hi
        dsimp only
        go_simp
        rw [if_neg (fun e => by rw [e] at h0; simp at h0)]
        have h := HK.out _ _ (Below.refl _ _) rfl
        simp only [upd, Nat.reduceEqDiff, reduceIte, e11, e14] at h
        exact h
      | 16, hi, ho =>
        obtain rfl := Option.some.inj ho
        intro vs W K hB hD hK
        have HK := Lib.hid (use_plain (RM.mono w2.drew.heap.size w.heap.size gb g.owner.length cb i to1 x (V i) row) hB hK)
        have e15 : vs 15 = .int .i64 (x : Int) := dep_use hD 15 (by rfl) (.inl rfl)
        clear hK hD ho hi
        dsimp only
        go_simp
        have h := HK.out _ _ (bel_box _) ((OI_one' W (x : Int)).is (by simp [maxN]) (fun y hy => by rw [List.mem_singleton.1 hy]; unfold I64; omega))
        simp only [upd, Nat.reduceEqDiff, reduceIte, e15] at h
        exact h
      | 17, hi, ho =>
        obtain rfl := Option.some.inj ho
        intro vs W K hB hD hK
        have HK := Lib.hid hK
        have d9 : OI W w2.drew.heap.size (vs 9) row := dep_use hD 9 (by rfl) (.inr rfl)
        have hsrc : IsInts W (vs 16) [(x : Int)] := dep_use hD 16 (by rfl) (.inr rfl)
        clear hK hD ho hi
        rw [if_pos (by rfl)]
        refine wp_app_ints W (.tmp 38) (.tmp 45) (by rfl) w2.drew.heap.size (vs 9) (vs 16) row [(x : Int)] (by rfl) d9 (by rfl) hsrc (by rw [List.length_singleton]; omega) hB.size ?_
        intro v' w' hown hg
        have h := HK.out v' w' (hB.grown hg hB.size (fun g h => d9.ge g h)) hown (fun j y h1 h2 h3 h4 hx => RM.app2 j y (fun e => by subst e; exact h3 9 rfl (by simp)) (fun e => by subst e; exact h2 rfl) (fun e => by subst e; exact h2 rfl) h1 hx)
        simp only [upd, Nat.reduceEqDiff, reduceIte] at h
        exact h
      | 18, hi, ho =>
        obtain rfl := Option.some.inj ho
        intro vs W K hB hD hK
        have HK := Lib.hid (use_plain (RM.mono w2.drew.heap.size w.heap.size gb g.owner.length cb i to1 x (V i) row) hB hK)
        have e1 : vs 1 = .slice (some ⟨gb, 0, none⟩) g.owner.length cb := dep_use hD 1 (by rfl) (.inl rfl)
        have e2 : vs 2 = .int .i64 (i : Int) := dep_use hD 2 (by rfl) (.inl rfl)
        clear hK hD ho hi
        dsimp only
        go_simp
        have h := HK.out _ _ (Below.refl _ _) rfl
        simp only [upd, Nat.reduceEqDiff, reduceIte, e1, e2] at h
        exact h
      | n + 19, hi, ho => omega
    case last =>
      intro o ho
      obtain rfl := Option.some.inj ho
      intro vs W K hB hall hK
      have HK := Lib.hid hK
      have e18 : vs 18 = .pointer (some ⟨gb, i, none⟩) := hall 18 (by omega) rfl
      have d17 : OI W w2.drew.heap.size (vs 17) (row ++ [(x : Int)]) := hall 17 (by omega) rfl
      obtain ⟨a17, c17, e17⟩ := d17.slice
      rw [List.length_append, List.length_singleton] at e17
      rw [e17] at d17
      have HO17 := Lib.hid d17
      have k1 := HCV.out W hB
      have k2 := World.ownsRow.frozenAt (HOW.out W hB) i
      have hgl : gb < w2.drew.heap.size := (World.ownsRow.lt HO2.out gb rfl).2
      have HR5 := Lib.hid (World.ownsRow.stored (HOW.out W hB) i (.slice a17 (row.length + 1) c17)).1
      have HF5 := Lib.hid ((HBX.out W hB).own (j := i) hgb (.slice a17 (row.length + 1) c17))
      have HE5 := Lib.hid (d17.setNe (g := gb) (j := i) (u := .slice a17 (row.length + 1) c17) (fun e => by have := d17.ge gb e; omega))
      clear ho hall hK d17
      dsimp only
      go_simp
      refine HK.out _ _ ?_
      clear e18 e17 k1 k2 HK HO17 HRW HCV HOW HBX
      generalize (W.setCell ⟨gb, i, none⟩ (.slice a17 (row.length + 1) c17)) = wd at *
      generalize vs 0 = q0
      generalize vs 1 = q1
      generalize vs 2 = q2
      generalize vs 3 = q3
      generalize vs 4 = q4
      generalize vs 5 = q5
      generalize vs 6 = q6
      generalize vs 7 = q7
      generalize vs 8 = q8
      generalize vs 9 = q9
      generalize vs 10 = q10
      generalize vs 11 = q11
      generalize vs 12 = q12
      generalize vs 13 = q13
      generalize vs 14 = q14
      generalize vs 15 = q15
      generalize vs 16 = q16
      generalize vs 17 = q17
      generalize vs 18 = q18
      clear vs
      obtain ⟨⟨r0, r1, r2⟩, -⟩ := HF5.out.cells
      obtain ⟨⟨z0, z1, z2⟩, y0, y1, y2⟩ := HF5.out.res
      go_wp2
      (have hc3 := three_set (a := .slice (some ⟨b0, off0, none⟩) g.owner.length cap0) (b := .slice ao1 g.prio.length cap1) (c := .slice (some ⟨gb, 0, none⟩) g.owner.length cb) HF5.out.rc); (have c0 := cell_of_row _ _ 0 _ _ _ hc3); (have c1 := cell_of_row _ _ 1 _ _ _ hc3); (have c2 := cell_of_row _ _ 2 _ _ _ hc3); (refine bodyPost_ret (v := .agg #[.slice (some ⟨b0, off0, none⟩) g.owner.length cap0, .slice ao1 g.prio.length cap1, .slice (some ⟨gb, 0, none⟩) g.owner.length cb]) (by simp [results, Try.results16, go_sem, c0, c1, c2]) rfl ?_)
      have hbf := below_three (a := .slice (some ⟨b0, off0, none⟩) g.owner.length cap0) (b := .slice ao1 g.prio.length cap1) (c := .slice (some ⟨gb, 0, none⟩) g.owner.length cb) HF5.out.bx.bl (Nat.le_succ _)
      rw [HM.out]
      refine gameEnd hbf (HI0.out.below hbf) (HI1.out.below hbf) ?_
      show IsRows _ _ (g.succ.set i (row ++ [(x : Int)]))
      have hne : (Value.slice (some ⟨gb, 0, none⟩) g.owner.length cb).ownBlock ≠ some (w.heap.size + 1) := fun e => by simp [Value.ownBlock] at e; omega
      have hne2 : (Value.slice a17 (row.length + 1) c17).ownBlock ≠ some (w.heap.size + 1) := fun e => by have := HE5.out.ge _ e; omega
      have hR := ownsRow_set_ne (g := w.heap.size + 1) (j := 2) (u := .slice (some ⟨gb, 0, none⟩) g.owner.length cb) (ownsRow_set_ne (g := w.heap.size + 1) (j := 1) (u := .slice ao1 g.prio.length cap1) (ownsRow_set_ne (g := w.heap.size + 1) (j := 0) (u := .slice (some ⟨b0, off0, none⟩) g.owner.length cap0) HR5.out hne) hne) hne
      have hE := ((HE5.out.setNe (g := w.heap.size + 1) (j := 0) (u := .slice (some ⟨b0, off0, none⟩) g.owner.length cap0) hne2).setNe (g := w.heap.size + 1) (j := 1) (u := .slice ao1 g.prio.length cap1) hne2).setNe (g := w.heap.size + 1) (j := 2) (u := .slice (some ⟨gb, 0, none⟩) g.owner.length cb) hne2
      have hlv : (((List.range g.owner.length).map V).set i (.slice a17 (row.length + 1) c17)).length = g.owner.length := by simp
      refine ⟨fun j => (((List.range g.owner.length).map V).set i (.slice a17 (row.length + 1) c17)).getD j undef, ?_, fun j hj => ?_⟩
      · rw [List.length_set, HSn.out]
        exact ownsRow_arr hR (by unfold maxN; omega) _ (fun j hj => by rw [getD_lt _ _ _ (by rw [hlv]; exact hj)]; simp [hj])
      · rw [List.length_set, HSn.out] at hj
        rw [getD_setL _ _ _ _ (by rw [HSn.out]; exact HT.out)]
        dsimp only
        by_cases e : i = j
        · subst e
          rw [if_pos rfl, getD_set_eq _ _ _ _ (by simpa using HT.out)]
          refine hE.is (by rw [List.length_append, List.length_singleton]; unfold maxN; omega) fun y hy => ?_
          rcases List.mem_append.1 hy with hy | hy
          · exact HRI.out.2 y hy
          · rw [List.mem_singleton.1 hy]; unfold I64; omega
        · rw [if_neg e, getD_set_ne _ _ _ _ _ e, getD_lt _ _ _ (by simpa using hj)]
          simp only [List.getElem_map, List.getElem_range]
          exact (HV.out j (by rw [HSn.out]; exact hj)).below hbf
  · have hM : Hid (moreG g 2 i x = g) := by show _ = _; unfold moreG; rw [if_neg (by decide), if_neg (by decide), if_neg ho]
    have hne : (g.owner.getD i 0 == 0) = false := beq_eq_false_iff_ne.2 ho
    generalize g.owner.getD i 0 = ow at *
    rw [lc] at e1 ⊢
    have HT := Lib.hid hti
    have hle0 : (0 : Int) ≤ i := by omega
    have hlt0 : (i : Int) < g.owner.length := by omega
    clear hti hg hk0 lb lc hv g0 g2 hV htx hrows hS ho
    go_enter Try.func16, Try.ntmps16
    go_wp2
    refine bodyPost_ret (v := .agg #[.slice (some ⟨b0, off0, none⟩) g.owner.length cap0, .slice ao1 g.prio.length cap1, .slice ao2 g.owner.length cap2]) (by simp [results, Try.results16, go_sem]) rfl ?_
    have hbf := (bel_box (w := w) (Obj.cells #[Value.slice (some ⟨b0, off0, none⟩) g.owner.length cap0, Value.slice ao1 g.prio.length cap1, Value.slice ao2 g.owner.length cap2] 25)).trans ((bel_box (Obj.cells #[Value.slice (some ⟨b0, off0, none⟩) g.owner.length cap0, Value.slice ao1 g.prio.length cap1, Value.slice ao2 g.owner.length cap2] 25)).mono (by simp))
    rw [hM.out]
    have h2 := HI2.out
    rw [HSn.out] at h2
    exact gameEnd hbf (HI0.out.below hbf) (HI1.out.below hbf) (h2.below hbf)

end Go.Proofs.Ytjhafakkadnfmaa
