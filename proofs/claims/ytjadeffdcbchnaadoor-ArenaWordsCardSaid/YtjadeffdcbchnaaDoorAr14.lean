/- What the steps of Build's rounds leave of what the loop has made. -/
import Derived.Test.YtjadeffdcbchnaaDoorAr13
namespace Go.Proofs.YtjadeffdcbchnaaDoor
open Go.RowKit Go.Shelf Go.Maps Go.WideMaps

/-- A step within a round: what lies below B and the iterator's boxes are kept; of what lies from n₁ on, cells alone are written. -/
def StepK (B n₁ Bp Bb : Nat) (W W' : World) : Prop := KpN B Bp Bb W W' ∧ KeepsFrom n₁ W W'
theorem StepK.refl (B n₁ Bp Bb : Nat) (W : World) : StepK B n₁ Bp Bb W W := ⟨KpN.refl _ _ _ _, KeepsFrom.refl _ _⟩
theorem StepK.trans {B n₁ Bp Bb : Nat} {X Y Z : World} (h : StepK B n₁ Bp Bb X Y) (k : StepK B n₁ Bp Bb Y Z) : StepK B n₁ Bp Bb X Z := ⟨h.1.trans k.1, h.2.trans k.2⟩

section
variable {w w' : World} {B z zp zm zn zS Bp Bb : Nat} {v0 v1 v2 vp vS : Value} {vals : List Value} {gm : Gm} {pls ml : List Pl} {nums : List Int}

theorem BI.lts (h : BI w B z zp zm zn zS Bp Bb v0 v1 v2 vp vS vals gm pls ml nums) : z < w.heap.size ∧ zS < w.heap.size ∧ zp < w.heap.size ∧ zm < w.heap.size ∧ zn < w.heap.size ∧ Bp < w.heap.size ∧ Bb < w.heap.size :=
  ⟨h.g.zlt, h.g.lt (boxV zS) (by simp) zS rfl, h.g.lt (boxV zp) (by simp) zp rfl, h.g.lt (boxV zm) (by simp) zm rfl, h.g.lt (boxV zn) (by simp) zn rfl, h.g.lt (boxV Bp) (by simp) Bp rfl, h.g.lt (boxV Bb) (by simp) Bb rfl⟩

theorem StepK.of_below {n₁ : Nat} (h : BI w B z zp zm zn zS Bp Bb v0 v1 v2 vp vS vals gm pls ml nums) (hb : Below w.heap.size w w') (hB : B ≤ w.heap.size) : StepK B n₁ Bp Bb w w' := by
  obtain ⟨-, -, -, -, -, h1, h2⟩ := h.lts
  exact ⟨KpN.of_below hb hB h1 h2, ⟨hb.size, fun k o _ hk _ => (hb.block k (Array.getElem?_eq_some_iff.1 hk).1).trans hk⟩⟩

/-- An entry of the map. -/
theorem BI.put {n₁ : Nat} {ml' : List Pl} (h : BI w B z zp zm zn zS Bp Bb v0 v1 v2 vp vS vals gm pls ml nums) (hg : w.grownBy w' (some zm)) (hm : NumM w' zm ml') (hB : B ≤ w.heap.size) (hn : zm < n₁) :
    BI w' B z zp zm zn zS Bp Bb v0 v1 v2 vp vS vals gm pls ml' nums ∧ StepK B n₁ Bp Bb w w' := by
  have hat : ∀ i u, i ≠ 4 → ([vS, boxV zS, vp, boxV zp, boxV zm, boxV zn, boxV Bp, boxV Bb] : List Value)[i]? = some u → ∀ k, u.ownBlock = some k → w'.heap[k]? = w.heap[k]? := fun i u hi hu k hk => by
    have a1 := h.g.twoAt hi hu (v := boxV zm) rfl
    exact hg.block k (h.g.lt u (List.mem_of_getElem? hu) k hk) (fun e => a1 k hk (by cases e; rfl))
  refine ⟨{ g := ?_, o := ownsRow_blk h.o (hat 0 vS (by omega) rfl), bs := (hat 1 (boxV zS) (by omega) rfl zS rfl).trans h.bs, p := ownsRow_blk h.p (hat 2 vp (by omega) rfl), bp := (hat 3 (boxV zp) (by omega) rfl zp rfl).trans h.bp, m := hm, bn := (hat 5 (boxV zn) (by omega) rfl zn rfl).trans h.bn, lo := h.lo },
    ⟨(Below.refl _ _).grown hg hB (fun k hk => by cases hk; exact h.lo.2.2), hat 6 (boxV Bp) (by omega) rfl Bp rfl, hat 7 (boxV Bb) (by omega) rfl Bb rfl⟩, KeepsFrom.of_grownBy hg (fun j hj => by cases hj; exact hn)⟩
  have h1 := h.g.blk (w' := w') hg.size fun u hu k hk => by
    have a1 := h.g.oneAt hu (i := 4) (v := boxV zm) rfl
    refine hg.block k ?_ (fun e => a1 k hk (by cases e; rfl))
    exact h.g.lts u (by
      have e : (boxV z :: v0 :: v1 :: v2 :: (vals ++ [vS, boxV zS, vp, boxV zp, boxV zm, boxV zn, boxV Bp, boxV Bb])) = (boxV z :: v0 :: v1 :: v2 :: vals) ++ [vS, boxV zS, vp, boxV zp, boxV zm, boxV zn, boxV Bp, boxV Bb] := rfl
      rw [e]; exact List.mem_append_left _ hu) k hk
  exact h1

theorem keeps_app {n₁ : Nat} {v x : Value} {b : Nat} {j : Nat} (hg : w.grownBy w' v.ownBlock) (hv : ∀ k, v.ownBlock = some k → ∃ o, w.heap[k]? = some o ∧ o.isCells = true) : KeepsFrom n₁ w (w'.setCell ⟨b, j, none⟩ x) := by
  refine KeepsFrom.trans (Y := w') ⟨hg.size, fun k o _ hk ho => ?_⟩ ((KeepsOthers.setCell w' ⟨b, j, none⟩ x).from _)
  refine (hg.block k (Array.getElem?_eq_some_iff.1 hk).1 (fun e => ?_)).trans hk
  obtain ⟨o', h1, h2⟩ := hv k e.symm
  rw [hk] at h1; cases h1; rw [ho] at h2; cases h2

/-- A place is appended, the new slice stored. -/
theorem BI.appP {n₁ : Nat} {vp' : Value} {pls' : List Pl} (h : BI w B z zp zm zn zS Bp Bb v0 v1 v2 vp vS vals gm pls ml nums) (ho : OP w' B vp' pls') (hg : w.grownBy w' vp.ownBlock) (hm : Moved w vp vp') (hB : B ≤ w.heap.size) :
    w'.heap[zp]? = some (.cells #[vp] 34 (0, 0)) ∧ BI (w'.setCell ⟨zp, 0, none⟩ vp') B z zp zm zn zS Bp Bb v0 v1 v2 vp' vS vals gm pls' ml nums ∧ StepK B n₁ Bp Bb w (w'.setCell ⟨zp, 0, none⟩ vp') := by
  obtain ⟨h1, h2, h3, h4⟩ := h.g.app (i := 2) (j := 3) (by omega) rfl rfl hg hm (fun g hg => (World.ownsRow.lt ho g hg).2) vp'
  have hbox := h2.trans h.bp
  have hB2 : Below B w (w'.setCell ⟨zp, 0, none⟩ vp') := ((Below.refl _ _).grown hg hB (fun k hk => (World.ownsRow.lt h.p k hk).1)).setCell (p := ⟨zp, 0, none⟩) h.lo.2.1 _
  refine ⟨hbox, { g := h1, o := ownsRow_blk h.o (h4 0 vS (by omega) (by omega) rfl), bs := (h4 1 (boxV zS) (by omega) (by omega) rfl zS rfl).trans h.bs, p := ?_, bp := heap_setCell_same w' zp 0 _ _ vp' hbox, m := h.m.blk (h4 4 (boxV zm) (by omega) (by omega) rfl zm rfl), bn := (h4 5 (boxV zn) (by omega) (by omega) rfl zn rfl).trans h.bn, lo := h.lo },
    ⟨hB2, h4 6 (boxV Bp) (by omega) (by omega) rfl Bp rfl, h4 7 (boxV Bb) (by omega) (by omega) rfl Bb rfl⟩, keeps_app hg fun k hk => ownsRow_cells h.p hk⟩
  exact ownsRow_blk ho fun k hk => heap_set_ne _ _ _ _ _ (fun e => h3 (by rw [hk, e]))

/-- A number is appended to the successors, the new slice stored. -/
theorem BI.appS {n₁ : Nat} {vS' : Value} {nums' : List Int} (h : BI w B z zp zm zn zS Bp Bb v0 v1 v2 vp vS vals gm pls ml nums) (ho : OI w' B vS' nums') (hg : w.grownBy w' vS.ownBlock) (hm : Moved w vS vS') (hB : B ≤ w.heap.size) :
    w'.heap[zS]? = some (.cells #[vS] 26 (0, 0)) ∧ BI (w'.setCell ⟨zS, 0, none⟩ vS') B z zp zm zn zS Bp Bb v0 v1 v2 vp vS' vals gm pls ml nums' ∧ StepK B n₁ Bp Bb w (w'.setCell ⟨zS, 0, none⟩ vS') := by
  obtain ⟨h1, h2, h3, h4⟩ := h.g.app (i := 0) (j := 1) (by omega) rfl rfl hg hm (fun g hg => (World.ownsRow.lt ho g hg).2) vS'
  have hbox := h2.trans h.bs
  have hB2 : Below B w (w'.setCell ⟨zS, 0, none⟩ vS') := ((Below.refl _ _).grown hg hB (fun k hk => (World.ownsRow.lt h.o k hk).1)).setCell (p := ⟨zS, 0, none⟩) h.lo.1 _
  refine ⟨hbox, { g := h1, o := ?_, bs := heap_setCell_same w' zS 0 _ _ vS' hbox, p := ownsRow_blk h.p (h4 2 vp (by omega) (by omega) rfl), bp := (h4 3 (boxV zp) (by omega) (by omega) rfl zp rfl).trans h.bp, m := h.m.blk (h4 4 (boxV zm) (by omega) (by omega) rfl zm rfl), bn := (h4 5 (boxV zn) (by omega) (by omega) rfl zn rfl).trans h.bn, lo := h.lo },
    ⟨hB2, h4 6 (boxV Bp) (by omega) (by omega) rfl Bp rfl, h4 7 (boxV Bb) (by omega) (by omega) rfl Bb rfl⟩, keeps_app hg fun k hk => ownsRow_cells h.o hk⟩
  exact ownsRow_blk ho fun k hk => heap_set_ne _ _ _ _ _ (fun e => h3 (by rw [hk, e]))

/-- What the loop's own book-keeping writes is none of it. -/
theorem BI.own {n₁ : Nat} {row : Option Nat} (h : BI w B z zp zm zn zS Bp Bb v0 v1 v2 vp vS vals gm pls ml nums) (hg : w.grownBy w' row) (hn : zm < n₁) (hr : ∀ r, row = some r → n₁ ≤ r ∧ ∃ o : Obj, w.heap[r]? = some o ∧ o.isCells = false) : BI w' B z zp zm zn zS Bp Bb v0 v1 v2 vp vS vals gm pls ml nums := by
  have hc : ∀ (k : Nat) (o : Obj), w.heap[k]? = some o → o.isCells = true → w'.heap[k]? = w.heap[k]? := fun k o hk ho => hg.block k (Array.getElem?_eq_some_iff.1 hk).1 (fun e => by
    obtain ⟨-, o', h1, h2⟩ := hr k e.symm
    rw [hk] at h1; cases h1; rw [ho] at h2; cases h2)
  have hw : ∀ {base e size n v xs}, w.ownsRow base e size n v xs → ∀ k, n.ownBlock = some k → w'.heap[k]? = w.heap[k]? := fun {base e size n v xs} h k hk => by
    obtain ⟨o, h1, h2⟩ := ownsRow_cells h hk
    exact hc k o h1 h2
  refine { g := h.g.blk hg.size fun u hu k hk => ?_, o := ownsRow_blk h.o (hw h.o), bs := (hc _ _ h.bs rfl).trans h.bs, p := ownsRow_blk h.p (hw h.p), bp := (hc _ _ h.bp rfl).trans h.bp, m := h.m.blk (hg.block zm h.m.lt (fun e => by have := (hr zm e.symm).1; omega)), bn := (hc _ _ h.bn rfl).trans h.bn, lo := h.lo }
  simp only [List.mem_cons] at hu
  rcases hu with rfl | rfl | rfl | rfl | hu
  · cases hk; exact hc _ _ h.g.box rfl
  · exact hw h.g.o k hk
  · exact hw h.g.p k hk
  · exact hw h.g.r k hk
  · obtain ⟨j, hj, rfl⟩ := List.getElem_of_mem hu
    have := h.g.e j (by rw [← h.g.vl]; exact hj)
    rw [getD_lt _ _ _ hj] at this
    exact hw this k hk

/-- The round ends: the boxes of the round are left behind. -/
structure BE (w : World) (B z zp zm zn zS : Nat) (v0 v1 v2 vp : Value) (vals : List Value) (gm : Gm) (pls : List Pl) (vS : Value) (nums : List Int) : Prop where
  g : GB w B z v0 v1 v2 vals gm [vS, boxV zS, vp, boxV zp, boxV zm, boxV zn]
  bs : w.heap[zS]? = some (.cells #[vS] 26 (0, 0))
  o : OI w B vS nums
  p : OP w B vp pls
  bp : w.heap[zp]? = some (.cells #[vp] 34 (0, 0))
  m : NumM w zm pls
  bn : w.heap[zn]? = some (.cells #[.map (some zm)] 72 (0, 0))
  lo : B ≤ zp ∧ B ≤ zm
theorem BI.close (h : BI w B z zp zm zn zS Bp Bb v0 v1 v2 vp vS vals gm pls pls nums) : BE w B z zp zm zn zS v0 v1 v2 vp vals gm pls vS nums :=
  { g := h.g.sub (by
      refine .cons_cons _ (.cons_cons _ (.cons_cons _ (.cons_cons _ (.cons_cons _ (.cons_cons _ ?_)))))
      exact List.nil_sublist _)
    bs := h.bs, o := h.o, p := h.p, bp := h.bp, m := h.m, bn := h.bn, lo := ⟨h.lo.2.1, h.lo.2.2⟩ }
theorem BE.below (h : BE w B z zp zm zn zS v0 v1 v2 vp vals gm pls vS nums) (hb : Below w.heap.size w w') : BE w' B z zp zm zn zS v0 v1 v2 vp vals gm pls vS nums :=
  { g := h.g.below hb
    bs := (hb.block _ (Array.getElem?_eq_some_iff.1 h.bs).1).trans h.bs
    o := ownsRow_blk h.o fun k hk => hb.block k (h.g.lt vS (by simp) k hk)
    p := ownsRow_blk h.p fun k hk => hb.block k (h.g.lt vp (by simp) k hk)
    bp := (hb.block _ (Array.getElem?_eq_some_iff.1 h.bp).1).trans h.bp
    m := h.m.below hb
    bn := (hb.block _ (Array.getElem?_eq_some_iff.1 h.bn).1).trans h.bn
    lo := h.lo }

theorem BE.stepO (h : BE w B z zp zm zn zS v0 v1 v2 vp vals gm pls vS nums) {v0' : Value} {x : Int} (ho : OI w' B v0' (gm.owner ++ [x])) (hg : w.grownBy w' v0.ownBlock) (hm : Moved w v0 v0') (hB : B ≤ w.heap.size) :
    w'.heap[z]? = some (.cells #[v0, v1, v2] 28 (0, 0)) ∧ BE (w'.setCell ⟨z, 0, none⟩ v0') B z zp zm zn zS v0' v1 v2 vp vals ⟨gm.owner ++ [x], gm.prio, gm.succ⟩ pls vS nums ∧ Below B w (w'.setCell ⟨z, 0, none⟩ v0') ∧ KeepsFrom 0 w (w'.setCell ⟨z, 0, none⟩ v0') := by
  obtain ⟨h1, h2, h3⟩ := h.g.stepO ho hg hm hB
  have hb := fun {i : Nat} {u : Value} (hu : ([vS, boxV zS, vp, boxV zp, boxV zm, boxV zn] : List Value)[i]? = some u) {k : Nat} (hk : u.ownBlock = some k) => h.g.othBlk (v := v0) (.inl rfl) hg 0 v0' hu hk
  exact ⟨h1, { g := h2, bs := (hb (i := 1) (u := boxV zS) rfl rfl).trans h.bs, o := ownsRow_blk h.o fun k hk => hb (i := 0) rfl hk, p := ownsRow_blk h.p fun k hk => hb (i := 2) rfl hk, bp := (hb (i := 3) (u := boxV zp) rfl rfl).trans h.bp, m := h.m.blk (hb (i := 4) (u := boxV zm) rfl rfl), bn := (hb (i := 5) (u := boxV zn) rfl rfl).trans h.bn, lo := h.lo }, h3.bl, keeps_app hg fun k hk => ownsRow_cells h.g.o hk⟩
theorem BE.stepP (h : BE w B z zp zm zn zS v0 v1 v2 vp vals gm pls vS nums) {v1' : Value} {x : Int} (ho : OI w' B v1' (gm.prio ++ [x])) (hg : w.grownBy w' v1.ownBlock) (hm : Moved w v1 v1') (hB : B ≤ w.heap.size) :
    w'.heap[z]? = some (.cells #[v0, v1, v2] 28 (0, 0)) ∧ BE (w'.setCell ⟨z, 1, none⟩ v1') B z zp zm zn zS v0 v1' v2 vp vals ⟨gm.owner, gm.prio ++ [x], gm.succ⟩ pls vS nums ∧ Below B w (w'.setCell ⟨z, 1, none⟩ v1') ∧ KeepsFrom 0 w (w'.setCell ⟨z, 1, none⟩ v1') := by
  obtain ⟨h1, h2, h3⟩ := h.g.stepP ho hg hm hB
  have hb := fun {i : Nat} {u : Value} (hu : ([vS, boxV zS, vp, boxV zp, boxV zm, boxV zn] : List Value)[i]? = some u) {k : Nat} (hk : u.ownBlock = some k) => h.g.othBlk (v := v1) (.inr (.inl rfl)) hg 1 v1' hu hk
  exact ⟨h1, { g := h2, bs := (hb (i := 1) (u := boxV zS) rfl rfl).trans h.bs, o := ownsRow_blk h.o fun k hk => hb (i := 0) rfl hk, p := ownsRow_blk h.p fun k hk => hb (i := 2) rfl hk, bp := (hb (i := 3) (u := boxV zp) rfl rfl).trans h.bp, m := h.m.blk (hb (i := 4) (u := boxV zm) rfl rfl), bn := (hb (i := 5) (u := boxV zn) rfl rfl).trans h.bn, lo := h.lo }, h3.bl, keeps_app hg fun k hk => ownsRow_cells h.g.p hk⟩
theorem BE.stepR (h : BE w B z zp zm zn zS v0 v1 v2 vp vals gm pls vS nums) {v2' : Value} (ho : w'.ownsRow B 26 1 v2' (gm.succ.length + 1) (vals ++ [vS])) (hg : w.grownBy w' v2.ownBlock) (hm : Moved w v2 v2') (hB : B ≤ w.heap.size) :
    w'.heap[z]? = some (.cells #[v0, v1, v2] 28 (0, 0)) ∧ BO (w'.setCell ⟨z, 2, none⟩ v2') B z zp zm zn v0 v1 v2' vp (vals ++ [vS]) ⟨gm.owner, gm.prio, gm.succ ++ [nums]⟩ pls ∧ Below B w (w'.setCell ⟨z, 2, none⟩ v2') ∧ KeepsFrom 0 w (w'.setCell ⟨z, 2, none⟩ v2') := by
  obtain ⟨h1, h2, h3⟩ := h.g.stepR h.o ho hg hm hB
  have hb := fun {i : Nat} {u : Value} (hu : ([vS, boxV zS, vp, boxV zp, boxV zm, boxV zn] : List Value)[i]? = some u) {k : Nat} (hk : u.ownBlock = some k) => h.g.othBlk (v := v2) (.inr (.inr rfl)) hg 2 v2' hu hk
  exact ⟨h1, { g := h2.sub (List.sublist_cons_self _ _), p := ownsRow_blk h.p fun k hk => hb (i := 2) rfl hk, bp := (hb (i := 3) (u := boxV zp) rfl rfl).trans h.bp, m := h.m.blk (hb (i := 4) (u := boxV zm) rfl rfl), bn := (hb (i := 5) (u := boxV zn) rfl rfl).trans h.bn, lo := h.lo }, h3.bl, keeps_app hg fun k hk => ownsRow_cells h.g.r hk⟩

end

end Go.Proofs.YtjadeffdcbchnaaDoor
