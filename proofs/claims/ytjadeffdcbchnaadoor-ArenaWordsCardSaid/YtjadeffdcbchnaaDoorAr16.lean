/- The marks that a range over a function leaves among the deferred calls; what Build's loop keeps. -/
import Derived.Test.YtjadeffdcbchnaaDoorAr14
namespace Go.Proofs.YtjadeffdcbchnaaDoor
open Go.RowKit Go.Shelf Go.Maps Go.WideMaps

/-- The marks of the ranges that have ended. -/
def Marks (n₁ : Nat) (ds : List Deferred) (w : World) : Prop := (∀ d ∈ ds, ∃ D, d = { target := .collected D, args := #[] } ∧ n₁ ≤ D ∧ w.heap[D]? = some (.deferred (some []))) ∧ ds.Pairwise (fun d e => d ≠ e)
theorem Marks.nil (n₁ : Nat) (w : World) : Marks n₁ [] w := ⟨(fun d hd => absurd hd (by simp)), List.Pairwise.nil⟩
theorem Marks.keeps {n₁ : Nat} {ds : List Deferred} {w w' : World} (h : Marks n₁ ds w) (hk : KeepsFrom n₁ w w') : Marks n₁ ds w' :=
  ⟨fun d hd => by obtain ⟨D, h1, h2, h3⟩ := h.1 d hd; exact ⟨D, h1, h2, hk.same D _ h2 h3 rfl⟩, h.2⟩
theorem Marks.lt {n₁ : Nat} {ds : List Deferred} {w : World} (h : Marks n₁ ds w) {D : Nat} {ar : Array Value} (hd : ({ target := .collected D, args := ar } : Deferred) ∈ ds) : D < w.heap.size := by
  obtain ⟨D', h1, h2, h3⟩ := h.1 _ hd
  simp only [Deferred.mk.injEq, Target.collected.injEq] at h1
  obtain ⟨rfl, -⟩ := h1
  exact (Array.getElem?_eq_some_iff.1 h3).1
theorem Marks.own {n₁ n₂ : Nat} {ds : List Deferred} {w0 w w' : World} {row : Option Nat} (h0 : Marks n₁ ds w0) (hs : w0.heap.size ≤ n₂) (h : Marks n₁ ds w) (hg : w.grownBy w' row) (hr : ∀ r, row = some r → n₂ ≤ r) : Marks n₁ ds w' :=
  ⟨fun d hd => by
    obtain ⟨D, h1, h2, h3⟩ := h.1 d hd
    refine ⟨D, h1, h2, (hg.block D (Array.getElem?_eq_some_iff.1 h3).1 (fun e => ?_)).trans h3⟩
    have h4 := hr D e.symm
    subst h1
    have := h0.lt hd
    omega, h.2⟩
theorem Marks.cons {n₁ : Nat} {ds : List Deferred} {w0 w : World} {D : Nat} (h0 : Marks n₁ ds w0) (h : Marks n₁ ds w) (h1 : n₁ ≤ D) (h2 : w0.heap.size ≤ D) (hD : w.heap[D]? = some (.deferred (some []))) : Marks n₁ ({ target := .collected D, args := #[] } :: ds) w :=
  ⟨fun d hd => by
    rcases List.mem_cons.1 hd with rfl | hd
    · exact ⟨D, rfl, h1, hD⟩
    · exact h.1 d hd, List.pairwise_cons.2 ⟨fun e he => by
      rintro rfl
      have := h0.lt he
      omega, h.2⟩⟩

/-- A function leaves through its marks. -/
theorem leaves_marks {F : Fence} {n : Nat} {P : Program} {fn : Func} {tmps : Array Value} {R : Ending → World → Prop} {n₁ : Nat} : ∀ (ds : List Deferred) (w : World), Marks n₁ ds w →
    (∀ w', Below n₁ w w' → (∀ (k : Nat) (o : Obj), w.heap[k]? = some o → o.isCells = true → w'.heap[k]? = some o) → LeavesInM F n P fn tmps R [] .returning w') → LeavesInM F n P fn tmps R ds .returning w
  | [], w, _, h => h w (Below.refl _ _) (fun _ _ hk _ => hk)
  | d :: ds, w, hm, h => by
    obtain ⟨D, rfl, h2, h3⟩ := hm.1 d (by simp)
    refine ⟨by simp, .inl ⟨D, _, rfl, run_takeDeferred h3, ?_⟩⟩
    have hb : Below n₁ w (w.putObj D (.deferred none)) := (Below.refl n₁ w).grown (grownBy_putObj' w D _) (by have := (Array.getElem?_eq_some_iff.1 h3).1; omega) (fun k e => by cases e; omega)
    refine leaves_marks (n₁ := n₁) ds _ ⟨fun d hd => ?_, (List.pairwise_cons.1 hm.2).2⟩ fun w' h4 h5 => h w' (hb.trans h4) fun k o hk ho => h5 k o ?_ ho
    · obtain ⟨D', e1, e2, e3⟩ := hm.1 d (List.mem_cons_of_mem _ hd)
      refine ⟨D', e1, e2, ?_⟩
      have : D ≠ D' := by
        rintro rfl
        exact (List.pairwise_cons.1 hm.2).1 d hd e1.symm
      exact (World.putObj_heap_other (Ne.symm this)).trans e3
    · have : D ≠ k := by
        rintro rfl
        rw [h3] at hk; cases hk; cases ho
      exact (World.putObj_heap_other (Ne.symm this)).trans hk

/-- What is known at the head of Build's loop. -/
structure LR (a : Au) (T : List (List Int)) (most : Nat) (x0 : Pl) (B n₁ zg zp zm zn : Nat) (w9 : World) (n' k : Nat) (pls : List Pl) (ds : List Deferred) (v0 v1 v2 vp : Value) (vals : List Value) (w' : World) : Prop where
  gh : n' = most - k
  ap : AtP (succPl a T) most x0 k pls
  bo : BO w' B zg zp zm zn v0 v1 v2 vp vals (plGm (succPl a T) (topA a) pls k) pls
  bl : Below B w9 w'
  ok : ∀ y ∈ pls, PlOK a T y ∧ PlW y
  mks : Marks n₁ ds w'
  n1 : n₁ ≤ w'.heap.size

theorem numM_one {w : World} {b : Nat} {y : Pl} (hy : WfP y) (h : w.ownsMap Tryd.prog 48 (plainElem Tryd.prog 3) b 1 ((.map [] : DataW Unit).put (klP y) (.lit (.int .i64 0)))) : NumM w b [y] :=
  NumM.put (l := []) isMap_empty hy (by simp) (fun z _ => by simp [Maps.has]) (fun z _ hz => by simp at hz) h

theorem plGm_same {S : Pl → List Pl} {top : Int} {l e : List Pl} {k : Nat} (hk : k ≤ l.length) (hc : ∀ j, j < k → ∀ (h2 : j < l.length), ∀ y ∈ S l[j], y ∈ l) : plGm S top (l ++ e) k = plGm S top l k := by
  unfold plGm
  rw [List.take_append_of_le_length hk]
  congr 1
  refine List.map_congr_left fun x hx => numsP_pre fun y hy => ?_
  obtain ⟨j, hj, rfl⟩ := List.getElem_of_mem hx
  rw [List.length_take] at hj
  rw [List.getElem_take] at hy
  exact hc j (by omega) (by omega) y hy
theorem plGm_step {S : Pl → List Pl} {top : Int} {l : List Pl} {k : Nat} (hk : k < l.length) : plGm S top l (k + 1) = ⟨(plGm S top l k).owner ++ [plOwn l[k]], (plGm S top l k).prio ++ [plPri top l[k]], (plGm S top l k).succ ++ [numsP l (S l[k])]⟩ := by
  unfold plGm
  rw [List.take_succ_eq_append_getElem hk]
  simp only [List.map_append, List.map_cons, List.map_nil]

/-- The places that have come. -/
def gotP (S : List Pl) (pre : List (Fin S.length)) : List Pl := pre.map fun x => S[x]
theorem gotP_snoc (S : List Pl) (pre : List (Fin S.length)) (x : Fin S.length) : gotP S (pre ++ [x]) = gotP S pre ++ [S[x]] := by simp [gotP]
theorem gotP_take (S : List Pl) (k : Nat) : gotP S ((allF S.length).take k) = S.take k := by
  apply List.ext_getElem (by simp [gotP, allF_len])
  intro i h1 h2
  simp [gotP, allF]
theorem gotP_all (S : List Pl) : gotP S (allF S.length) = S := by
  have := gotP_take S S.length
  rwa [List.take_of_length_le (by rw [allF_len]; exact Nat.le_refl _), List.take_length] at this
theorem gotP_len (S : List Pl) (pre : List (Fin S.length)) : (gotP S pre).length = pre.length := by simp [gotP]

/-- What is known within a round's loop. -/
structure INV (most B n₁ z zp zm zn zS Bp Bb : Nat) (v0 v1 v2 : Value) (vals : List Value) (gm : Gm) (pls S : List Pl) (ds : List Deferred) (w9 : World) (pre : List (Fin S.length)) (vp vS : Value) (W : World) : Prop where
  bi : BI W B z zp zm zn zS Bp Bb v0 v1 v2 vp vS vals gm (addA pls (gotP S pre)) (addA pls (gotP S pre)) (numsP (addA pls (gotP S pre)) (gotP S pre))
  le : (addA pls (gotP S pre)).length ≤ most
  bl : Below B w9 W
  mks : Marks n₁ ds W
  n1 : n₁ ≤ W.heap.size
def INVx (most B n₁ z zp zm zn zS Bp Bb : Nat) (v0 v1 v2 : Value) (vals : List Value) (gm : Gm) (pls S : List Pl) (ds : List Deferred) (w9 : World) (pre : List (Fin S.length)) (W : World) : Prop :=
  ∃ vp vS, INV most B n₁ z zp zm zn zS Bp Bb v0 v1 v2 vals gm pls S ds w9 pre vp vS W
/-- What is known where there are too many places. -/
structure IXV (most n₁ h : Nat) (pls S : List Pl) (ds : List Deferred) (w : World) (c : Code) (pre : List (Fin S.length)) (W : World) : Prop where
  ret : c = .ret
  gt : most < (addA pls (gotP S pre)).length
  r1 : W.heap[h + 1 + 1]? = some (.cells #[.slice none 0 0, .slice none 0 0, .slice none 0 0] 28 (0, 0))
  r2 : W.heap[h + 1 + 1 + 1]? = some (.cells #[.slice none 0 0] 34 (0, 0))
  r3 : W.heap[h + 1 + 1 + 1 + 1]? = some (.cells #[.int .i64 2] 35 (0, 0))
  bl : Below w.heap.size w W
  mks : Marks n₁ ds W

theorem below_own {B n₂ : Nat} {w9 W W' : World} {row : Option Nat} (h : Below B w9 W) (hB : B ≤ n₂) (hs : B ≤ w9.heap.size) (hg : W.grownBy W' row) (hr : ∀ r, row = some r → n₂ ≤ r) : Below B w9 W' :=
  h.grown hg (Nat.le_trans hs h.size) (fun k e => Nat.le_trans hB (hr k e))

theorem INV.own {most B n₁ z zp zm zn zS Bp Bb : Nat} {v0 v1 v2 : Value} {vals : List Value} {gm : Gm} {pls S : List Pl} {ds : List Deferred} {w9 w1 : World} (h0 : Marks n₁ ds w1) (hm : zm < w1.heap.size) (hB : B ≤ w1.heap.size) (hs : B ≤ w9.heap.size) :
    OwnFrom w1.heap.size (INVx most B n₁ z zp zm zn zS Bp Bb v0 v1 v2 vals gm pls S ds w9) := fun _ _ _ _ ⟨vp, vS, h⟩ hg hr =>
  ⟨vp, vS, { bi := h.bi.own hg hm hr, le := h.le, bl := below_own h.bl hB hs hg (fun r e => (hr r e).1), mks := Marks.own h0 (Nat.le_refl _) h.mks hg (fun r e => (hr r e).1), n1 := Nat.le_trans h.n1 hg.size }⟩
theorem IXV.own {most n₁ h : Nat} {pls S : List Pl} {ds : List Deferred} {w w1 : World} (h0 : Marks n₁ ds w1) (hB : w.heap.size ≤ w1.heap.size) (c : Code) :
    OwnFrom w1.heap.size (IXV most n₁ h pls S ds w c) := fun _ X Y _ hx hg hr => by
  have hc : ∀ (k : Nat) (o : Obj), X.heap[k]? = some o → o.isCells = true → Y.heap[k]? = some o := fun k o hk ho => (hg.block k (Array.getElem?_eq_some_iff.1 hk).1 (fun e => by
    obtain ⟨-, o', h1, h2⟩ := hr k e.symm
    rw [hk] at h1; cases h1; rw [ho] at h2; cases h2)).trans hk
  exact { ret := hx.ret, gt := hx.gt, r1 := hc _ _ hx.r1 rfl, r2 := hc _ _ hx.r2 rfl, r3 := hc _ _ hx.r3 rfl, bl := below_own hx.bl hB (Nat.le_refl _) hg (fun r e => (hr r e).1), mks := Marks.own h0 (Nat.le_refl _) hx.mks hg (fun r e => (hr r e).1) }
theorem own_block {B : Nat} {b : Nat} {cs : Array Value} {t : TypeId} {W W' : World} {row : Option Nat} (h : W.heap[b]? = some (.cells cs t (0, 0))) (hg : W.grownBy W' row) (hr : ∀ r, row = some r → B ≤ r ∧ ∃ o : Obj, W.heap[r]? = some o ∧ o.isCells = false) : W'.heap[b]? = some (.cells cs t (0, 0)) :=
  (hg.block b (Array.getElem?_eq_some_iff.1 h).1 (fun e => by
    obtain ⟨-, o', h1, h2⟩ := hr b e.symm
    rw [h] at h1; cases h1; cases h2)).trans h
theorem keeps_mono {B B' : Nat} {W W' : World} (h : KeepsFrom B W W') (hB : B ≤ B') : KeepsFrom B' W W' := ⟨h.size, fun k o hk => h.same k o (Nat.le_trans hB hk)⟩

theorem zero_int (w : World) : (zeroValue 3).run Tryd.prog w = .ok (.int .i64 0) w := by kernel_rfl

set_option maxRecDepth 100000 in
theorem NumM.get {w : World} {b : Nat} {l : List Pl} (h : NumM w b l) {y : Pl} (hy : WfP y) :
    (y ∈ l → (Instr.lookup 72 (.map (some b)) (plV y) true).run Tryd.prog w = .ok (.tuple #[.int .i64 (l.idxOf y : Int), .bool true]) w) ∧
    (y ∉ l → ∃ c, (Instr.lookup 72 (.map (some b)) (plV y) true).run Tryd.prog w = .ok (.tuple #[.int .i64 c, .bool false]) w) := by
  obtain ⟨D, h1, h2, h3, h4⟩ := h
  obtain ⟨v, ps, hrun, hv⟩ := h1.look_ok placeKeyed Tryd.underlying72 (zero_int w) (plainElem_int Tryd.underlying3 (q := .i64) (a := 0) rfl) (plKey y hy)
  obtain ⟨c, rfl, hc, hwc⟩ := plainElem_int_inv Tryd.underlying3 hv
  rw [h3 y hy] at hrun
  simp only [Prod.mk.injEq] at hc
  refine ⟨fun hm => ?_, fun hm => ⟨c, by rw [hrun, decide_eq_false hm]⟩⟩
  have h5 := h4 y hy hm
  rw [hc.1] at h5
  simp only [DataW.lit.injEq, Lit.int.injEq, true_and] at h5
  rw [hrun, decide_eq_true hm, h5]
set_option maxRecDepth 100000 in
theorem NumM.upd {w : World} {b : Nat} {l : List Pl} (h : NumM w b l) {y : Pl} (hy : WfP y) (hn : y ∉ l) (hl : l.length ≤ 3000) :
    ∃ w', (Instr.mapUpdate 72 (.map (some b)) (plV y) (.int .i64 (l.length : Int))).run Tryd.prog w = .ok () w' ∧ NumM w' b (l ++ [y]) ∧ w.grownBy w' (some b) := by
  obtain ⟨D, h1, h2, h3, h4⟩ := h
  obtain ⟨w', hrun, r1, r2⟩ := h1.update placeKeyed Tryd.underlying72 (by simp only [maxLen]; omega) (plKey y hy) (plainElem_int Tryd.underlying3 (q := .i64) (a := (l.length : Int)) (lit_wf (by unfold I64; omega)))
  exact ⟨w', hrun, NumM.put h2 hy hn h3 h4 r1, r2⟩

theorem NumM.isMap {w : World} {b : Nat} {l : List Pl} (h : NumM w b l) : ∃ es c, w.heap[b]? = some (.map es c) := by
  obtain ⟨D, ⟨es, clock, h1, -⟩, -⟩ := h
  exact ⟨es, clock, h1⟩
theorem addP_in {l : List Pl} {y : Pl} (h : y ∈ l) : addP l y = l := if_pos h
theorem addP_out {l : List Pl} {y : Pl} (h : y ∉ l) : addP l y = l ++ [y] := if_neg h
theorem three_keep {n₁ : Nat} {ds : List Deferred} {W : World} {h : Nat} (hm : Marks n₁ ds W) (a b c d e : Value) : Marks n₁ ds (((((W.setCell ⟨h + 1 + 1, 0, none⟩ a).setCell ⟨h + 1 + 1, 1, none⟩ b).setCell ⟨h + 1 + 1, 2, none⟩ c).setCell ⟨h + 1 + 1 + 1, 0, none⟩ d).setCell ⟨h + 1 + 1 + 1 + 1, 0, none⟩ e) :=
  hm.keeps (((((KeepsOthers.setCell W ⟨h + 1 + 1, 0, none⟩ a).trans (KeepsOthers.setCell _ ⟨h + 1 + 1, 1, none⟩ b)).trans (KeepsOthers.setCell _ ⟨h + 1 + 1, 2, none⟩ c)).trans (KeepsOthers.setCell _ ⟨h + 1 + 1 + 1, 0, none⟩ d)).trans (KeepsOthers.setCell _ ⟨h + 1 + 1 + 1 + 1, 0, none⟩ e) |>.from _)

theorem addA_all {p : Pl → Prop} {l ys : List Pl} (h1 : ∀ z ∈ l, p z) (h2 : ∀ z ∈ ys, p z) : ∀ z ∈ addA l ys, p z := by
  induction ys generalizing l with
  | nil => exact h1
  | cons y ys ih =>
    rw [addA, List.foldl_cons, ← addA]
    refine ih (fun z hz => ?_) fun z hz => h2 z (List.mem_cons_of_mem _ hz)
    unfold addP at hz
    split at hz
    · exact h1 z hz
    · rcases List.mem_append.1 hz with hz | hz
      · exact h1 z hz
      · rw [List.mem_singleton.1 hz]; exact h2 y List.mem_cons_self
theorem addA_app (l ys zs : List Pl) : addA l (ys ++ zs) = addA (addA l ys) zs := by simp [addA]
theorem addA_take_le (l ys : List Pl) (j : Nat) : (addA l (ys.take j)).length ≤ (addA l ys).length := by
  conv => rhs; rw [← List.take_append_drop j ys, addA_app]
  obtain ⟨e, he⟩ := addA_pre (addA l (ys.take j)) (ys.drop j)
  rw [he, List.length_append]; omega

/-- A row is appended to rows of the call's own. -/
theorem appIn_row {F : Fence} {nF : Nat} {ops : Array Oper} {rest : List Oper} {o : Oper} {a : Act} {Q : Exit → Act → World → Prop} {w : World} (hgd : o.guard = none) (s x : Operand) (u : Value)
    (ho : o.op = .call { callee := .builtin .append, args := #[s, x], argTypes := #[23, 23] })
    (base : Nat) (v : Value) (n : Nat) (l : List Value) (hown : w.ownsRow base 26 1 v n l) (hs : a.eval s = v) (m : Nat) (hm : m = w.heap.size) (hx : a.eval x = .slice (some ⟨m, 0, none⟩) 1 1) (hu : u.oneCell' = true)
    (hn : n < 5864062014000) (hbase : base ≤ w.heap.size)
    (h : ∀ v' w', w'.ownsRow base 26 1 v' (n + 1) (l ++ [u]) → w.grownBy w' v.ownBlock → Moved w v v' → wpListIn F nF Tryd.prog ops Q rest (a.put o.dst v') w') :
    wpListIn F nF Tryd.prog ops Q (o :: rest) a (w.alloc (.cells #[u] 26)) :=
  wpListIn_appN hgd s x _ _ 1 24 _ #[u] ho Tryd.underlying23 info_ints rfl (by decide) base v n _ hs hown m hm hx rfl (by simpa using hu) (by simp only [maxLen]; omega) (by omega) hbase h

/-- A store in a block that is none of it. -/
theorem BO.setFar {w : World} {B z zp zm zn : Nat} {v0 v1 v2 vp : Value} {vals : List Value} {gm : Gm} {pls : List Pl} (h : BO w B z zp zm zn v0 v1 v2 vp vals gm pls) {b j : Nat} {x : Value} (hb : b < B) (hn : b ≠ zn) : BO (w.setCell ⟨b, j, none⟩ x) B z zp zm zn v0 v1 v2 vp vals gm pls :=
  { g := h.g.setFar hb
    p := ownsRow_blk h.p fun k hk => heap_set_ne _ _ _ _ _ (fun e => by have := (World.ownsRow.lt h.p k hk).1; omega)
    bp := (heap_set_ne _ _ _ _ _ (by have := h.lo; omega)).trans h.bp
    m := h.m.blk (heap_set_ne _ _ _ _ _ (by have := h.lo; omega))
    bn := (heap_set_ne _ _ _ _ _ (Ne.symm hn)).trans h.bn
    lo := h.lo }

/-- What is known while the results are stored. -/
structure RB (w : World) (B n₁ z zp zm zn : Nat) (v0 v1 v2 vp : Value) (vals : List Value) (gm : Gm) (pls : List Pl) (ds : List Deferred) (W : World) : Prop where
  bo : BO W B z zp zm zn v0 v1 v2 vp vals gm pls
  mks : Marks n₁ ds W
  bl : Below w.heap.size w W
  c1 : ∃ x y u, W.heap[w.heap.size + 1 + 1]? = some (.cells #[x, y, u] 28 (0, 0))
  c2 : ∃ x, W.heap[w.heap.size + 1 + 1 + 1]? = some (.cells #[x] 34 (0, 0))
  c3 : ∃ x, W.heap[w.heap.size + 1 + 1 + 1 + 1]? = some (.cells #[x] 35 (0, 0))
theorem RB.set1 {w W : World} {B n₁ z zp zm zn : Nat} {v0 v1 v2 vp : Value} {vals : List Value} {gm : Gm} {pls : List Pl} {ds : List Deferred} (h : RB w B n₁ z zp zm zn v0 v1 v2 vp vals gm pls ds W) (hB : w.heap.size + 5 ≤ B) (hn : B ≤ zn) (x y u : Value) :
    RB w B n₁ z zp zm zn v0 v1 v2 vp vals gm pls ds (((W.setCell ⟨w.heap.size + 1 + 1, 0, none⟩ x).setCell ⟨w.heap.size + 1 + 1, 1, none⟩ y).setCell ⟨w.heap.size + 1 + 1, 2, none⟩ u) ∧
    (((W.setCell ⟨w.heap.size + 1 + 1, 0, none⟩ x).setCell ⟨w.heap.size + 1 + 1, 1, none⟩ y).setCell ⟨w.heap.size + 1 + 1, 2, none⟩ u).heap[w.heap.size + 1 + 1]? = some (.cells #[x, y, u] 28 (0, 0)) := by
  obtain ⟨x', y', u', hc⟩ := h.c1
  have h1 : (((W.setCell ⟨w.heap.size + 1 + 1, 0, none⟩ x).setCell ⟨w.heap.size + 1 + 1, 1, none⟩ y).setCell ⟨w.heap.size + 1 + 1, 2, none⟩ u).heap[w.heap.size + 1 + 1]? = some (.cells #[x, y, u] 28 (0, 0)) := three_set hc
  have ho : ∀ k, k ≠ w.heap.size + 1 + 1 → (((W.setCell ⟨w.heap.size + 1 + 1, 0, none⟩ x).setCell ⟨w.heap.size + 1 + 1, 1, none⟩ y).setCell ⟨w.heap.size + 1 + 1, 2, none⟩ u).heap[k]? = W.heap[k]? := fun k hk => by
    rw [heap_set_ne _ _ _ _ _ hk, heap_set_ne _ _ _ _ _ hk, heap_set_ne _ _ _ _ _ hk]
  refine ⟨{ bo := ((h.bo.setFar (by omega) (by omega)).setFar (by omega) (by omega)).setFar (by omega) (by omega), mks := h.mks.keeps ((((KeepsOthers.setCell W _ _).trans (KeepsOthers.setCell _ _ _)).trans (KeepsOthers.setCell _ _ _)).from _), bl := ((h.bl.setCell (p := ⟨w.heap.size + 1 + 1, 0, none⟩) (by show w.heap.size ≤ w.heap.size + 1 + 1; omega) _).setCell (p := ⟨w.heap.size + 1 + 1, 1, none⟩) (by show w.heap.size ≤ w.heap.size + 1 + 1; omega) _).setCell (p := ⟨w.heap.size + 1 + 1, 2, none⟩) (by show w.heap.size ≤ w.heap.size + 1 + 1; omega) _, c1 := ⟨_, _, _, h1⟩, c2 := ?_, c3 := ?_ }, h1⟩
  · obtain ⟨x', hc⟩ := h.c2; exact ⟨x', (ho _ (by omega)).trans hc⟩
  · obtain ⟨x', hc⟩ := h.c3; exact ⟨x', (ho _ (by omega)).trans hc⟩
theorem RB.set2 {w W : World} {B n₁ z zp zm zn : Nat} {v0 v1 v2 vp : Value} {vals : List Value} {gm : Gm} {pls : List Pl} {ds : List Deferred} (h : RB w B n₁ z zp zm zn v0 v1 v2 vp vals gm pls ds W) (hB : w.heap.size + 5 ≤ B) (hn : B ≤ zn) (x : Value) :
    RB w B n₁ z zp zm zn v0 v1 v2 vp vals gm pls ds (W.setCell ⟨w.heap.size + 1 + 1 + 1, 0, none⟩ x) ∧ (W.setCell ⟨w.heap.size + 1 + 1 + 1, 0, none⟩ x).heap[w.heap.size + 1 + 1 + 1]? = some (.cells #[x] 34 (0, 0)) := by
  obtain ⟨x', hc⟩ := h.c2
  have h1 := heap_setCell_same W (w.heap.size + 1 + 1 + 1) 0 #[x'] 34 x hc
  refine ⟨{ bo := h.bo.setFar (by omega) (by omega), mks := h.mks.keeps ((KeepsOthers.setCell W _ _).from _), bl := h.bl.setCell (p := ⟨w.heap.size + 1 + 1 + 1, 0, none⟩) (by show w.heap.size ≤ w.heap.size + 1 + 1 + 1; omega) _, c1 := ?_, c2 := ⟨_, h1⟩, c3 := ?_ }, h1⟩
  · obtain ⟨x', y', u', hc⟩ := h.c1; exact ⟨x', y', u', (heap_set_ne _ _ _ _ _ (by omega)).trans hc⟩
  · obtain ⟨x', hc⟩ := h.c3; exact ⟨x', (heap_set_ne _ _ _ _ _ (by omega)).trans hc⟩
theorem RB.set3 {w W : World} {B n₁ z zp zm zn : Nat} {v0 v1 v2 vp : Value} {vals : List Value} {gm : Gm} {pls : List Pl} {ds : List Deferred} (h : RB w B n₁ z zp zm zn v0 v1 v2 vp vals gm pls ds W) (hB : w.heap.size + 5 ≤ B) (hn : B ≤ zn) (x : Value) :
    RB w B n₁ z zp zm zn v0 v1 v2 vp vals gm pls ds (W.setCell ⟨w.heap.size + 1 + 1 + 1 + 1, 0, none⟩ x) ∧ (W.setCell ⟨w.heap.size + 1 + 1 + 1 + 1, 0, none⟩ x).heap[w.heap.size + 1 + 1 + 1 + 1]? = some (.cells #[x] 35 (0, 0)) := by
  obtain ⟨x', hc⟩ := h.c3
  have h1 := heap_setCell_same W (w.heap.size + 1 + 1 + 1 + 1) 0 #[x'] 35 x hc
  refine ⟨{ bo := h.bo.setFar (by omega) (by omega), mks := h.mks.keeps ((KeepsOthers.setCell W _ _).from _), bl := h.bl.setCell (p := ⟨w.heap.size + 1 + 1 + 1 + 1, 0, none⟩) (by show w.heap.size ≤ w.heap.size + 1 + 1 + 1 + 1; omega) _, c1 := ?_, c2 := ?_, c3 := ⟨_, h1⟩ }, h1⟩
  · obtain ⟨x', y', u', hc⟩ := h.c1; exact ⟨x', y', u', (heap_set_ne _ _ _ _ _ (by omega)).trans hc⟩
  · obtain ⟨x', hc⟩ := h.c2; exact ⟨x', (heap_set_ne _ _ _ _ _ (by omega)).trans hc⟩

/-- What the operations of the last region leave. -/
def R26 (w : World) (v0 v1 v2 vp : Value) (ix : Nat) (u : Value) (W : World) : Prop :=
  match ix with
  | 0 => u = .agg #[v0, v1, v2]
  | 1 => u = vp
  | 2 => W.heap[w.heap.size + 1 + 1]? = some (.cells #[v0, v1, v2] 28 (0, 0))
  | 3 => W.heap[w.heap.size + 1 + 1 + 1]? = some (.cells #[vp] 34 (0, 0))
  | 4 => W.heap[w.heap.size + 1 + 1 + 1 + 1]? = some (.cells #[.int .i64 0] 35 (0, 0))
  | _ => True
theorem R26.set {w W : World} {v0 v1 v2 vp : Value} {ix : Nat} {u : Value} (h : R26 w v0 v1 v2 vp ix u W) (W' : World) (i : Nat) (hi : ix ≠ i) (hs : ∀ k, k ≠ w.heap.size + i → W'.heap[k]? = W.heap[k]?) : R26 w v0 v1 v2 vp ix u W' := by
  unfold R26 at *
  split at h
  · exact h
  · exact h
  · exact (hs _ (by omega)).trans h
  · exact (hs _ (by omega)).trans h
  · exact (hs _ (by omega)).trans h
  · trivial

end Go.Proofs.YtjadeffdcbchnaaDoor
