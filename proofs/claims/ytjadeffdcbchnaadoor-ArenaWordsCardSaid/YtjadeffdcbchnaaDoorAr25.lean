/- The reference's Build with a right input. -/
import Derived.Test.YtjadeffdcbchnaaDoorAr24
namespace Go.Proofs.YtjadeffdcbchnaaDoor
open Go.RowKit

def RG5 (w : World) (vl : Value) (a : Au) (l : List Sig) (ao2 ao3 : Option Addr) (n2 cap2 cap3 : Nat) (most : Int) (ix : Nat) (u : Value) (_ : World) : Prop :=
  match ix with
  | 0 => u = vl
  | 1 => u = .bool true
  | 2 => u = .bool false
  | 3 => u = .bool false
  | 4 => u = .agg #[.int .i64 a.letters, .int .i64 a.start, .slice ao2 n2 cap2, .slice ao3 n2 cap3]
  | 5 => u = .bool true
  | 6 => u = .bool false
  | 7 => u = .bool false
  | 8 => u = .bool false
  | 9 => u = .pointer (some ⟨w.heap.size, 0, none⟩)
  | 10 => u = .int .i64 a.letters
  | 11 => u = vl
  | 12 => u = .int .i64 (lettersI l)
  | 13 => u = .bool false
  | 14 => u = .bool false
  | 15 => u = .bool false
  | 16 => u = .int .i64 most
  | 17 => u = .bool false
  | 18 => u = .bool false
  | 19 => u = .bool false
  | 20 => u = .int .i64 most
  | 21 => u = .bool false
  | 22 => u = .bool false
  | _ => True

/-- One of the other rows grows: what the others own is as it was. -/
theorem GB.other2 {w w' : World} {B z : Nat} {v0 v1 v2 : Value} {vals others : List Value} {gm : Gm} (h : GB w B z v0 v1 v2 vals gm others) {i : Nat} {u u' : Value} (hi : others[i]? = some u) (hg : w.grownBy w' u.ownBlock) (hm : Moved w u u') (hu : ∀ g, u'.ownBlock = some g → g < w'.heap.size) :
    GB w' B z v0 v1 v2 vals gm (others.set i u') ∧ ∀ (m : Nat) (x : Value), m ≠ i → others[m]? = some x → ∀ k, x.ownBlock = some k → w'.heap[k]? = w.heap[k]? :=
  ⟨h.other hi hg hm hu, fun _ x hmi hx k hk => hg.block k (h.lt x (List.mem_of_getElem? hx) k hk) (fun e => h.twoAt hmi hx hi k hk e.symm)⟩

/-- What is known at the head of the reference's loop. -/
structure RL (a : Au) (T : List (List Int)) (most : Nat) (x0 : Pl) (B : Nat) (w7 : World) (k : Nat) (pls : List Pl) (v0 v1 v2 vp : Value) (vals : List Value) (W : World) : Prop where
  ap : AtP (succPl a T) most x0 k pls
  g : GB W B (B + 1) v0 v1 v2 vals (plGm (succPl a T) (topA a) pls k) [vp]
  p : OP W B vp pls
  bl : Below B w7 W
  ok : ∀ y ∈ pls, PlOK a T y ∧ PlW y
  sz : B + 2 ≤ W.heap.size
theorem addA_len_le (l ys : List Pl) : (addA l ys).length ≤ l.length + ys.length := by
  induction ys generalizing l with
  | nil => simp [addA]
  | cons y ys ih =>
    rw [addA, List.foldl_cons, ← addA]
    have h1 := ih (addP l y)
    have h2 : (addP l y).length ≤ l.length + 1 := by unfold addP; split <;> simp
    simp only [List.length_cons]; omega

theorem OP.setFar {w : World} {B n j : Nat} {v u : Value} {l : List Pl} (h : OP w B v l) (hn : n < B) : OP (w.setCell ⟨n, j, none⟩ u) B v l := ownsRow_blk h fun k hk => heap_set_ne _ _ _ _ _ (fun e => by have := (World.ownsRow.lt h k hk).1; omega)

/-- What is known in the inner loop. -/
structure IL (B : Nat) (w7 : World) (x0 x1 v2 : Value) (vals : List Value) (gm : Gm) (pls S : List Pl) (j : Nat) (vp vS v14 : Value) (W : World) : Prop where
  g : GB W B (B + 1) x0 x1 v2 vals gm [vS, vp, v14]
  p : OP W B vp (addA pls (S.take j))
  o : OI W B vS (numsP (addA pls (S.take j)) (S.take j))
  s : OP W B v14 S
  bl : Below B w7 W
  sz : B ≤ W.heap.size
theorem IL.num {B : Nat} {w7 : World} {x0 x1 v2 : Value} {vals : List Value} {gm : Gm} {pls S : List Pl} {j : Nat} {vp vS v14 : Value} {W W' W'' : World} (h : IL B w7 x0 x1 v2 vals gm pls S j vp vS v14 W) (hj : j < S.length) {vp' vS' : Value}
    (ho : OP W' B vp' (addP (addA pls (S.take j)) S[j])) (hg : W.grownBy W' vp.ownBlock) (hm : Moved W vp vp') (hw : OI W' B vS (numsP (addA pls (S.take j)) (S.take j)) → ∃ _ : OI W'' B vS' (numsP (addA pls (S.take j)) (S.take j) ++ [((addP (addA pls (S.take j)) S[j]).idxOf S[j] : Int)]), W'.grownBy W'' vS.ownBlock ∧ Moved W' vS vS') : IL B w7 x0 x1 v2 vals gm pls S (j + 1) vp' vS' v14 W'' := by
  have ht : S.take (j + 1) = S.take j ++ [S[j]] := List.take_succ_eq_append_getElem hj
  obtain ⟨g1, b1⟩ := h.g.other2 (i := 1) (u := vp) (u' := vp') rfl hg hm (fun g hg => (World.ownsRow.lt ho g hg).2)
  have hO : OI W' B vS (numsP (addA pls (S.take j)) (S.take j)) := ownsRow_blk h.o fun k hk => b1 0 vS (by omega) rfl k hk
  obtain ⟨o2, hg2, hm2⟩ := hw hO
  obtain ⟨g2, b2⟩ := GB.other2 g1 (i := 0) (u := vS) (u' := vS') rfl hg2 hm2 (fun g hg => (World.ownsRow.lt o2 g hg).2)
  obtain ⟨e, he⟩ := addP_pre (addA pls (S.take j)) S[j]
  have hl1 : Below B W W' := (Below.refl _ _).grown hg h.sz (fun k hk => (World.ownsRow.lt h.p k hk).1)
  have hl2 : Below B W' W'' := (Below.refl _ _).grown hg2 (Nat.le_trans h.sz hg.size) (fun k hk => (World.ownsRow.lt hO k hk).1)
  refine { g := g2, p := ?_, o := ?_, s := ?_, bl := h.bl.trans (hl1.trans hl2), sz := Nat.le_trans h.sz (Nat.le_trans hg.size hg2.size) }
  · rw [ht, addA_snoc]
    exact ownsRow_blk ho fun k hk => b2 1 vp' (by omega) rfl k hk
  · rw [ht, addA_snoc, numsP_snoc]
    have e1 : numsP (addP (addA pls (S.take j)) S[j]) (S.take j) = numsP (addA pls (S.take j)) (S.take j) := by rw [he]; exact numsP_pre (addA_mem _ _)
    rw [e1]; exact o2
  · exact ownsRow_blk (ownsRow_blk h.s fun k hk => b1 2 v14 (by omega) rfl k hk) fun k hk => b2 2 v14 (by omega) rfl k hk

theorem stepR2 {w w' : World} {B z : Nat} {v0 v1 v2 v2' vp vS v14 : Value} {vals : List Value} {gm : Gm} {pls : List Pl} {row : List Int} (h : GB w B z v0 v1 v2 vals gm [vS, vp, v14]) (hS : OI w B vS row) (hp : OP w B vp pls) (ho : w'.ownsRow B 26 1 v2' (gm.succ.length + 1) (vals ++ [vS])) (hg : w.grownBy w' v2.ownBlock) (hm : Moved w v2 v2') (hB : B ≤ w.heap.size) :
    w'.heap[z]? = some (.cells #[v0, v1, v2] 28 (0, 0)) ∧ GB (w'.setCell ⟨z, 2, none⟩ v2') B z v0 v1 v2' (vals ++ [vS]) ⟨gm.owner, gm.prio, gm.succ ++ [row]⟩ [vp] ∧ OP (w'.setCell ⟨z, 2, none⟩ v2') B vp pls ∧ Below B w (w'.setCell ⟨z, 2, none⟩ v2') := by
  obtain ⟨h1, h2, h3⟩ := h.stepR hS ho hg hm hB
  exact ⟨h1, h2.sub (.cons_cons _ (.cons _ (.refl _))), ownsRow_blk hp fun k hk => h.othBlk (v := v2) (.inr (.inr rfl)) hg 2 v2' (i := 1) (u := vp) rfl hk, h3.bl⟩
theorem IL.all {B : Nat} {w7 : World} {x0 x1 v2 : Value} {vals : List Value} {gm : Gm} {pls S : List Pl} {aq ao aS : Option Addr} {kq kv kS : Nat} {W : World}
    (h : IL B w7 x0 x1 v2 vals gm pls S S.length (.slice aq (addA pls (S.take S.length)).length kq) (.slice ao (numsP (addA pls (S.take S.length)) (S.take S.length)).length kv) (.slice aS S.length kS) W) :
    GB W B (B + 1) x0 x1 v2 vals gm [.slice ao (numsP (addA pls (S.take S.length)) (S.take S.length)).length kv, .slice aq (addA pls (S.take S.length)).length kq, .slice aS S.length kS] ∧
    OP W B (.slice aq (addA pls (S.take S.length)).length kq) (addA pls S) ∧ OI W B (.slice ao (numsP (addA pls (S.take S.length)) (S.take S.length)).length kv) (numsP (addA pls S) S) ∧ Below B w7 W ∧ B ≤ W.heap.size ∧ (addA pls (S.take S.length)).length = (addA pls S).length := by
  have h1 := h.p
  have h2 := h.o
  rw [show addA pls (S.take S.length) = addA pls S by rw [List.take_length]] at *
  rw [show S.take S.length = S from List.take_length] at *
  exact ⟨h.g, h1, h2, h.bl, h.sz, rfl⟩

theorem stepO2 {w w' : World} {B z xb : Nat} {v0 v1 v2 v0' vp : Value} {vals : List Value} {gm : Gm} {pls : List Pl} {o : Obj} {x : Int} (h : GB w B z v0 v1 v2 vals gm [boxV xb, vp]) (hp : OP w B vp pls) (hx : w.heap[xb]? = some o) (ho : OI w' B v0' (gm.owner ++ [x])) (hg : w.grownBy w' v0.ownBlock) (hm : Moved w v0 v0') (hB : B ≤ w.heap.size) :
    w'.heap[z]? = some (.cells #[v0, v1, v2] 28 (0, 0)) ∧ GB (w'.setCell ⟨z, 0, none⟩ v0') B z v0' v1 v2 vals ⟨gm.owner ++ [x], gm.prio, gm.succ⟩ [boxV xb, vp] ∧ OP (w'.setCell ⟨z, 0, none⟩ v0') B vp pls ∧ (w'.setCell ⟨z, 0, none⟩ v0').heap[xb]? = some o ∧ Below B w (w'.setCell ⟨z, 0, none⟩ v0') := by
  obtain ⟨h1, h2, h3⟩ := h.stepO ho hg hm hB
  exact ⟨h1, h2, ownsRow_blk hp fun k hk => h.othBlk (v := v0) (.inl rfl) hg 0 v0' (i := 1) (u := vp) rfl hk, (h.othBlk (v := v0) (.inl rfl) hg 0 v0' (i := 0) (u := boxV xb) rfl rfl).trans hx, h3.bl⟩
theorem stepP2 {w w' : World} {B z xb : Nat} {v0 v1 v2 v1' vp : Value} {vals : List Value} {gm : Gm} {pls : List Pl} {o : Obj} {x : Int} (h : GB w B z v0 v1 v2 vals gm [boxV xb, vp]) (hp : OP w B vp pls) (hx : w.heap[xb]? = some o) (ho : OI w' B v1' (gm.prio ++ [x])) (hg : w.grownBy w' v1.ownBlock) (hm : Moved w v1 v1') (hB : B ≤ w.heap.size) :
    w'.heap[z]? = some (.cells #[v0, v1, v2] 28 (0, 0)) ∧ GB (w'.setCell ⟨z, 1, none⟩ v1') B z v0 v1' v2 vals ⟨gm.owner, gm.prio ++ [x], gm.succ⟩ [boxV xb, vp] ∧ OP (w'.setCell ⟨z, 1, none⟩ v1') B vp pls ∧ (w'.setCell ⟨z, 1, none⟩ v1').heap[xb]? = some o ∧ Below B w (w'.setCell ⟨z, 1, none⟩ v1') := by
  obtain ⟨h1, h2, h3⟩ := h.stepP ho hg hm hB
  exact ⟨h1, h2, ownsRow_blk hp fun k hk => h.othBlk (v := v1) (.inr (.inl rfl)) hg 1 v1' (i := 1) (u := vp) rfl hk, (h.othBlk (v := v1) (.inr (.inl rfl)) hg 1 v1' (i := 0) (u := boxV xb) rfl rfl).trans hx, h3.bl⟩

theorem validA_lens {a : Au} (hv : validA a = true) : a.prio.length ≤ 3000 ∧ ∀ i, (a.prio.getD i []).length ≤ 3000 := by
  have hv' := hv
  simp only [validA, Bool.and_eq_true, decide_eq_true_eq] at hv'
  have hn : a.prio.length ≤ 3000 := by have := hv'.1; omega
  refine ⟨hn, fun i => ?_⟩
  rcases Nat.lt_or_ge i a.next.length with h | h
  · have h2 := (validA_row hv h).2.1
    have := hv'.1
    omega
  · have : (a.prio.getD i []) = [] := by simp [List.getD, show a.prio.length ≤ i by have := hv'.1; omega]
    rw [this]; simp

set_option maxRecDepth 100000 in
set_option maxHeartbeats 8000000 in
theorem RBuild_ok (w : World) (vl va : Value) (l : List Sig) (a : Au) (most : Nat) (hl : IsSigs w vl l) (ha : IsAuto w va a) (hv : validS l = true) (h1 : validA a = true) (h2 : (a.letters != lettersI l) = false) (h3 : decide ((most : Int) < 1) = false) (h4 : decide (3000 < (most : Int)) = false) :
    Calls Tryd.prog 14 #[vl, va, .int .i64 (most : Int)] w (BuildOut a l (buildP a l most) w) := by
  have HS : Hid (∀ W, Below w.heap.size w W → Calls Tryd.prog 43 #[vl] W (Calm (.bool (validS l)) W)) := fun W h => RSValid_calm W _ l (hl.below h)
  have HA : Hid (∀ W, Below w.heap.size w W → Calls Tryd.prog 44 #[va] W (Calm (.bool (validA a)) W)) := fun W h => RPValid_c W _ a (ha.below h)
  have HLt : Hid (∀ W, Below w.heap.size w W → Calls Tryd.prog 45 #[vl] W (Calm (.int .i64 (lettersI l)) W)) := fun W h => RLetters_c W _ l (hl.below h)
  have HGR : Hid (∀ W, Below w.heap.size w W → Calls Tryd.prog 25 #[va] W (Calm (.int .i64 (topA a)) W)) := fun W h => PGreatest_c W _ a (ha.below h) (validA_lens h1).1 (validA_lens h1).2
  have he : a.letters = lettersI l := by simpa using h2
  have HOK := Lib.hid (auOK hv h1 he)
  have HSU : Hid (∀ W x, Below w.heap.size w W → PlOK a (joinT l) x → Calls Tryd.prog 27 #[vl, va, plV x] W (SuccOut (succPl a (joinT l) x) W)) := fun W x h hx => Succ_c W _ _ l a x (hl.below h) (ha.below h) hv HOK.out hx
  have HVA := Lib.hid h1
  have hm1 : 1 ≤ most := by have := of_decide_eq_false h3; omega
  have hm3 : most ≤ 3000 := by have := of_decide_eq_false h4; omega
  have HST := Lib.hid (start_ok h1 HOK.out)
  rw [hv] at HS
  rw [h1] at HA
  clear he hv h1
  have hPL := HOK.out.pl
  obtain ⟨ao, cap, b, off, rfl, -⟩ := hl
  obtain ⟨vv2, vv3, rfl, -, ⟨V2, ⟨ao2, cap2, b2, off2, rfl, -⟩, -⟩, ⟨V3, ⟨ao3, cap3, b3, off3, rfl, -⟩, -⟩⟩ := ha
  rw [hPL] at HA HGR HSU ⊢
  clear hPL
  obtain ⟨vl, hvl⟩ : ∃ vl, vl = Value.slice ao l.length cap := ⟨_, rfl⟩
  rw [← hvl] at HS HLt HSU ⊢
  clear hvl
  obtain ⟨n2, hn2⟩ : ∃ n2, n2 = a.next.length := ⟨_, rfl⟩
  rw [← hn2] at HA HGR HSU ⊢
  clear hn2
  have hmx : Tryd.prog.follows .mixedOrders = true := by kernel_rfl
  go_enter Tryd.func14, Tryd.ntmps14
  go_wp2
  have hbx : Below w.heap.size w ((w.alloc (.cells #[.int .i64 a.letters, .int .i64 a.start, .slice ao2 n2 cap2, .slice ao3 n2 cap3] 25)).alloc (.cells #[.slice none 0 0, .slice none 0 0, .slice none 0 0] 28)) := (by repeat (first | exact Below.refl _ _ | assumption | (refine belA ?_ _) | (refine belD ?_ _)))
  have hpa : ((w.alloc (.cells #[.int .i64 a.letters, .int .i64 a.start, .slice ao2 n2 cap2, .slice ao3 n2 cap3] 25)).alloc (.cells #[.slice none 0 0, .slice none 0 0, .slice none 0 0] 28)).heap[w.heap.size]? = some (.cells #[.int .i64 a.letters, .int .i64 a.start, .slice ao2 n2 cap2, .slice ao3 n2 cap3] 25 (0, 0)) := (by (repeat (rw [alloc_get]; first | rw [if_pos (by first | (simp; done) | (simp; omega))] | rw [if_neg (by first | (simp; done) | (simp; omega))])); (try rfl))
  have hpg : ((w.alloc (.cells #[.int .i64 a.letters, .int .i64 a.start, .slice ao2 n2 cap2, .slice ao3 n2 cap3] 25)).alloc (.cells #[.slice none 0 0, .slice none 0 0, .slice none 0 0] 28)).heap[w.heap.size + 1]? = some (.cells #[.slice none 0 0, .slice none 0 0, .slice none 0 0] 28 (0, 0)) := (by (repeat (rw [alloc_get]; first | rw [if_pos (by first | (simp; done) | (simp; omega))] | rw [if_neg (by first | (simp; done) | (simp; omega))])); (try rfl))
  generalize ((w.alloc (.cells #[.int .i64 a.letters, .int .i64 a.start, .slice ao2 n2 cap2, .slice ao3 n2 cap3] 25)).alloc (.cells #[.slice none 0 0, .slice none 0 0, .slice none 0 0] 28)) = w5 at *
  have hsz := (Array.getElem?_eq_some_iff.1 hpg).1
  have HB1 : Hid (∀ W, Below w5.drew.heap.size w5.drew W → Below w.heap.size w W) := fun W h => hbx.trans (((Below.drew (Below.refl _ _)).trans h).mono hbx.size)
  have HPX : Hid (∀ W, Below w5.drew.heap.size w5.drew W → Below w5.heap.size w5 W) := fun W h => (Below.drew (B := w5.heap.size) (Below.refl _ _)).trans h
  have HPA : Hid (∀ W, Below w5.drew.heap.size w5.drew W → W.cell? ⟨w.heap.size, 0, none⟩ = some (.int .i64 a.letters) ∧ W.cell? ⟨w.heap.size, 1, none⟩ = some (.int .i64 a.start) ∧ W.cell? ⟨w.heap.size, 2, none⟩ = some (.slice ao2 n2 cap2) ∧ W.cell? ⟨w.heap.size, 3, none⟩ = some (.slice ao3 n2 cap3)) := fun W h => by
    have k := ((HPX.out W h).block _ (by omega)).trans hpa
    exact ⟨cell_of_row _ _ 0 _ _ _ k, cell_of_row _ _ 1 _ _ _ k, cell_of_row _ _ 2 _ _ _ k, cell_of_row _ _ 3 _ _ _ k⟩
  have HPG : Hid (∀ W, Below w5.heap.size w5 W → W.heap[w.heap.size]? = some (.cells #[.int .i64 a.letters, .int .i64 a.start, .slice ao2 n2 cap2, .slice ao3 n2 cap3] 25 (0, 0)) ∧ W.heap[w.heap.size + 1]? = some (.cells #[.slice none 0 0, .slice none 0 0, .slice none 0 0] 28 (0, 0))) := fun W h => ⟨(h.block _ (by omega)).trans hpa, (h.block _ (by omega)).trans hpg⟩
  clear hpa hpg
  refine region_stable hmx (RG5 w vl a l ao2 ao3 n2 cap2 cap3 (most : Int)) (fun vs => { tmps := (_ :: _ :: _ :: _ :: _ :: _ :: _ :: _ :: _ :: _ :: _ :: _ :: _ :: _ :: _ :: _ :: _ :: _ :: _ :: vs 0 :: vs 1 :: vs 2 :: vs 3 :: vs 4 :: vs 5 :: vs 6 :: vs 7 :: vs 8 :: vs 9 :: vs 10 :: vs 11 :: vs 12 :: vs 13 :: vs 14 :: vs 15 :: vs 16 :: vs 17 :: vs 18 :: vs 19 :: vs 20 :: vs 21 :: vs 22 :: _ :: _ :: _ :: _ :: _ :: _ :: _ :: _ :: _ :: _ :: _ :: _ :: _ :: _ :: _ :: _ :: _ :: _ :: _ :: _ :: _ :: _ :: _ :: _ :: _ :: _ :: _ :: _ :: _ :: _ :: _ :: _ :: _ :: _ :: _ :: _ :: _ :: _ :: _ :: _ :: _ :: _ :: _ :: _ :: _ :: _ :: _ :: _ :: _ :: _ :: _ :: _ :: _ :: _ :: _ :: _ :: _ :: _ :: _ :: _ :: _ :: _ :: _ :: _ :: _ :: _ :: _ :: _ :: _ :: _ :: _ :: _ :: _ :: _ :: _ :: _ :: _ :: _ :: _ :: _ :: _ :: []).toArray, defers := [] }) (fun _ => undef) rfl (by kernel_rfl) (fun _ _ _ _ h _ => h) ?step ?fin
  case step =>
    clear hbx
    intro ix o ho
    match ix, ho with
    | 0, ho =>
        obtain rfl := Option.some.inj ho
        intro vs W K hB hD hK
        have HK := Lib.hid hK
        clear hK hD ho
        dsimp only
        go_simp
        have h := HK.out _ _ (Below.refl _ _) rfl
        simp only [upd, Nat.reduceEqDiff, reduceIte] at h
        exact h
    | 1, ho =>
        obtain rfl := Option.some.inj ho
        intro vs W K hB hD hK
        have HK := Lib.hid hK
        have e0 : vs 0 = vl := dep_of hD 0 (by rfl)
        clear hK hD ho
        dsimp only
        go_simp
        refine (HS.out W (HB1.out W hB)).mono ?_
        rintro e W' ⟨rfl, hb⟩
        have h := HK.out _ _ hb rfl
        simp only [upd, Nat.reduceEqDiff, reduceIte, e0] at h
        exact h
    | 2, ho =>
        obtain rfl := Option.some.inj ho
        intro vs W K hB hD hK
        have HK := Lib.hid hK
        have e1 : vs 1 = .bool true := dep_of hD 1 (by rfl)
        clear hK hD ho
        dsimp only
        go_simp
        have h := HK.out _ _ (Below.refl _ _) rfl
        simp only [upd, Nat.reduceEqDiff, reduceIte, e1] at h
        exact h
    | 3, ho =>
        obtain rfl := Option.some.inj ho
        intro vs W K hB hD hK
        have HK := Lib.hid hK
        have e2 : vs 2 = .bool false := dep_of hD 2 (by rfl)
        clear hK hD ho
        dsimp only
        go_simp
        have h := HK.out _ _ (Below.refl _ _) rfl
        simp only [upd, Nat.reduceEqDiff, reduceIte, e2] at h
        exact h
    | 4, ho =>
        obtain rfl := Option.some.inj ho
        intro vs W K hB hD hK
        have HK := Lib.hid hK
        have e3 : vs 3 = .bool false := dep_of hD 3 (by rfl)
        obtain ⟨d0, d1, d2, d3⟩ := HPA.out W hB
        clear hK hD ho
        dsimp only
        go_simp
        have h := HK.out _ _ (Below.refl _ _) rfl
        simp only [upd, Nat.reduceEqDiff, reduceIte, e3] at h
        exact h
    | 5, ho =>
        obtain rfl := Option.some.inj ho
        intro vs W K hB hD hK
        have HK := Lib.hid hK
        have e3 : vs 3 = .bool false := dep_of hD 3 (by rfl)
        have e4 : vs 4 = .agg #[.int .i64 a.letters, .int .i64 a.start, .slice ao2 n2 cap2, .slice ao3 n2 cap3] := dep_of hD 4 (by rfl)
        clear hK hD ho
        dsimp only
        go_simp
        refine (HA.out W (HB1.out W hB)).mono ?_
        rintro e W' ⟨rfl, hb⟩
        have h := HK.out _ _ hb rfl
        simp only [upd, Nat.reduceEqDiff, reduceIte, e3, e4] at h
        exact h
    | 6, ho =>
        obtain rfl := Option.some.inj ho
        intro vs W K hB hD hK
        have HK := Lib.hid hK
        have e3 : vs 3 = .bool false := dep_of hD 3 (by rfl)
        have e5 : vs 5 = .bool true := dep_of hD 5 (by rfl)
        clear hK hD ho
        dsimp only
        go_simp
        have h := HK.out _ _ (Below.refl _ _) rfl
        simp only [upd, Nat.reduceEqDiff, reduceIte, e3, e5] at h
        exact h
    | 7, ho =>
        obtain rfl := Option.some.inj ho
        intro vs W K hB hD hK
        have HK := Lib.hid hK
        have e3 : vs 3 = .bool false := dep_of hD 3 (by rfl)
        have e6 : vs 6 = .bool false := dep_of hD 6 (by rfl)
        clear hK hD ho
        dsimp only
        go_simp
        have h := HK.out _ _ (Below.refl _ _) rfl
        simp only [upd, Nat.reduceEqDiff, reduceIte, e3, e6] at h
        exact h
    | 8, ho =>
        obtain rfl := Option.some.inj ho
        intro vs W K hB hD hK
        have HK := Lib.hid hK
        have e7 : vs 7 = .bool false := dep_of hD 7 (by rfl)
        clear hK hD ho
        dsimp only
        go_simp
        have h := HK.out _ _ (Below.refl _ _) rfl
        simp only [upd, Nat.reduceEqDiff, reduceIte, e7] at h
        exact h
    | 9, ho =>
        obtain rfl := Option.some.inj ho
        intro vs W K hB hD hK
        have HK := Lib.hid hK
        have e8 : vs 8 = .bool false := dep_of hD 8 (by rfl)
        clear hK hD ho
        dsimp only
        go_simp
        have h := HK.out _ _ (Below.refl _ _) rfl
        simp only [upd, Nat.reduceEqDiff, reduceIte, e8] at h
        exact h
    | 10, ho =>
        obtain rfl := Option.some.inj ho
        intro vs W K hB hD hK
        have HK := Lib.hid hK
        have e8 : vs 8 = .bool false := dep_of hD 8 (by rfl)
        have e9 : vs 9 = .pointer (some ⟨w.heap.size, 0, none⟩) := dep_of hD 9 (by rfl)
        obtain ⟨d0, d1, d2, d3⟩ := HPA.out W hB
        clear hK hD ho
        dsimp only
        go_simp
        have h := HK.out _ _ (Below.refl _ _) rfl
        simp only [upd, Nat.reduceEqDiff, reduceIte, e8, e9] at h
        exact h
    | 11, ho =>
        obtain rfl := Option.some.inj ho
        intro vs W K hB hD hK
        have HK := Lib.hid hK
        have e8 : vs 8 = .bool false := dep_of hD 8 (by rfl)
        clear hK hD ho
        dsimp only
        go_simp
        have h := HK.out _ _ (Below.refl _ _) rfl
        simp only [upd, Nat.reduceEqDiff, reduceIte, e8] at h
        exact h
    | 12, ho =>
        obtain rfl := Option.some.inj ho
        intro vs W K hB hD hK
        have HK := Lib.hid hK
        have e8 : vs 8 = .bool false := dep_of hD 8 (by rfl)
        have e11 : vs 11 = vl := dep_of hD 11 (by rfl)
        clear hK hD ho
        dsimp only
        go_simp
        refine (HLt.out W (HB1.out W hB)).mono ?_
        rintro e W' ⟨rfl, hb⟩
        have h := HK.out _ _ hb rfl
        simp only [upd, Nat.reduceEqDiff, reduceIte, e8, e11] at h
        exact h
    | 13, ho =>
        obtain rfl := Option.some.inj ho
        intro vs W K hB hD hK
        have HK := Lib.hid hK
        have e8 : vs 8 = .bool false := dep_of hD 8 (by rfl)
        have e10 : vs 10 = .int .i64 a.letters := dep_of hD 10 (by rfl)
        have e12 : vs 12 = .int .i64 (lettersI l) := dep_of hD 12 (by rfl)
        clear hK hD ho
        dsimp only
        go_simp
        have h := HK.out _ _ (Below.refl _ _) rfl
        simp only [upd, Nat.reduceEqDiff, reduceIte, e8, e10, e12] at h
        exact h
    | 14, ho =>
        obtain rfl := Option.some.inj ho
        intro vs W K hB hD hK
        have HK := Lib.hid hK
        have e8 : vs 8 = .bool false := dep_of hD 8 (by rfl)
        have e13 : vs 13 = .bool false := dep_of hD 13 (by rfl)
        clear hK hD ho
        dsimp only
        go_simp
        have h := HK.out _ _ (Below.refl _ _) rfl
        simp only [upd, Nat.reduceEqDiff, reduceIte, e8, e13] at h
        exact h
    | 15, ho =>
        obtain rfl := Option.some.inj ho
        intro vs W K hB hD hK
        have HK := Lib.hid hK
        have e14 : vs 14 = .bool false := dep_of hD 14 (by rfl)
        clear hK hD ho
        dsimp only
        go_simp
        have h := HK.out _ _ (Below.refl _ _) rfl
        simp only [upd, Nat.reduceEqDiff, reduceIte, e14] at h
        exact h
    | 16, ho =>
        obtain rfl := Option.some.inj ho
        intro vs W K hB hD hK
        have HK := Lib.hid hK
        have e15 : vs 15 = .bool false := dep_of hD 15 (by rfl)
        clear hK hD ho
        dsimp only
        go_simp
        have h := HK.out _ _ (Below.refl _ _) rfl
        simp only [upd, Nat.reduceEqDiff, reduceIte, e15] at h
        exact h
    | 17, ho =>
        obtain rfl := Option.some.inj ho
        intro vs W K hB hD hK
        have HK := Lib.hid hK
        have e15 : vs 15 = .bool false := dep_of hD 15 (by rfl)
        have e16 : vs 16 = .int .i64 most := dep_of hD 16 (by rfl)
        clear hK hD ho
        dsimp only
        go_simp
        have h := HK.out _ _ (Below.refl _ _) rfl
        simp only [upd, Nat.reduceEqDiff, reduceIte, e15, e16] at h
        exact h
    | 18, ho =>
        obtain rfl := Option.some.inj ho
        intro vs W K hB hD hK
        have HK := Lib.hid hK
        have e15 : vs 15 = .bool false := dep_of hD 15 (by rfl)
        have e17 : vs 17 = .bool false := dep_of hD 17 (by rfl)
        clear hK hD ho
        dsimp only
        go_simp
        have h := HK.out _ _ (Below.refl _ _) rfl
        simp only [upd, Nat.reduceEqDiff, reduceIte, e15, e17] at h
        exact h
    | 19, ho =>
        obtain rfl := Option.some.inj ho
        intro vs W K hB hD hK
        have HK := Lib.hid hK
        have e18 : vs 18 = .bool false := dep_of hD 18 (by rfl)
        clear hK hD ho
        dsimp only
        go_simp
        have h := HK.out _ _ (Below.refl _ _) rfl
        simp only [upd, Nat.reduceEqDiff, reduceIte, e18] at h
        exact h
    | 20, ho =>
        obtain rfl := Option.some.inj ho
        intro vs W K hB hD hK
        have HK := Lib.hid hK
        have e19 : vs 19 = .bool false := dep_of hD 19 (by rfl)
        clear hK hD ho
        dsimp only
        go_simp
        have h := HK.out _ _ (Below.refl _ _) rfl
        simp only [upd, Nat.reduceEqDiff, reduceIte, e19] at h
        exact h
    | 21, ho =>
        obtain rfl := Option.some.inj ho
        intro vs W K hB hD hK
        have HK := Lib.hid hK
        have e19 : vs 19 = .bool false := dep_of hD 19 (by rfl)
        have e20 : vs 20 = .int .i64 most := dep_of hD 20 (by rfl)
        clear hK hD ho
        dsimp only
        go_simp
        have h := HK.out _ _ (Below.refl _ _) rfl
        simp only [upd, Nat.reduceEqDiff, reduceIte, e19, e20] at h
        exact h
    | 22, ho =>
        obtain rfl := Option.some.inj ho
        intro vs W K hB hD hK
        have HK := Lib.hid hK
        have e19 : vs 19 = .bool false := dep_of hD 19 (by rfl)
        have e21 : vs 21 = .bool false := dep_of hD 21 (by rfl)
        clear hK hD ho
        dsimp only
        go_simp
        have h := HK.out _ _ (Below.refl _ _) rfl
        simp only [upd, Nat.reduceEqDiff, reduceIte, e19, e21] at h
        exact h
    | q + 23, ho => exact absurd ho (by simp)
  case fin =>
    intro vs w6 hB hall
    have e22 : vs 22 = .bool false := hall 22 (by decide)
    have hX6 := HPX.out w6 hB
    have hB6 := HB1.out w6 hB
    clear hall hB HPX HPA HB1 HS HA HLt
    rw [e22]
    clear e22
    have gp := (HPG.out w6 hX6).1
    have c0 := cell_of_row _ _ 0 _ _ _ gp
    have c1 := cell_of_row _ _ 1 _ _ _ gp
    have c2 := cell_of_row _ _ 2 _ _ _ gp
    have c3 := cell_of_row _ _ 3 _ _ _ gp
    generalize vs 0 = q0
    generalize vs 1 = q1
    generalize vs 2 = q2
    generalize vs 3 = q3
    generalize vs 4 = q4
    generalize vs 5 = q5
    generalize vs 6 = q6
    generalize vs 7 = q7
    generalize vs 8 = q8
    generalize vs 9 = q9
    generalize vs 10 = q10
    generalize vs 11 = q11
    generalize vs 12 = q12
    generalize vs 13 = q13
    generalize vs 14 = q14
    generalize vs 15 = q15
    generalize vs 16 = q16
    generalize vs 17 = q17
    generalize vs 18 = q18
    generalize vs 19 = q19
    generalize vs 20 = q20
    generalize vs 21 = q21
    clear vs
    go_wp2_with fail
    refine (HGR.out w6 hB6).mono ?_
    rintro e w7 ⟨rfl, hb7⟩
    have hX7 := hX6.trans (hb7.mono hX6.size)
    have hB7 := hB6.trans (hb7.mono hB6.size)
    clear c0 c1 c2 c3 gp hb7 hX6 hB6 HGR
    have cs := cell_of_row _ _ 1 _ _ _ (HPG.out w7 hX7).1
    have hz7 : w.heap.size + 2 ≤ w7.heap.size := by have := hX7.size; omega
    go_upto_region 5 with (fail)
    have hb8 : Below w7.heap.size w7 (w7.alloc (Obj.cells #[Value.int IntKind.i64 a.start, Value.int IntKind.i64 (-1), Value.int IntKind.i64 (topA a)] 48)) := bel_box _
    have hop : OP (w7.alloc (Obj.cells #[Value.int IntKind.i64 a.start, Value.int IntKind.i64 (-1), Value.int IntKind.i64 (topA a)] 48)) w7.heap.size (.slice (some ⟨w7.heap.size, 0, none⟩) 1 1) [⟨a.start, -1, topA a⟩] :=
      ⟨rfl, .inr ⟨w7.heap.size, 1, #[Value.int IntKind.i64 a.start, Value.int IntKind.i64 (-1), Value.int IntKind.i64 (topA a)], rfl, Nat.le_refl _, heap_alloc_new _ _, Nat.le_refl _, by decide, rfl, rfl⟩⟩
    have hz8 : (w7.alloc (Obj.cells #[Value.int IntKind.i64 a.start, Value.int IntKind.i64 (-1), Value.int IntKind.i64 (topA a)] 48)).heap.size = w7.heap.size + 1 := by simp
    obtain ⟨B, hBe⟩ : ∃ B, B = w7.heap.size := ⟨_, rfl⟩
    rw [← hBe] at hb8 hop hz8 hz7 ⊢
    generalize w7.alloc (Obj.cells #[Value.int IntKind.i64 a.start, Value.int IntKind.i64 (-1), Value.int IntKind.i64 (topA a)] 48) = w8 at *
    have HBe := Lib.hid hBe
    clear cs hBe
    have hGB0 := GB.start (B := B) (others := [(.slice (some ⟨B, 0, none⟩) 1 1 : Value)]) (w := w8) (by omega) (List.pairwise_cons.2 ⟨(fun x hx => absurd hx (by simp)), List.Pairwise.nil⟩) (fun u hu g hg => by
      rw [List.mem_singleton.1 hu] at hg
      obtain rfl : B = g := by simpa [Value.ownBlock] using hg
      omega)
    go_wp2_with fail
    have hb9 := hb8.trans ((bel_box (w := w8) (.cells #[.slice none 0 0, .slice none 0 0, .slice none 0 0] 28)).mono (by omega))
    have hop9 := hop.below (bel_box (w := w8) (.cells #[.slice none 0 0, .slice none 0 0, .slice none 0 0] 28))
    have hs9 : B + 2 ≤ (w8.alloc (.cells #[.slice none 0 0, .slice none 0 0, .slice none 0 0] 28)).heap.size := by simp; omega
    have hzz : B + 1 = w8.heap.size := by omega
    rw [← hzz] at hGB0
    generalize w8.alloc (.cells #[.slice none 0 0, .slice none 0 0, .slice none 0 0] 28) = w9 at *
    clear hop hb8
    have HXW := Lib.hid (fun (W : World) (h : Below B w7 W) => hX7.trans (h.mono (by rw [HBe.out]; exact hX7.size)))
    have HBW := Lib.hid (fun (W : World) (h : Below B w7 W) => hbx.trans ((HXW.out W h).mono hbx.size))
    go_loopg [10, 12] most (fun gh r10 r12 wr => ∃ (k : Nat) (pls : List Pl) (v0 v1 v2 : Value) (vals : List Value), gh = most - k ∧ r12 = .int .i64 k ∧ RL a (joinT l) most ⟨a.start, -1, topA a⟩ B w7 k pls v0 v1 v2 r10 vals wr)
    case atStart => exact ⟨0, [⟨a.start, -1, topA a⟩], _, _, _, _, by omega, rfl, { ap := AtP.start hm1 _, g := hGB0, p := hop9, bl := hb9, ok := (fun y hy => by rw [List.mem_singleton.1 hy]; exact HST.out.1), sz := hs9 }⟩
    case round =>
      obtain ⟨k, pls, v0, v1, v2, vals, rfl, rfl, hr⟩ := hrel
      clear hGB0 hop9 hb9 hs9 hzz hz8
      obtain ⟨aP, kP, hvp⟩ := hr.p.slice
      subst hvp
      have hple := hr.ap.le
      have hkl := hr.ap.kl
      have hsz9 := hr.sz
      have HR := Lib.hid hr
      clear hr
      by_cases hlt : k < pls.length
      case neg =>
        obtain rfl : k = pls.length := by omega
        have HDO : Hid (buildP a l most = some pls) := HR.out.ap.done
        obtain ⟨a0, s0, rfl⟩ := HR.out.g.o.slice
        obtain ⟨a1, s1, rfl⟩ := HR.out.g.p.slice
        obtain ⟨a2, s2, rfl⟩ := ownsRow_slice HR.out.g.r
        have q0 := cell_of_row _ _ 0 _ _ _ HR.out.g.box
        have q1 := cell_of_row _ _ 1 _ _ _ HR.out.g.box
        have q2 := cell_of_row _ _ 2 _ _ _ HR.out.g.box
        have g1 := (HPG.out wr (HXW.out wr HR.out.bl)).2
        have r0 := cell_of_row _ _ 0 _ _ _ g1
        have r1 := cell_of_row _ _ 1 _ _ _ g1
        have r2 := cell_of_row _ _ 2 _ _ _ g1
        have f0 := frozen_of_row _ _ 0 _ _ g1
        have f1 := frozen_of_row _ _ 1 _ _ g1
        have f2 := frozen_of_row _ _ 2 _ _ g1
        have hBx : w.heap.size + 1 < B := by omega
        go_wp2
        have hc3 := three_set (a := .slice a0 (plGm (succPl a (joinT l)) (topA a) pls pls.length).owner.length s0) (b := .slice a1 (plGm (succPl a (joinT l)) (topA a) pls pls.length).prio.length s1) (c := .slice a2 (plGm (succPl a (joinT l)) (topA a) pls pls.length).succ.length s2) g1
        have k0 := cell_of_row _ _ 0 _ _ _ hc3
        have k1 := cell_of_row _ _ 1 _ _ _ hc3
        have k2 := cell_of_row _ _ 2 _ _ _ hc3
        refine bodyPost_ret (v := .tuple #[.agg #[.slice a0 (plGm (succPl a (joinT l)) (topA a) pls pls.length).owner.length s0, .slice a1 (plGm (succPl a (joinT l)) (topA a) pls pls.length).prio.length s1, .slice a2 (plGm (succPl a (joinT l)) (topA a) pls pls.length).succ.length s2], .slice aP pls.length kP, .int .i64 0]) (by simp [results, Tryd.results14, go_sem, k0, k1, k2]) rfl ?_
        show BuildOut a l (buildP a l most) w _ _
        rw [HDO.out]
        have hT := HOK.out.t.2
        exact ⟨_, _, rfl, plGm_is HVA.out HOK.out (by omega) HR.out.ok (((HR.out.g.setFar hBx).setFar hBx).setFar hBx), OP.is (((HR.out.p.setFar hBx).setFar hBx).setFar hBx) (by simp only [maxN]; omega) (fun y hy => wfP HVA.out hT (HR.out.ok y hy).1 (HR.out.ok y hy).2), below_three (HBW.out wr HR.out.bl) (by omega)⟩
      obtain ⟨gp, rfl⟩ := HR.out.p.some (by omega)
      obtain ⟨y, hy⟩ : ∃ y, y = pls[k] := ⟨_, rfl⟩
      have hpk := HR.out.p.at' rfl k hlt
      rw [← hy] at hpk
      have HY := Lib.hid hy
      clear hy
      obtain ⟨p0, p1, p2⟩ := hpk
      have hkI : (k : Int) < (pls.length : Int) := by omega
      go_upto_region 10 with (fail)
      have hb1 : Below wr.heap.size wr (wr.alloc (Obj.cells #[Value.int IntKind.i64 y.st, Value.int IntKind.i64 y.inn, Value.int IntKind.i64 y.pr] 48)) := bel_box _
      have hxy : (wr.alloc (Obj.cells #[Value.int IntKind.i64 y.st, Value.int IntKind.i64 y.inn, Value.int IntKind.i64 y.pr] 48)).heap[wr.heap.size]? = some (Obj.cells #[Value.int IntKind.i64 y.st, Value.int IntKind.i64 y.inn, Value.int IntKind.i64 y.pr] 48) := heap_alloc_new _ _
      have hz1 : (wr.alloc (Obj.cells #[Value.int IntKind.i64 y.st, Value.int IntKind.i64 y.inn, Value.int IntKind.i64 y.pr] 48)).heap.size = wr.heap.size + 1 := by simp
      have hg1 := HR.out.g.addNew (u := boxV wr.heap.size) hb1 (fun g hg => by
        obtain rfl : wr.heap.size = g := by simpa [boxV, Value.ownBlock] using hg
        omega) (fun g hg => by
        obtain rfl : wr.heap.size = g := by simpa [boxV, Value.ownBlock] using hg
        omega)
      have hp1 := HR.out.p.below hb1
      have hbl1 : Below B w7 (wr.alloc (Obj.cells #[Value.int IntKind.i64 y.st, Value.int IntKind.i64 y.inn, Value.int IntKind.i64 y.pr] 48)) := HR.out.bl.trans (hb1.mono (by omega))
      generalize wr.alloc (Obj.cells #[Value.int IntKind.i64 y.st, Value.int IntKind.i64 y.inn, Value.int IntKind.i64 y.pr] 48) = w1 at *
      clear p0 p1 p2 hb1
      generalize hgm : plGm (succPl a (joinT l)) (topA a) pls k = gm at *
      have HGM := Lib.hid hgm
      have hgl0 : gm.owner.length ≤ 3000 := by rw [← hgm]; simp [plGm]; omega
      have hgl1 : gm.prio.length ≤ 3000 := by rw [← hgm]; simp [plGm]; omega
      have hgl2 : gm.succ.length ≤ 3000 := by rw [← hgm]; simp [plGm]; omega
      clear hgm
      obtain ⟨a0, s0, rfl⟩ := hg1.o.slice
      obtain ⟨a1, s1, rfl⟩ := hg1.p.slice
      have g0 := cell_of_row _ _ 0 _ _ _ hg1.box
      have hB1 : B ≤ w1.heap.size := by omega
      have hoO := hg1.o
      have HZ1 := Lib.hid hz1
      clear hz1
      have e1 := cell_of_row _ _ 1 _ _ _ hxy
      go_upto_if 62 with (fail)
      go_cut [] (fun wx => ∃ (x0 x1 : Value), GB wx B (B + 1) x0 x1 v2 vals ⟨gm.owner ++ [plOwn y], gm.prio ++ [plPri (topA a) y], gm.succ⟩ [boxV wr.heap.size, .slice (some ⟨gp, 0, none⟩) pls.length kP] ∧ OP wx B (.slice (some ⟨gp, 0, none⟩) pls.length kP) pls ∧ wx.heap[wr.heap.size]? = some (.cells #[.int .i64 y.st, .int .i64 y.inn, .int .i64 y.pr] 48 (0, 0)) ∧ Below B w7 wx)
      case first =>
        by_cases hi : y.inn < 0
        · have hd : decide (y.inn < 0) = true := by simpa using hi
          have HOW : Hid (plOwn y = 1) := if_pos hi
          have HPR : Hid (plPri (topA a) y = y.pr) := if_pos hi
          go_upto_region 11 with (fail)
          go_upto_region 12 with (at_builtin; refine app_int rfl _ _ (1) rfl B _ _ hoO rfl _ (by simp) rfl (by omega) hB1 ?_; intro v' w' hown' hg hmv; obtain ⟨ao', cap', hv'⟩ := hown'.slice; rw [List.length_append, List.length_singleton] at hv'; subst hv'; have HST := Lib.hid (stepO2 hg1 hp1 hxy hown' hg hmv hB1); have k2 := cell_of_row _ _ 0 _ _ _ HST.out.1; have f2 := frozen_of_row _ _ 0 _ _ HST.out.1; clear hown' hg hmv)
          obtain ⟨-, hg2, hp2, hx2, hl2⟩ := HST.out
          clear HST k2 f2 g0 hoO
          generalize w'.setCell ⟨B + 1, 0, none⟩ (.slice ao' (gm.owner.length + 1) cap') = w2 at *
          have hB2 : B ≤ w2.heap.size := Nat.le_trans hB1 hl2.size
          have g0 := cell_of_row _ _ 1 _ _ _ hg2.box
          have e2 := cell_of_row _ _ 2 _ _ _ hx2
          have hoO : OI w2 B (.slice a1 gm.prio.length s1) gm.prio := hg2.p
          go_wp2_with (at_builtin; refine app_int rfl _ _ (y.pr) rfl B _ _ hoO rfl _ (by simp) rfl (by omega) hB2 ?_; intro v' w' hown' hg hmv; obtain ⟨ao', cap', hv'⟩ := hown'.slice; rw [List.length_append, List.length_singleton] at hv'; subst hv'; have HST := Lib.hid (stepP2 hg2 hp2 hx2 hown' hg hmv hB2); have k2 := cell_of_row _ _ 1 _ _ _ HST.out.1; have f2 := frozen_of_row _ _ 1 _ _ HST.out.1; clear hown' hg hmv)
          obtain ⟨-, hg3, hp3, hx3, hl3⟩ := HST.out
          go_meet
          case rel => exact ⟨_, _, by rw [HOW.out, HPR.out]; exact hg3, hp3, hx3, hbl1.trans (hl2.trans hl3)⟩
        · have hd : decide (y.inn < 0) = false := by simpa using hi
          have HOW : Hid (plOwn y = 0) := if_neg hi
          have HPR : Hid (plPri (topA a) y = topA a) := if_neg hi
          go_upto_region 13 with (fail)
          go_upto_region 14 with (at_builtin; refine app_int rfl _ _ (0) rfl B _ _ hoO rfl _ (by simp) rfl (by omega) hB1 ?_; intro v' w' hown' hg hmv; obtain ⟨ao', cap', hv'⟩ := hown'.slice; rw [List.length_append, List.length_singleton] at hv'; subst hv'; have HST := Lib.hid (stepO2 hg1 hp1 hxy hown' hg hmv hB1); have k2 := cell_of_row _ _ 0 _ _ _ HST.out.1; have f2 := frozen_of_row _ _ 0 _ _ HST.out.1; clear hown' hg hmv)
          obtain ⟨-, hg2, hp2, hx2, hl2⟩ := HST.out
          clear HST k2 f2 g0 hoO
          generalize w'.setCell ⟨B + 1, 0, none⟩ (.slice ao' (gm.owner.length + 1) cap') = w2 at *
          have hB2 : B ≤ w2.heap.size := Nat.le_trans hB1 hl2.size
          have g0 := cell_of_row _ _ 1 _ _ _ hg2.box
          have e2 := cell_of_row _ _ 2 _ _ _ hx2
          have hoO : OI w2 B (.slice a1 gm.prio.length s1) gm.prio := hg2.p
          go_wp2_with (at_builtin; refine app_int rfl _ _ (topA a) rfl B _ _ hoO rfl _ (by simp) rfl (by omega) hB2 ?_; intro v' w' hown' hg hmv; obtain ⟨ao', cap', hv'⟩ := hown'.slice; rw [List.length_append, List.length_singleton] at hv'; subst hv'; have HST := Lib.hid (stepP2 hg2 hp2 hx2 hown' hg hmv hB2); have k2 := cell_of_row _ _ 1 _ _ _ HST.out.1; have f2 := frozen_of_row _ _ 1 _ _ HST.out.1; clear hown' hg hmv)
          obtain ⟨-, hg3, hp3, hx3, hl3⟩ := HST.out
          go_meet
          case rel => exact ⟨_, _, by rw [HOW.out, HPR.out]; exact hg3, hp3, hx3, hbl1.trans (hl2.trans hl3)⟩
      case rest =>
        obtain ⟨x0, x1, hgc, hpc, hxc, hlc⟩ := hcut
        clear g0 hoO e1 hg1 hp1 hxy hbl1 HZ1 hB1
        have hBc : B ≤ wc.heap.size := by have := hlc.size; rw [← HBe.out] at this; exact this
        have gpa := (HPG.out wc (HXW.out wc hlc)).1
        have c0 := cell_of_row _ _ 0 _ _ _ gpa
        have c1 := cell_of_row _ _ 1 _ _ _ gpa
        have c2 := cell_of_row _ _ 2 _ _ _ gpa
        have c3 := cell_of_row _ _ 3 _ _ _ gpa
        have e0 := cell_of_row _ _ 0 _ _ _ hxc
        have e1 := cell_of_row _ _ 1 _ _ _ hxc
        have e2 := cell_of_row _ _ 2 _ _ _ hxc
        have hok := HR.out.ok y (by rw [HY.out]; exact List.getElem_mem hlt)
        go_wp2_with fail
        refine (HSU.out wc y (HBW.out wc hlc) hok.1).mono ?_
        rintro e w2 ⟨v14, rfl, hS14, hbS⟩
        obtain ⟨S, hSe⟩ : ∃ S, S = succPl a (joinT l) y := ⟨_, rfl⟩
        rw [← hSe] at hS14
        have hg2 := hgc.addNew (u := v14) hbS (fun g hg => (World.ownsRow.lt hS14 g hg).1) (fun g hg => (World.ownsRow.lt hS14 g hg).2)
        have hg3 := (hg2.add (u := .slice none 0 0) rfl).sub (others' := [.slice none 0 0, v14, .slice (some ⟨gp, 0, none⟩) pls.length kP]) (.cons_cons _ (.cons_cons _ (.cons _ (.refl _))))
        have hp2 := hpc.below hbS
        have hl2 : Below B w7 w2 := hlc.trans (hbS.mono hBc)
        have hB2 : B ≤ w2.heap.size := Nat.le_trans hBc hbS.size
        have hS2 := hS14.base hBc
        have HWS : Hid (∀ x ∈ S, (PlOK a (joinT l) x ∧ PlW x) ∧ WfP x) := fun x hx => by
          rw [hSe] at hx
          have q1 := HOK.out.succ hok.1 x hx
          have q2 := succ_wf HVA.out hok.1 x hx
          exact ⟨⟨q1, q2⟩, wfP HVA.out HOK.out.t.2 q1 q2⟩
        have hsl : S.length ≤ 64 := by
          rw [hSe]
          unfold succPl
          have hT := HOK.out.t.2
          split
          · simpa using hT
          · rw [List.length_map]
            have := hok.1.inn
            exact hok.1.len y.inn.toNat (by omega)
        have HSE := Lib.hid hSe
        have HWP : Hid (∀ x ∈ pls, WfP x) := fun x hx => wfP HVA.out HOK.out.t.2 (HR.out.ok x hx).1 (HR.out.ok x hx).2
        clear hgc hpc hxc hlc hbS hS14 hg2 gpa c0 c1 c2 c3 e0 e1 e2 hSe hBc
        obtain ⟨aS, kS, rfl⟩ := hS2.slice
        generalize hgm2 : (⟨gm.owner ++ [plOwn y], gm.prio ++ [plPri (topA a) y], gm.succ⟩ : Gm) = gm2 at *
        have HGM2 := Lib.hid hgm2
        have hgs : gm2.succ.length ≤ 3000 := by rw [← hgm2]; exact hgl2
        clear hgm2
        go_wp2_with fail
        go_loopg [10, 15, 16] S.length (fun gh r10 r15 r16 wx => ∃ j : Nat, gh = S.length - j ∧ r16 = .int .i64 j ∧ j ≤ S.length ∧ IL B w7 x0 x1 v2 vals gm2 pls S j r10 r15 (.slice aS S.length kS) wx)
        case atStart => exact ⟨0, by omega, rfl, by omega, { g := hg3.perm (.cons _ (.swap _ _ _)), p := hp2, o := OI_nil _ _, s := hS2, bl := hl2, sz := hB2 }⟩
        case round =>
          obtain ⟨j, rfl, rfl, hj, hI⟩ := hrel
          clear hg3 hp2 hl2 hB2 hS2
          obtain ⟨aq, kq, rfl⟩ := hI.p.slice
          obtain ⟨ao', kv, rfl⟩ := hI.o.slice
          have hszI := hI.sz
          have HI := Lib.hid hI
          clear hI
          by_cases hlj : j < S.length
          case neg =>
            obtain rfl : j = S.length := by omega
            obtain ⟨hgI, hpI, hoI, hlI, hsI, hlen⟩ := HI.out.all
            clear HI
            generalize (addA pls (S.take S.length)).length = np at *
            generalize (numsP (addA pls (S.take S.length)) (S.take S.length)).length = nn at *
            by_cases hmost : (addA pls S).length ≤ most
            · have hd : ¬ (most : Int) < (np : Int) := by omega
              obtain ⟨a2, s2, rfl⟩ := ownsRow_slice hgI.r
              have g2 := cell_of_row _ _ 2 _ _ _ hgI.box
              have hoR := hgI.r
              have HMO := Lib.hid hmost
              have HLE := Lib.hid hlen
              clear hlen hmost
              go_wp2_with (at_builtin; refine app_row rfl _ _ (.slice ao' nn kv) rfl B _ _ _ hoR rfl _ (by simp) rfl rfl (by omega) hsI ?_; intro v' w' hown' hg hmv; obtain ⟨ao'', cap'', hv'⟩ := ownsRow_slice hown'; subst hv'; have HST := Lib.hid (stepR2 hgI hoI hpI hown' hg hmv hsI); have k2 := cell_of_row _ _ 2 _ _ _ HST.out.1; have f2 := frozen_of_row _ _ 2 _ _ HST.out.1; clear hown' hg hmv)
              obtain ⟨-, hgN, hpN, hlN⟩ := HST.out
              have HAP : Hid (AtP (succPl a (joinT l)) most ⟨a.start, -1, topA a⟩ (k + 1) (addA pls S)) := by
                have := HR.out.ap.next hlt (by rw [← HY.out, ← HSE.out]; exact HMO.out)
                rw [← HY.out, ← HSE.out] at this
                exact this
              have hkL : k < (addA pls S).length := by
                obtain ⟨e, he⟩ := addA_pre pls S
                rw [he, List.length_append]; omega
              have hyk : (addA pls S)[k] = y := by
                obtain ⟨e, he⟩ := addA_pre pls S
                have h3 : (pls ++ e)[k]'(by simp; omega) = pls[k] := List.getElem_append_left hlt
                rw [HY.out, ← h3]
                simp only [he]
              have HPG3 : Hid (plGm (succPl a (joinT l)) (topA a) (addA pls S) (k + 1) = ⟨gm2.owner, gm2.prio, gm2.succ ++ [numsP (addA pls S) S]⟩) := by
                show _ = _
                have h4 : plGm (succPl a (joinT l)) (topA a) (addA pls S) k = gm := by
                  obtain ⟨e, he⟩ := addA_pre pls S
                  rw [he, plGm_same hkl HR.out.ap.cl]
                  exact HGM.out
                rw [plGm_step hkL, h4, hyk, ← HSE.out, ← HGM2.out]
              have HOKN : Hid (∀ z ∈ addA pls S, PlOK a (joinT l) z ∧ PlW z) := addA_all (fun z hz => HR.out.ok z hz) fun z hz => (HWS.out z hz).1
              go_roundg (most - (k + 1))
              case rel => exact ⟨k + 1, addA pls S, _, _, _, _, rfl, by go_num, { ap := HAP.out, g := by rw [HPG3.out]; exact hgN, p := hpN, bl := hlI.trans hlN, ok := HOKN.out, sz := hgN.zlt }⟩
              case measure => omega
            · have hd : (most : Int) < (np : Int) := by omega
              have hnone : buildP a l most = none := by
                unfold buildP
                refine HR.out.ap.fail hlt ?_
                rw [← HY.out, ← HSE.out]; omega
              have HNO := Lib.hid hnone
              clear hnone hlen hmost
              have g1 := (HPG.out wr (HXW.out wr hlI)).2
              have r0 := cell_of_row _ _ 0 _ _ _ g1
              have r1 := cell_of_row _ _ 1 _ _ _ g1
              have r2 := cell_of_row _ _ 2 _ _ _ g1
              have f0 := frozen_of_row _ _ 0 _ _ g1
              have f1 := frozen_of_row _ _ 1 _ _ g1
              have f2 := frozen_of_row _ _ 2 _ _ g1
              go_wp2
              have hc3 := three_set (a := .slice none 0 0) (b := .slice none 0 0) (c := .slice none 0 0) g1
              have k0 := cell_of_row _ _ 0 _ _ _ hc3
              have k1 := cell_of_row _ _ 1 _ _ _ hc3
              have k2 := cell_of_row _ _ 2 _ _ _ hc3
              refine bodyPost_ret (v := .tuple #[.agg #[.slice none 0 0, .slice none 0 0, .slice none 0 0], .slice none 0 0, .int .i64 2]) (by simp [results, Tryd.results14, go_sem, k0, k1, k2]) rfl ?_
              show BuildOut a l (buildP a l most) w _ _
              rw [HNO.out]
              exact ⟨rfl, below_three (HBW.out wr hlI) (by omega)⟩
          obtain ⟨g14, rfl⟩ := HI.out.s.some (by omega)
          have hsk := HI.out.s.at' rfl j hlj
          obtain ⟨sx, hsx⟩ : ∃ sx, sx = S[j] := ⟨_, rfl⟩
          rw [← hsx] at hsk
          have HSX := Lib.hid hsx
          clear hsx
          obtain ⟨p0, p1, p2⟩ := hsk
          have hjI : (j : Int) < (S.length : Int) := by omega
          have hPl : (addA pls (S.take j)).length ≤ 100000 := by
            have h5 := addA_len_le pls (S.take j)
            rw [List.length_take] at h5; omega
          have hwsx : WfP sx := by rw [HSX.out]; exact (HWS.out _ (List.getElem_mem hlj)).2
          have hPw : ∀ z ∈ addA pls (S.take j), WfP z := addA_all (fun z hz => HWP.out z hz) (fun z hz => (HWS.out z (List.mem_of_mem_take hz)).2)
          have HPW := Lib.hid hPw
          clear hPw
          go_wp2_with fail
          refine (number_c _ B _ _ sx HI.out.p HPW.out hwsx hPl HI.out.sz).mono ?_
          rintro e w4 ⟨v', rfl, ho', hg', hm'⟩
          obtain ⟨ao2', kp', rfl⟩ := ho'.slice
          obtain ⟨-, b1⟩ := HI.out.g.other2 (i := 1) rfl hg' hm' (fun g hg => (World.ownsRow.lt ho' g hg).2)
          have hO : OI w4 B (.slice ao' (numsP (addA pls (S.take j)) (S.take j)).length kv) (numsP (addA pls (S.take j)) (S.take j)) := ownsRow_blk HI.out.o fun k hk => b1 0 _ (by omega) rfl k hk
          have hnl : (numsP (addA pls (S.take j)) (S.take j)).length ≤ 64 := by simp [numsP]; omega
          have hB4 : B ≤ w4.heap.size := Nat.le_trans HI.out.sz hg'.size
          have HO' := Lib.hid ho'
          have HG' := Lib.hid hg'
          have HM' := Lib.hid hm'
          clear ho' hg' hm' b1 p0 p1 p2
          go_wp2_with (at_builtin; refine app_int rfl _ _ ((addP (addA pls (S.take j)) sx).idxOf sx : Int) rfl B _ _ hO rfl _ (by simp) rfl (by omega) hB4 ?_; intro v'' w'' hown' hg hmv; obtain ⟨ao'', cap'', hv'⟩ := hown'.slice; rw [List.length_append, List.length_singleton] at hv'; subst hv'; have HO2 := Lib.hid hown'; have HG2 := Lib.hid hg; have HM2 := Lib.hid hmv; clear hown' hg hmv)
          go_roundg (S.length - (j + 1))
          case rel => exact ⟨j + 1, rfl, by go_num, by omega, HI.out.num hlj (by rw [← HSX.out]; exact HO'.out) HG'.out HM'.out (fun _ => ⟨by rw [← HSX.out]; exact HO2.out, HG2.out, HM2.out⟩)⟩
          case measure => omega

end Go.Proofs.YtjadeffdcbchnaaDoor
