/- The law ArenaWords: its walk. -/
import Derived.Test.YtjadeffdcbchnaaDoorAr50
import Derived.Test.YtjadeffdcbchnaaDoorArS0
namespace Go.Proofs.YtjadeffdcbchnaaDoor
open Go.RowKit

def RW12 (vl : Value) (g0 g1 g2 : Option Addr) (R j0 j1 j2 : Nat) (a0 : Option Addr) (n0 f0 lb lo n1 f1 k pc pn : Nat) (pr xl : Int) (ix : Nat) (u : Value) (_ : World) : Prop :=
  match ix with
  | 0 => u = vl
  | 1 => u = .agg #[.slice g0 R j0, .slice g1 R j1, .slice g2 R j2]
  | 2 => u = .int .i64 (pc : Int)
  | 3 => u = .agg #[.slice a0 n0 f0, .slice (some ⟨lb, lo, none⟩) n1 f1]
  | 4 => u = .int .i64 (k : Int)
  | 5 => u = .int .i64 xl
  | 6 => u = .tuple #[.int .i64 (pn : Int), .int .i64 pr, .bool true]
  | 7 => u = .tuple #[.int .i64 (pn : Int), .int .i64 pr, .bool true]
  | 8 => u = .int .i64 (pn : Int)
  | 9 => u = .int .i64 pr
  | 10 => u = .bool true
  | 11 => u = .int .i64 (pn : Int)
  | 12 => u = .bool true
  | _ => True
def RW19 (vl : Value) (g0 g1 g2 : Option Addr) (R j0 j1 j2 zw lb lo n1 f1 j pc pn : Nat) (pr xl : Int) (ix : Nat) (u : Value) (_ : World) : Prop :=
  match ix with
  | 0 => u = vl
  | 1 => u = .agg #[.slice g0 R j0, .slice g1 R j1, .slice g2 R j2]
  | 2 => u = .int .i64 (pc : Int)
  | 3 => u = .pointer (some ⟨zw, 1, none⟩)
  | 4 => u = .slice (some ⟨lb, lo, none⟩) n1 f1
  | 5 => u = .int .i64 (j : Int)
  | 6 => u = .pointer (some ⟨lb, lo + j, none⟩)
  | 7 => u = .int .i64 xl
  | 8 => u = .tuple #[.int .i64 (pn : Int), .int .i64 pr, .bool true]
  | 9 => u = .tuple #[.int .i64 (pn : Int), .int .i64 pr, .bool true]
  | 10 => u = .int .i64 (pn : Int)
  | 11 => u = .int .i64 pr
  | 12 => u = .bool true
  | 13 => u = .int .i64 (pn : Int)
  | 14 => u = .bool true
  | _ => True
def RW29 (vl : Value) (g0 g1 g2 : Option Addr) (R j0 j1 j2 zw lb lo n1 f1 j pc pn : Nat) (pr xl : Int) (ix : Nat) (u : Value) (_ : World) : Prop :=
  match ix with
  | 0 => u = vl
  | 1 => u = .agg #[.slice g0 R j0, .slice g1 R j1, .slice g2 R j2]
  | 2 => u = .int .i64 (pc : Int)
  | 3 => u = .pointer (some ⟨zw, 1, none⟩)
  | 4 => u = .slice (some ⟨lb, lo, none⟩) n1 f1
  | 5 => u = .int .i64 (j : Int)
  | 6 => u = .pointer (some ⟨lb, lo + j, none⟩)
  | 7 => u = .int .i64 xl
  | 8 => u = .tuple #[.int .i64 (pn : Int), .int .i64 pr, .bool true]
  | 9 => u = .tuple #[.int .i64 (pn : Int), .int .i64 pr, .bool true]
  | 10 => u = .int .i64 (pn : Int)
  | 11 => u = .int .i64 pr
  | 12 => u = .bool true
  | 13 => u = .int .i64 (pn : Int)
  | 14 => u = .int .i64 pr
  | 15 => u = .bool true
  | _ => True

set_option maxRecDepth 100000 in
set_option maxHeartbeats 8000000 in
theorem Words_walk (w : World) (vl va vw : Value) (l : List Sig) (a : Au) (wd : Ls) (hK : Keys w) (hl : IsSigs w vl l) (ha : IsAuto w va a) (hw : IsLs w vw wd) :
    Calls Tryd.prog 8 #[vl, va, vw] w (Calm (.bool true) w) := by
  have hmx : Tryd.prog.follows .mixedOrders = true := by kernel_rfl
  obtain ⟨p2, n2, k2, p3, n3, k3, rfl⟩ := ha.shp
  obtain ⟨a0, f0, a1, f1, rfl⟩ := hw.shp
  obtain ⟨n0, hn0⟩ : ∃ n, wd.stem.length = n := ⟨_, rfl⟩
  obtain ⟨n1, hn1⟩ : ∃ n, wd.loop.length = n := ⟨_, rfl⟩
  have HN0 := Lib.hid hn0
  have HN1 := Lib.hid hn1
  rw [hn0, hn1] at hw ⊢
  clear hn0 hn1
  go_enter Tryd.func8, Tryd.ntmps8
  go_upto_region 1 with (fail)
  obtain ⟨hx, hz, hB⟩ : ((w.alloc (.cells #[.int .i64 a.letters, .int .i64 a.start, .slice p2 n2 k2, .slice p3 n3 k3] 25)).alloc (.cells #[.slice a0 n0 f0, .slice a1 n1 f1] 57)).heap[w.heap.size]? = some (.cells #[.int .i64 a.letters, .int .i64 a.start, .slice p2 n2 k2, .slice p3 n3 k3] 25 (0, 0)) ∧ ((w.alloc (.cells #[.int .i64 a.letters, .int .i64 a.start, .slice p2 n2 k2, .slice p3 n3 k3] 25)).alloc (.cells #[.slice a0 n0 f0, .slice a1 n1 f1] 57)).heap[w.heap.size + 1]? = some (.cells #[.slice a0 n0 f0, .slice a1 n1 f1] 57 (0, 0)) ∧ Below w.heap.size w ((w.alloc (.cells #[.int .i64 a.letters, .int .i64 a.start, .slice p2 n2 k2, .slice p3 n3 k3] 25)).alloc (.cells #[.slice a0 n0 f0, .slice a1 n1 f1] 57)) := ⟨(by (repeat (rw [alloc_get]; first | rw [if_pos (by first | (simp; done) | (simp; omega))] | rw [if_neg (by first | (simp; done) | (simp; omega))])); (try rfl)), (by (repeat (rw [alloc_get]; first | rw [if_pos (by first | (simp; done) | (simp; omega))] | rw [if_neg (by first | (simp; done) | (simp; omega))])); (try rfl)), (by repeat (first | exact Below.refl _ _ | assumption | (refine belA ?_ _) | (refine belD ?_ _)))⟩
  replace hl := hl.below hB
  replace ha := ha.below hB
  replace hw := hw.below hB
  replace hK := hK.below hB
  generalize (w.alloc (.cells #[.int .i64 a.letters, .int .i64 a.start, .slice p2 n2 k2, .slice p3 n3 k3] 25)).alloc (.cells #[.slice a0 n0 f0, .slice a1 n1 f1] 57) = w1 at *
  have HE : Hid (∀ W, Below w1.heap.size w1 W → Calm (.bool true) w (.returned (.bool true)) W) := fun W h => ⟨rfl, hB.trans (h.mono hB.size)⟩
  clear hB
  generalize w.heap.size + 1 = zw at *
  generalize w.heap.size = za at *
  go_wp2_with fail
  refine (head_c _ hK).mono ?_
  rintro e w2 ⟨rfl, hb⟩
  replace hx := (hb.block _ (Array.getElem?_eq_some_iff.1 hx).1).trans hx
  replace hz := (hb.block _ (Array.getElem?_eq_some_iff.1 hz).1).trans hz
  replace hl := hl.below hb
  replace ha := ha.below hb
  replace hw := hw.below hb
  replace hK := hK.below hb
  have c0 := cell_of_row _ _ 0 _ _ _ hx
  have c1 := cell_of_row _ _ 1 _ _ _ hx
  have c2 := cell_of_row _ _ 2 _ _ _ hx
  have c3 := cell_of_row _ _ 3 _ _ _ hx
  go_wp2_with fail
  refine (fine_c _ _ _ l a hl ha).mono ?_
  rintro e w3 ⟨rfl, hb3⟩
  replace hx := (hb3.block _ (Array.getElem?_eq_some_iff.1 hx).1).trans hx
  replace hz := (hb3.block _ (Array.getElem?_eq_some_iff.1 hz).1).trans hz
  replace hl := hl.below hb3
  replace ha := ha.below hb3
  replace hw := hw.below hb3
  replace hK := hK.below hb3
  replace hb := hb.trans (hb3.mono hb.size)
  clear c0 c1 c2 c3 hb3
  cases hf : fineB l a
  · go_wp2_with fail
    go_ret
    exact HE.out _ hb
  obtain ⟨hs, -, hv, he⟩ : validS l = true ∧ smallA a = true ∧ validA a = true ∧ a.letters = lettersI l := by
    simp only [fineB, Bool.and_eq_true, beq_iff_eq] at hf
    exact ⟨hf.1.1.1, hf.1.1.2, hf.1.2, hf.2⟩
  have HSV := Lib.hid (And.intro hs (And.intro hv he))
  clear hs hv he hf
  have e0 := cell_of_row _ _ 0 _ _ _ hz
  have e1 := cell_of_row _ _ 1 _ _ _ hz
  go_wp2_with fail
  refine (Short_c _ _ wd hw).mono ?_
  rintro e w4 ⟨rfl, hb3⟩
  replace hx := (hb3.block _ (Array.getElem?_eq_some_iff.1 hx).1).trans hx
  replace hz := (hb3.block _ (Array.getElem?_eq_some_iff.1 hz).1).trans hz
  replace hl := hl.below hb3
  replace ha := ha.below hb3
  replace hw := hw.below hb3
  replace hK := hK.below hb3
  replace hb := hb.trans (hb3.mono hb.size)
  clear e0 e1 hb3
  cases hsh : shortB wd
  · go_wp2_with fail
    go_ret
    exact HE.out _ hb
  clear hsh
  have e0 := cell_of_row _ _ 0 _ _ _ hz
  have e1 := cell_of_row _ _ 1 _ _ _ hz
  have c0 := cell_of_row _ _ 0 _ _ _ hx
  go_wp2_with fail
  refine (WRValid_c _ _ wd a.letters hw).mono ?_
  rintro e w5 ⟨rfl, hb3⟩
  replace hx := (hb3.block _ (Array.getElem?_eq_some_iff.1 hx).1).trans hx
  replace hz := (hb3.block _ (Array.getElem?_eq_some_iff.1 hz).1).trans hz
  replace hl := hl.below hb3
  replace ha := ha.below hb3
  replace hw := hw.below hb3
  replace hK := hK.below hb3
  replace hb := hb.trans (hb3.mono hb.size)
  clear e0 e1 c0 hb3
  cases hwv : validI a.letters wd
  · go_wp2_with fail
    go_ret
    exact HE.out _ hb
  have HWV := Lib.hid hwv
  clear hwv
  obtain ⟨ob', hob⟩ : ∃ ob, buildP a l 3000 = ob := ⟨_, rfl⟩
  have c0 := cell_of_row _ _ 0 _ _ _ hx
  have c1 := cell_of_row _ _ 1 _ _ _ hx
  have c2 := cell_of_row _ _ 2 _ _ _ hx
  have c3 := cell_of_row _ _ 3 _ _ _ hx
  cases ob' with
  | none =>
    have hE : buildE a l 3000 = (⟨[], [], []⟩, [], 2) := buildE_non HSV.out.1 HSV.out.2.1 HSV.out.2.2 (by omega) (by omega) hob
    have HEE := Lib.hid hE
    clear hE hob
    go_wp2_with fail
    refine (Build_c _ _ _ l a 3000 hK hl ha).mono ?_
    rw [HEE.out]
    rintro e w6 ⟨vg, vp, rfl, hG, -, hb3⟩
    obtain ⟨g0, m0, j0, g1, m1, j1, g2, m2, j2, rfl⟩ := hG.shape
    replace hb := hb.trans (hb3.mono hb.size)
    clear c0 c1 c2 c3 hb3
    go_upto_region 5 with (fail)
    obtain ⟨-, hb3, -⟩ := box_new hb hb.size #[.slice g0 m0 j0, .slice g1 m1 j1, .slice g2 m2 j2] 28
    replace hb := hb.trans (hb3.mono hb.size)
    generalize w6.alloc (.cells #[.slice g0 m0 j0, .slice g1 m1 j1, .slice g2 m2 j2] 28) = w7 at *
    go_wp2_with fail
    go_ret
    exact HE.out _ hb
  | some r =>
    have hE : buildE a l 3000 = (plGm (succPl a (joinT l)) (topA a) r r.length, r, 0) := buildE_som HSV.out.1 HSV.out.2.1 HSV.out.2.2 (by omega) (by omega) hob
    have hrl : r.length ≤ 3000 := bfs_lenX _ _ _ _ hob (by simp)
    have hF := found_of hob
    obtain ⟨gm, hgm⟩ : ∃ gm, plGm (succPl a (joinT l)) (topA a) r r.length = gm := ⟨_, rfl⟩
    rw [hgm] at hE
    obtain ⟨R, hR⟩ : ∃ R, r.length = R := ⟨_, rfl⟩
    have HGL : Hid (gm.owner.length = R ∧ gm.prio.length = R ∧ gm.succ.length = R) := by
      rw [← hgm, ← hR]
      exact plGm_len _ _ r
    obtain ⟨h1, h2, h3⟩ := valid_let HWV.out
    have hmem := plN_mem HSV.out.1 HSV.out.2.1 HSV.out.2.2 hob h1 h2
    obtain ⟨D, hD0, ⟨hDR, hDp⟩, hDm⟩ := least_back (P := fun d => d ≤ r.length ∧ plN a wd (r.length + d) = plN a wd r.length) (plN_back fun i => (hmem i).1)
    have hx0m : (⟨a.start, -1, topA a⟩ : Pl) ∈ r := List.mem_of_getElem? hF.hd
    have hidx0 : r.idxOf ⟨a.start, -1, topA a⟩ = 0 := by
      have := hF.hd
      cases r with
      | nil => simp at this
      | cons y r => simp at this; rw [this]; simp
    rw [hR] at hDR hDp hDm hrl
    have HLET := Lib.hid (And.intro h1 (And.intro h2 h3))
    have HME := Lib.hid hmem
    have HDM : Hid (∀ d, 0 < d → d < D → plN a wd (R + d) ≠ plN a wd R) := fun d h1 h2 h3 => hDm d h1 h2 ⟨by omega, h3⟩
    have HDP : Hid (0 < D ∧ D ≤ R ∧ plN a wd (R + D) = plN a wd R) := ⟨hD0, hDR, hDp⟩
    have HX0 : Hid ((⟨a.start, -1, topA a⟩ : Pl) ∈ r ∧ r.idxOf (⟨a.start, -1, topA a⟩ : Pl) = 0) := ⟨hx0m, hidx0⟩
    have HRL : Hid (R ≤ 3000) := hrl
    have HGM := Lib.hid hgm
    have HOB := Lib.hid hob
    have HE1 := Lib.hid hE
    have HIJ : Hid (∀ y z : Pl, y ∈ r → z ∈ r → r.idxOf y = r.idxOf z → y = z) := fun y z h1 h2 h3 => by
      have e1 : r[r.idxOf y]'(idx_lt h1) = y := List.getElem_idxOf _
      have e2 : r[r.idxOf z]'(idx_lt h2) = z := List.getElem_idxOf _
      rw [← e1, ← e2]
      congr 1
    clear hE hgm hob hrl hR h1 h2 h3 hmem hD0 hDR hDp hDm hx0m hidx0 hF
    go_wp2_with fail
    refine (Build_c _ _ _ l a 3000 hK hl ha).mono ?_
    rw [HE1.out]
    rintro e w6 ⟨vg, vp, rfl, hG, -, hb3⟩
    obtain ⟨g0, m0, j0, g1, m1, j1, g2, m2, j2, rfl⟩ := hG.shape
    obtain ⟨rfl, rfl, rfl⟩ : R = m0 ∧ R = m1 ∧ R = m2 := by
      obtain ⟨e1, e2, e3, -⟩ := hG.dat HGL.out.1 HGL.out.2.1 HGL.out.2.2
      exact ⟨e1, e2, e3⟩
    replace hx := (hb3.block _ (Array.getElem?_eq_some_iff.1 hx).1).trans hx
    replace hz := (hb3.block _ (Array.getElem?_eq_some_iff.1 hz).1).trans hz
    replace hl := hl.below hb3
    replace ha := ha.below hb3
    replace hw := hw.below hb3
    replace hK := hK.below hb3
    replace hb := hb.trans (hb3.mono hb.size)
    clear c0 c1 c2 c3 hb3
    go_upto_region 5 with (fail)
    obtain ⟨y8, hb3, -⟩ := box_new hb hb.size #[.slice g0 R j0, .slice g1 R j1, .slice g2 R j2] 28
    replace hx := (hb3.block _ (Array.getElem?_eq_some_iff.1 hx).1).trans hx
    replace hz := (hb3.block _ (Array.getElem?_eq_some_iff.1 hz).1).trans hz
    replace hl := hl.below hb3
    replace ha := ha.below hb3
    replace hw := hw.below hb3
    replace hK := hK.below hb3
    replace hG := hG.below hb3
    replace hb := hb.trans (hb3.mono hb.size)
    clear hb3
    generalize w6.alloc (.cells #[.slice g0 R j0, .slice g1 R j1, .slice g2 R j2] 28) = w7 at *
    generalize w6.heap.size = z8 at *
    have HST : Hid (∀ W (y : Pl) (x : Int), Below w7.heap.size w7 W → y ∈ r → y.inn = -1 → 0 ≤ x → x < a.letters → Calls Tryd.prog 32 #[vl, .agg #[.slice g0 R j0, .slice g1 R j1, .slice g2 R j2], .int .i64 (r.idxOf y : Int), .int .i64 x] W (fun e w' => e = .returned (.tuple #[.int .i64 (r.idxOf ⟨nxL a y.st x, -1, prL a y.st x⟩ : Int), .int .i64 (prL a y.st x), .bool true]) ∧ Below W.heap.size W w')) := fun W y x hW hy hi h0 h1 => step_at HGM.out HSV.out.1 HSV.out.2.1 HSV.out.2.2 HOB.out (hK.below hW) (hl.below hW) (hG.below hW) hy hi h0 h1
    have HAT : Hid (∀ W (k : Nat), Below w7.heap.size w7 W → k < n0 → Calls Tryd.prog 33 #[.agg #[.slice a0 n0 f0, .slice a1 n1 f1], .int .i64 (k : Int)] W (Calm (.int .i64 (wd.stem.getD k 0)) W)) := fun W k hW hk => by
      have hfo : formB wd = true := by
        have h := HWV.out
        simp only [validI, Bool.and_eq_true] at h
        exact h.1.1
      have := At_c W _ wd (k : Int) (hw.below hW) (by have := ((formB_iff wd).1 hfo).1; have := HN0.out; unfold I64; omega)
      rwa [atI_nat (by omega) hfo, Int.toNat_natCast, atL_stem (by rw [HN0.out]; exact hk)] at this
    have HZC : Hid (∀ W, Below w7.heap.size w7 W → (W.cell? ⟨z8, 0, none⟩ = some (.slice g0 R j0) ∧ W.cell? ⟨z8, 1, none⟩ = some (.slice g1 R j1) ∧ W.cell? ⟨z8, 2, none⟩ = some (.slice g2 R j2)) ∧ W.cell? ⟨zw, 0, none⟩ = some (.slice a0 n0 f0) ∧ W.cell? ⟨zw, 1, none⟩ = some (.slice a1 n1 f1)) := fun W h => by
      have k := (h.block _ (Array.getElem?_eq_some_iff.1 y8).1).trans y8
      have k2 := (h.block _ (Array.getElem?_eq_some_iff.1 hz).1).trans hz
      exact ⟨⟨cell_of_row _ _ 0 _ _ _ k, cell_of_row _ _ 1 _ _ _ k, cell_of_row _ _ 2 _ _ _ k⟩, cell_of_row _ _ 0 _ _ _ k2, cell_of_row _ _ 1 _ _ _ k2⟩
    have HWD : Hid (∀ W, Below w7.heap.size w7 W → Calls Tryd.prog 34 #[.agg #[.int .i64 a.letters, .int .i64 a.start, .slice p2 n2 k2, .slice p3 n3 k3], .agg #[.slice a0 n0 f0, .slice a1 n1 f1]] W (fun e w' => e = .returned (.bool (Int.tmod (LM a wd R D) 2 == 0)) ∧ Below W.heap.size W w')) := fun W hW => (Word_c W _ _ a wd (ha.below hW) (hw.below hW) HSV.out.2.1 HWV.out).mono fun e w' ⟨b, h1, h2, h3⟩ => ⟨by rw [h1, word_eq HSV.out.2.1 HWV.out HDP.out.1 HDP.out.2.2 h2], h3⟩
    have HXC : Hid (∀ W, Below w7.heap.size w7 W → W.cell? ⟨za, 0, none⟩ = some (.int .i64 a.letters) ∧ W.cell? ⟨za, 1, none⟩ = some (.int .i64 a.start) ∧ W.cell? ⟨za, 2, none⟩ = some (.slice p2 n2 k2) ∧ W.cell? ⟨za, 3, none⟩ = some (.slice p3 n3 k3)) := fun W h => by
      have k := (h.block _ (Array.getElem?_eq_some_iff.1 hx).1).trans hx
      exact ⟨cell_of_row _ _ 0 _ _ _ k, cell_of_row _ _ 1 _ _ _ k, cell_of_row _ _ 2 _ _ _ k, cell_of_row _ _ 3 _ _ _ k⟩
    have hparts := hw.parts
    obtain ⟨lb, lo, hla, hlm, hlc⟩ := hparts.2.dat
    obtain ⟨-, -, -, hsm0, -⟩ := hparts.1.dat
    have h3 := HLET.out.2.2
    rw [HN1.out] at h3
    obtain rfl := hla h3
    have HLC : Hid (∀ W, Below w7.heap.size w7 W → ∀ j, j < n1 → W.cell? ⟨lb, lo + j, none⟩ = some (.int .i64 (wd.loop.getD j 0))) := fun W h j hj => cellB h (hlc j hj)
    have HLM : Hid (n0 ≤ 140737488351232 ∧ n1 ≤ 140737488351232) := ⟨hsm0, hlm⟩
    have HZ8 : Hid (z8 < w7.heap.size) := (Array.getElem?_eq_some_iff.1 y8).1
    have HBT := Lib.hid hb
    clear hx hz hl ha hw hK hG y8 hb hparts hla hlc hsm0 hlm h3
    obtain ⟨⟨d0, d1, d2⟩, q0, q1⟩ := HZC.out w7 (Below.refl _ _)
    go_wp2
    clear d0 d1 d2 q0 q1
    go_loopg [11, 12, 13] n0 (fun gh at' ok i wr => ∃ k : Nat, gh = n0 - k ∧ i = .int .i64 k ∧ k ≤ n0 ∧ ok = .bool true ∧ at' = .int .i64 (r.idxOf (readP a ⟨a.start, -1, topA a⟩ (wd.stem.take k)) : Int) ∧ Below w7.heap.size w7 wr)
    case atStart => exact ⟨0, by omega, rfl, by omega, rfl, by rw [List.take_zero]; show _ = Value.int .i64 (r.idxOf (⟨a.start, -1, topA a⟩ : Pl) : Int); rw [HX0.out.2]; rfl, Below.refl _ _⟩
    case round =>
      obtain ⟨k, hgk, rfl, hk, rfl, rfl, hB⟩ := hrel
      have HGK := Lib.hid hgk
      clear hgk
      have hLM := HLM.out
      obtain ⟨⟨d0, d1, d2⟩, q0, q1⟩ := HZC.out wr hB
      by_cases hlt : k < n0
      case pos => as_aux_lemma =>
        have hks : k < wd.stem.length := by rw [HN0.out]; exact hlt
        obtain ⟨hm1, hm2⟩ := readP_mem HSV.out.1 HSV.out.2.1 HSV.out.2.2 HOB.out (ls := wd.stem.take k) (fun x hx => HLET.out.1 x (List.mem_of_mem_take hx)) HX0.out.1 rfl
        obtain ⟨x0, x1⟩ := HLET.out.1 (wd.stem.getD k 0) (by rw [getD_lt _ _ _ hks]; exact List.getElem_mem hks)
        have hsn := readP_snoc a ⟨a.start, -1, topA a⟩ (wd.stem.take k) (wd.stem.getD k 0)
        rw [show wd.stem.take k ++ [wd.stem.getD k 0] = wd.stem.take (k + 1) by rw [List.take_succ_eq_append_getElem hks, getD_lt _ _ _ hks]] at hsn
        have HSN : Hid (r.idxOf (readP a ⟨a.start, -1, topA a⟩ (wd.stem.take (k + 1))) = r.idxOf (⟨nxL a (readP a ⟨a.start, -1, topA a⟩ (wd.stem.take k)).st (wd.stem.getD k 0), -1, prL a (readP a ⟨a.start, -1, topA a⟩ (wd.stem.take k)).st (wd.stem.getD k 0)⟩ : Pl)) := by rw [hsn]; rfl
        have HS1 : Hid (∀ W, Below w7.heap.size w7 W → _) := fun W hW => HST.out W _ _ hW hm1 hm2 x0 x1
        have HA1 : Hid (∀ W, Below w7.heap.size w7 W → _) := fun W hW => HAT.out W k hW hlt
        clear hsn x0 x1 hm1 hm2
        generalize r.idxOf (⟨nxL a (readP a ⟨a.start, -1, topA a⟩ (wd.stem.take k)).st (wd.stem.getD k 0), -1, prL a (readP a ⟨a.start, -1, topA a⟩ (wd.stem.take k)).st (wd.stem.getD k 0)⟩ : Pl) = pn at *
        generalize prL a (readP a ⟨a.start, -1, topA a⟩ (wd.stem.take k)).st (wd.stem.getD k 0) = pr at *
        generalize r.idxOf (readP a ⟨a.start, -1, topA a⟩ (wd.stem.take k)) = pc at *
        generalize wd.stem.getD k 0 = xl at *
        go_wp2
        have HB0 : Hid (∀ W, Below wr.drew.heap.size wr.drew W → Below wr.heap.size wr W) := fun W h => (Below.drew (B := wr.heap.size) (Below.refl _ _)).trans h
        have HBB : Hid (∀ W, Below wr.drew.heap.size wr.drew W → Below w7.heap.size w7 W) := fun W h => hB.trans ((HB0.out W h).mono hB.size)
        clear hB d0 d1 d2 q0 q1
        refine region_stable0 hmx (RW12 vl g0 g1 g2 R j0 j1 j2 a0 n0 f0 lb lo n1 f1 k pc pn pr xl) (fun vs => { tmps := (_ :: _ :: _ :: _ :: _ :: _ :: _ :: _ :: _ :: _ :: _ :: vs 11 :: vs 12 :: _ :: _ :: _ :: _ :: _ :: _ :: _ :: _ :: _ :: _ :: _ :: _ :: _ :: _ :: _ :: _ :: _ :: _ :: _ :: _ :: _ :: _ :: _ :: _ :: _ :: _ :: _ :: _ :: _ :: _ :: _ :: _ :: _ :: _ :: _ :: _ :: _ :: _ :: _ :: _ :: _ :: _ :: _ :: _ :: _ :: _ :: _ :: _ :: _ :: _ :: vs 7 :: vs 0 :: vs 1 :: vs 2 :: vs 3 :: vs 4 :: vs 5 :: vs 6 :: vs 8 :: vs 9 :: vs 10 :: _ :: _ :: _ :: _ :: _ :: _ :: _ :: _ :: _ :: _ :: _ :: _ :: _ :: _ :: _ :: _ :: _ :: _ :: _ :: _ :: _ :: _ :: _ :: _ :: _ :: _ :: _ :: _ :: _ :: _ :: _ :: _ :: _ :: _ :: _ :: _ :: _ :: _ :: _ :: _ :: _ :: _ :: _ :: _ :: _ :: _ :: _ :: _ :: _ :: _ :: _ :: _ :: _ :: _ :: _ :: _ :: _ :: _ :: _ :: _ :: _ :: _ :: _ :: _ :: _ :: _ :: _ :: _ :: _ :: _ :: _ :: _ :: _ :: _ :: _ :: _ :: _ :: _ :: _ :: _ :: []).toArray, defers := _ }) (fun n => [u64, u65, u66, u67, u68, u69, u70, u63, u71, u72, u73, .int .i64 (pc : Int), .bool true].getD n undef) rfl (by kernel_rfl) (fun _ _ _ _ h _ => h) ?step ?fin
        case step =>
          intro ix o ho
          match ix, ho with
          | 0, ho =>
            obtain rfl := Option.some.inj ho
            intro vs W K hB hD hU hK
            have HK := Lib.hid hK
            clear hK hD hU ho
            dsimp only
            go_simp
            have h := HK.out _ _ (Below.refl _ _) rfl
            simp only [upd, Nat.reduceEqDiff, reduceIte] at h
            exact h
          | 1, ho =>
            obtain rfl := Option.some.inj ho
            intro vs W K hB hD hU hK
            have HK := Lib.hid hK
            obtain ⟨⟨d0, d1, d2⟩, q0, q1⟩ := HZC.out W (HBB.out W hB)
            clear hK hD hU ho
            dsimp only
            go_simp
            have h := HK.out _ _ (Below.refl _ _) rfl
            simp only [upd, Nat.reduceEqDiff, reduceIte] at h
            exact h
          | 2, ho =>
            obtain rfl := Option.some.inj ho
            intro vs W K hB hD hU hK
            have HK := Lib.hid hK
            have u11x : vs 11 = .int .i64 (pc : Int) := hU 11 (by rfl)
            clear hK hD hU ho
            dsimp only
            go_simp
            have h := HK.out _ _ (Below.refl _ _) rfl
            simp only [upd, Nat.reduceEqDiff, reduceIte, u11x] at h
            exact h
          | 3, ho =>
            obtain rfl := Option.some.inj ho
            intro vs W K hB hD hU hK
            have HK := Lib.hid hK
            obtain ⟨⟨d0, d1, d2⟩, q0, q1⟩ := HZC.out W (HBB.out W hB)
            clear hK hD hU ho
            dsimp only
            go_simp
            have h := HK.out _ _ (Below.refl _ _) rfl
            simp only [upd, Nat.reduceEqDiff, reduceIte] at h
            exact h
          | 4, ho =>
            obtain rfl := Option.some.inj ho
            intro vs W K hB hD hU hK
            have HK := Lib.hid hK
            clear hK hD hU ho
            dsimp only
            go_simp
            have h := HK.out _ _ (Below.refl _ _) rfl
            simp only [upd, Nat.reduceEqDiff, reduceIte] at h
            exact h
          | 5, ho =>
            obtain rfl := Option.some.inj ho
            intro vs W K hB hD hU hK
            have HK := Lib.hid hK
            have e3 : vs 3 = .agg #[.slice a0 n0 f0, .slice (some ⟨lb, lo, none⟩) n1 f1] := dep_of hD 3 (by rfl)
            have e4 : vs 4 = .int .i64 (k : Int) := dep_of hD 4 (by rfl)
            clear hK hD hU ho
            dsimp only
            go_simp
            refine (HA1.out W (HBB.out W hB)).mono ?_
            rintro e W' ⟨rfl, hb⟩
            have h := HK.out _ _ hb rfl
            simp only [upd, Nat.reduceEqDiff, reduceIte, e3, e4] at h
            exact h
          | 6, ho =>
            obtain rfl := Option.some.inj ho
            intro vs W K hB hD hU hK
            have HK := Lib.hid hK
            have e0 : vs 0 = vl := dep_of hD 0 (by rfl)
            have e1 : vs 1 = .agg #[.slice g0 R j0, .slice g1 R j1, .slice g2 R j2] := dep_of hD 1 (by rfl)
            have e2 : vs 2 = .int .i64 (pc : Int) := dep_of hD 2 (by rfl)
            have e5 : vs 5 = .int .i64 xl := dep_of hD 5 (by rfl)
            clear hK hD hU ho
            dsimp only
            go_simp
            refine (HS1.out W (HBB.out W hB)).mono ?_
            rintro e W' ⟨rfl, hb⟩
            have h := HK.out _ _ hb rfl
            simp only [upd, Nat.reduceEqDiff, reduceIte, e0, e1, e2, e5] at h
            exact h
          | 7, ho =>
            obtain rfl := Option.some.inj ho
            intro vs W K hB hD hU hK
            have HK := Lib.hid hK
            have e6 : vs 6 = .tuple #[.int .i64 (pn : Int), .int .i64 pr, .bool true] := dep_of hD 6 (by rfl)
            clear hK hD hU ho
            dsimp only
            go_simp
            have h := HK.out _ _ (Below.refl _ _) rfl
            simp only [upd, Nat.reduceEqDiff, reduceIte, e6] at h
            exact h
          | 8, ho =>
            obtain rfl := Option.some.inj ho
            intro vs W K hB hD hU hK
            have HK := Lib.hid hK
            have e7 : vs 7 = .tuple #[.int .i64 (pn : Int), .int .i64 pr, .bool true] := dep_of hD 7 (by rfl)
            clear hK hD hU ho
            dsimp only
            go_simp
            have h := HK.out _ _ (Below.refl _ _) rfl
            simp only [upd, Nat.reduceEqDiff, reduceIte, e7] at h
            exact h
          | 9, ho =>
            obtain rfl := Option.some.inj ho
            intro vs W K hB hD hU hK
            have HK := Lib.hid hK
            have e7 : vs 7 = .tuple #[.int .i64 (pn : Int), .int .i64 pr, .bool true] := dep_of hD 7 (by rfl)
            clear hK hD hU ho
            dsimp only
            go_simp
            have h := HK.out _ _ (Below.refl _ _) rfl
            simp only [upd, Nat.reduceEqDiff, reduceIte, e7] at h
            exact h
          | 10, ho =>
            obtain rfl := Option.some.inj ho
            intro vs W K hB hD hU hK
            have HK := Lib.hid hK
            have e7 : vs 7 = .tuple #[.int .i64 (pn : Int), .int .i64 pr, .bool true] := dep_of hD 7 (by rfl)
            clear hK hD hU ho
            dsimp only
            go_simp
            have h := HK.out _ _ (Below.refl _ _) rfl
            simp only [upd, Nat.reduceEqDiff, reduceIte, e7] at h
            exact h
          | 11, ho =>
            obtain rfl := Option.some.inj ho
            intro vs W K hB hD hU hK
            have HK := Lib.hid hK
            have e8 : vs 8 = .int .i64 (pn : Int) := dep_of hD 8 (by rfl)
            clear hK hD hU ho
            dsimp only
            go_simp
            have h := HK.out _ _ (Below.refl _ _) rfl
            simp only [upd, Nat.reduceEqDiff, reduceIte, e8] at h
            exact h
          | 12, ho =>
            obtain rfl := Option.some.inj ho
            intro vs W K hB hD hU hK
            have HK := Lib.hid hK
            have e10 : vs 10 = .bool true := dep_of hD 10 (by rfl)
            clear hK hD hU ho
            dsimp only
            go_simp
            have h := HK.out _ _ (Below.refl _ _) rfl
            simp only [upd, Nat.reduceEqDiff, reduceIte, e10] at h
            exact h
          | q + 13, ho => exact absurd ho (by simp)
        case fin =>
          intro vs W hB hall
          have e11 : vs 11 = .int .i64 (pn : Int) := hall 11 (by decide)
          have e12 : vs 12 = .bool true := hall 12 (by decide)
          have hbs := HBB.out W hB
          clear hall hB
          rw [e11, e12]
          clear e11 e12
          generalize vs 0 = z0q
          generalize vs 1 = z1q
          generalize vs 2 = z2q
          generalize vs 3 = z3q
          generalize vs 4 = z4q
          generalize vs 5 = z5q
          generalize vs 6 = z6q
          generalize vs 7 = z7q
          generalize vs 8 = z8q
          generalize vs 9 = z9q
          generalize vs 10 = z10q
          clear vs HB0 HBB
          go_wp2
          go_roundg (n0 - (k + 1))
          case measure => have := HGK.out; omega
          case rel => exact ⟨k + 1, rfl, by go_num, by omega, rfl, by rw [HSN.out], hbs⟩
      case neg => as_aux_lemma =>
        obtain rfl : n0 = k := by omega
        have hfull : readP a ⟨a.start, -1, topA a⟩ (wd.stem.take n0) = plN a wd 0 := by rw [← HN0.out, List.take_length]; rfl
        rw [hfull]
        clear hfull hlt hk HGK
        go_wp2
        clear d0 d1 d2 q0 q1
        go_loopg [11, 12, 14] R (fun gh at' ok i wx => ∃ k : Nat, gh = R - k ∧ i = .int .i64 k ∧ k ≤ R ∧ ok = .bool true ∧ at' = .int .i64 (r.idxOf (plN a wd k) : Int) ∧ Below w7.heap.size w7 wx)
        case atStart => exact ⟨0, by omega, rfl, by omega, rfl, rfl, hB⟩
        case round =>
          obtain ⟨k, hgk, rfl, hk, rfl, rfl, hB2⟩ := hrel
          have HGK := Lib.hid hgk
          clear hgk
          have hR3 := HRL.out
          obtain ⟨⟨d0, d1, d2⟩, q0, q1⟩ := HZC.out wr hB2
          by_cases hlt : k < R
          case pos => as_aux_lemma =>
            clear q0
            go_wp2
            clear d0 d1 d2 q1
            go_loopg [11, 12, 15] n1 (fun gh at' ok i wy => ∃ j : Nat, gh = n1 - j ∧ i = .int .i64 j ∧ j ≤ n1 ∧ ok = .bool true ∧ at' = .int .i64 (r.idxOf (readP a (plN a wd k) (wd.loop.take j)) : Int) ∧ Below w7.heap.size w7 wy)
            case atStart => exact ⟨0, by omega, rfl, by omega, rfl, by rw [List.take_zero]; rfl, hB2⟩
            case round =>
              obtain ⟨j, hgj, rfl, hj, rfl, rfl, hB⟩ := hrel
              have HGJ := Lib.hid hgj
              clear hgj
              obtain ⟨⟨d0, d1, d2⟩, q0, q1⟩ := HZC.out wr hB
              by_cases hltj : j < n1
              case pos => as_aux_lemma =>
                have hks : j < wd.loop.length := by rw [HN1.out]; exact hltj
                obtain ⟨hm1, hm2⟩ := readP_mem HSV.out.1 HSV.out.2.1 HSV.out.2.2 HOB.out (ls := wd.loop.take j) (fun x hx => HLET.out.2.1 x (List.mem_of_mem_take hx)) (HME.out k).1 (HME.out k).2
                obtain ⟨x0, x1⟩ := HLET.out.2.1 (wd.loop.getD j 0) (by rw [getD_lt _ _ _ hks]; exact List.getElem_mem hks)
                have hsn := readP_snoc a (plN a wd k) (wd.loop.take j) (wd.loop.getD j 0)
                rw [show wd.loop.take j ++ [wd.loop.getD j 0] = wd.loop.take (j + 1) by rw [List.take_succ_eq_append_getElem hks, getD_lt _ _ _ hks]] at hsn
                have HSN : Hid (r.idxOf (readP a (plN a wd k) (wd.loop.take (j + 1))) = r.idxOf (⟨nxL a (readP a (plN a wd k) (wd.loop.take j)).st (wd.loop.getD j 0), -1, prL a (readP a (plN a wd k) (wd.loop.take j)).st (wd.loop.getD j 0)⟩ : Pl)) := by rw [hsn]; rfl
                have HS1 : Hid (∀ W, Below w7.heap.size w7 W → _) := fun W hW => HST.out W _ _ hW hm1 hm2 x0 x1
                have lc := HLC.out wr hB j hltj
                have hLM := HLM.out
                clear hsn x0 x1 hm1 hm2 hks
                generalize r.idxOf (⟨nxL a (readP a (plN a wd k) (wd.loop.take j)).st (wd.loop.getD j 0), -1, prL a (readP a (plN a wd k) (wd.loop.take j)).st (wd.loop.getD j 0)⟩ : Pl) = pn at *
                generalize prL a (readP a (plN a wd k) (wd.loop.take j)).st (wd.loop.getD j 0) = pr at *
                generalize r.idxOf (readP a (plN a wd k) (wd.loop.take j)) = pc at *
                generalize wd.loop.getD j 0 = xl at *
                go_wp2
                have HB0 : Hid (∀ W, Below wr.drew.heap.size wr.drew W → Below wr.heap.size wr W) := fun W h => (Below.drew (B := wr.heap.size) (Below.refl _ _)).trans h
                have HBB : Hid (∀ W, Below wr.drew.heap.size wr.drew W → Below w7.heap.size w7 W) := fun W h => hB.trans ((HB0.out W h).mono hB.size)
                have HLC1 : Hid (∀ W, Below wr.drew.heap.size wr.drew W → W.cell? ⟨lb, lo + j, none⟩ = some (.int .i64 xl)) := fun W h => cellB (HB0.out W h) lc
                clear lc
                clear hB d0 d1 d2 q0 q1
                refine region_stable0 hmx (RW19 vl g0 g1 g2 R j0 j1 j2 zw lb lo n1 f1 j pc pn pr xl) (fun vs => { tmps := (_ :: _ :: _ :: _ :: _ :: _ :: _ :: _ :: _ :: _ :: _ :: vs 13 :: vs 14 :: _ :: _ :: _ :: _ :: _ :: _ :: _ :: _ :: _ :: _ :: _ :: _ :: _ :: _ :: _ :: _ :: _ :: _ :: _ :: _ :: _ :: _ :: _ :: _ :: _ :: _ :: _ :: _ :: _ :: _ :: _ :: _ :: _ :: _ :: _ :: _ :: _ :: _ :: _ :: _ :: _ :: _ :: _ :: _ :: _ :: _ :: _ :: _ :: _ :: _ :: _ :: _ :: _ :: _ :: _ :: _ :: _ :: _ :: _ :: _ :: _ :: _ :: _ :: _ :: _ :: _ :: _ :: _ :: _ :: _ :: _ :: _ :: _ :: _ :: _ :: _ :: _ :: _ :: _ :: _ :: _ :: vs 9 :: vs 0 :: vs 1 :: vs 2 :: vs 3 :: vs 4 :: vs 5 :: vs 6 :: vs 7 :: vs 8 :: vs 10 :: vs 11 :: vs 12 :: _ :: _ :: _ :: _ :: _ :: _ :: _ :: _ :: _ :: _ :: _ :: _ :: _ :: _ :: _ :: _ :: _ :: _ :: _ :: _ :: _ :: _ :: _ :: _ :: _ :: _ :: _ :: _ :: _ :: _ :: _ :: _ :: _ :: _ :: _ :: _ :: _ :: _ :: _ :: _ :: _ :: _ :: _ :: _ :: _ :: _ :: _ :: []).toArray, defers := _ }) (fun n => [u95, u96, u97, u98, u99, u100, u101, u102, u103, u94, u104, u105, u106, .int .i64 (pc : Int), .bool true].getD n undef) rfl (by kernel_rfl) (fun _ _ _ _ h _ => h) ?step ?fin
                case step =>
                  intro ix o ho
                  match ix, ho with
                  | 0, ho =>
                    obtain rfl := Option.some.inj ho
                    intro vs W K hB hD hU hK
                    have HK := Lib.hid hK
                    clear hK hD hU ho
                    dsimp only
                    go_simp
                    have h := HK.out _ _ (Below.refl _ _) rfl
                    simp only [upd, Nat.reduceEqDiff, reduceIte] at h
                    exact h
                  | 1, ho =>
                    obtain rfl := Option.some.inj ho
                    intro vs W K hB hD hU hK
                    have HK := Lib.hid hK
                    obtain ⟨⟨d0, d1, d2⟩, q0, q1⟩ := HZC.out W (HBB.out W hB)
                    clear hK hD hU ho
                    dsimp only
                    go_simp
                    have h := HK.out _ _ (Below.refl _ _) rfl
                    simp only [upd, Nat.reduceEqDiff, reduceIte] at h
                    exact h
                  | 2, ho =>
                    obtain rfl := Option.some.inj ho
                    intro vs W K hB hD hU hK
                    have HK := Lib.hid hK
                    have u13x : vs 13 = .int .i64 (pc : Int) := hU 13 (by rfl)
                    clear hK hD hU ho
                    dsimp only
                    go_simp
                    have h := HK.out _ _ (Below.refl _ _) rfl
                    simp only [upd, Nat.reduceEqDiff, reduceIte, u13x] at h
                    exact h
                  | 3, ho =>
                    obtain rfl := Option.some.inj ho
                    intro vs W K hB hD hU hK
                    have HK := Lib.hid hK
                    clear hK hD hU ho
                    dsimp only
                    go_simp
                    have h := HK.out _ _ (Below.refl _ _) rfl
                    simp only [upd, Nat.reduceEqDiff, reduceIte] at h
                    exact h
                  | 4, ho =>
                    obtain rfl := Option.some.inj ho
                    intro vs W K hB hD hU hK
                    have HK := Lib.hid hK
                    have e3 : vs 3 = .pointer (some ⟨zw, 1, none⟩) := dep_of hD 3 (by rfl)
                    obtain ⟨⟨d0, d1, d2⟩, q0, q1⟩ := HZC.out W (HBB.out W hB)
                    clear hK hD hU ho
                    dsimp only
                    go_simp
                    have h := HK.out _ _ (Below.refl _ _) rfl
                    simp only [upd, Nat.reduceEqDiff, reduceIte, e3] at h
                    exact h
                  | 5, ho =>
                    obtain rfl := Option.some.inj ho
                    intro vs W K hB hD hU hK
                    have HK := Lib.hid hK
                    clear hK hD hU ho
                    dsimp only
                    go_simp
                    have h := HK.out _ _ (Below.refl _ _) rfl
                    simp only [upd, Nat.reduceEqDiff, reduceIte] at h
                    exact h
                  | 6, ho =>
                    obtain rfl := Option.some.inj ho
                    intro vs W K hB hD hU hK
                    have HK := Lib.hid hK
                    have e4 : vs 4 = .slice (some ⟨lb, lo, none⟩) n1 f1 := dep_of hD 4 (by rfl)
                    have e5 : vs 5 = .int .i64 (j : Int) := dep_of hD 5 (by rfl)
                    clear hK hD hU ho
                    dsimp only
                    go_simp
                    have h := HK.out _ _ (Below.refl _ _) rfl
                    simp only [upd, Nat.reduceEqDiff, reduceIte, e4, e5] at h
                    exact h
                  | 7, ho =>
                    obtain rfl := Option.some.inj ho
                    intro vs W K hB hD hU hK
                    have HK := Lib.hid hK
                    have e6 : vs 6 = .pointer (some ⟨lb, lo + j, none⟩) := dep_of hD 6 (by rfl)
                    have lc := HLC1.out W hB
                    clear hK hD hU ho
                    dsimp only
                    go_simp
                    have h := HK.out _ _ (Below.refl _ _) rfl
                    simp only [upd, Nat.reduceEqDiff, reduceIte, e6] at h
                    exact h
                  | 8, ho =>
                    obtain rfl := Option.some.inj ho
                    intro vs W K hB hD hU hK
                    have HK := Lib.hid hK
                    have e0 : vs 0 = vl := dep_of hD 0 (by rfl)
                    have e1 : vs 1 = .agg #[.slice g0 R j0, .slice g1 R j1, .slice g2 R j2] := dep_of hD 1 (by rfl)
                    have e2 : vs 2 = .int .i64 (pc : Int) := dep_of hD 2 (by rfl)
                    have e7 : vs 7 = .int .i64 xl := dep_of hD 7 (by rfl)
                    clear hK hD hU ho
                    dsimp only
                    go_simp
                    refine (HS1.out W (HBB.out W hB)).mono ?_
                    rintro e W' ⟨rfl, hb⟩
                    have h := HK.out _ _ hb rfl
                    simp only [upd, Nat.reduceEqDiff, reduceIte, e0, e1, e2, e7] at h
                    exact h
                  | 9, ho =>
                    obtain rfl := Option.some.inj ho
                    intro vs W K hB hD hU hK
                    have HK := Lib.hid hK
                    have e8 : vs 8 = .tuple #[.int .i64 (pn : Int), .int .i64 pr, .bool true] := dep_of hD 8 (by rfl)
                    clear hK hD hU ho
                    dsimp only
                    go_simp
                    have h := HK.out _ _ (Below.refl _ _) rfl
                    simp only [upd, Nat.reduceEqDiff, reduceIte, e8] at h
                    exact h
                  | 10, ho =>
                    obtain rfl := Option.some.inj ho
                    intro vs W K hB hD hU hK
                    have HK := Lib.hid hK
                    have e9 : vs 9 = .tuple #[.int .i64 (pn : Int), .int .i64 pr, .bool true] := dep_of hD 9 (by rfl)
                    clear hK hD hU ho
                    dsimp only
                    go_simp
                    have h := HK.out _ _ (Below.refl _ _) rfl
                    simp only [upd, Nat.reduceEqDiff, reduceIte, e9] at h
                    exact h
                  | 11, ho =>
                    obtain rfl := Option.some.inj ho
                    intro vs W K hB hD hU hK
                    have HK := Lib.hid hK
                    have e9 : vs 9 = .tuple #[.int .i64 (pn : Int), .int .i64 pr, .bool true] := dep_of hD 9 (by rfl)
                    clear hK hD hU ho
                    dsimp only
                    go_simp
                    have h := HK.out _ _ (Below.refl _ _) rfl
                    simp only [upd, Nat.reduceEqDiff, reduceIte, e9] at h
                    exact h
                  | 12, ho =>
                    obtain rfl := Option.some.inj ho
                    intro vs W K hB hD hU hK
                    have HK := Lib.hid hK
                    have e9 : vs 9 = .tuple #[.int .i64 (pn : Int), .int .i64 pr, .bool true] := dep_of hD 9 (by rfl)
                    clear hK hD hU ho
                    dsimp only
                    go_simp
                    have h := HK.out _ _ (Below.refl _ _) rfl
                    simp only [upd, Nat.reduceEqDiff, reduceIte, e9] at h
                    exact h
                  | 13, ho =>
                    obtain rfl := Option.some.inj ho
                    intro vs W K hB hD hU hK
                    have HK := Lib.hid hK
                    have e10 : vs 10 = .int .i64 (pn : Int) := dep_of hD 10 (by rfl)
                    clear hK hD hU ho
                    dsimp only
                    go_simp
                    have h := HK.out _ _ (Below.refl _ _) rfl
                    simp only [upd, Nat.reduceEqDiff, reduceIte, e10] at h
                    exact h
                  | 14, ho =>
                    obtain rfl := Option.some.inj ho
                    intro vs W K hB hD hU hK
                    have HK := Lib.hid hK
                    have e12 : vs 12 = .bool true := dep_of hD 12 (by rfl)
                    clear hK hD hU ho
                    dsimp only
                    go_simp
                    have h := HK.out _ _ (Below.refl _ _) rfl
                    simp only [upd, Nat.reduceEqDiff, reduceIte, e12] at h
                    exact h
                  | q + 15, ho => exact absurd ho (by simp)
                case fin =>
                  intro vs W hB hall
                  have e13 : vs 13 = .int .i64 (pn : Int) := hall 13 (by decide)
                  have e14 : vs 14 = .bool true := hall 14 (by decide)
                  have hbs := HBB.out W hB
                  clear hall hB
                  rw [e13, e14]
                  clear e13 e14
                  generalize vs 0 = z0q
                  generalize vs 1 = z1q
                  generalize vs 2 = z2q
                  generalize vs 3 = z3q
                  generalize vs 4 = z4q
                  generalize vs 5 = z5q
                  generalize vs 6 = z6q
                  generalize vs 7 = z7q
                  generalize vs 8 = z8q
                  generalize vs 9 = z9q
                  generalize vs 10 = z10q
                  generalize vs 11 = z11q
                  generalize vs 12 = z12q
                  clear vs HB0 HBB
                  go_wp2
                  go_roundg (n1 - (j + 1))
                  case measure => have := HGJ.out; omega
                  case rel => exact ⟨j + 1, rfl, by go_num, by omega, rfl, by rw [HSN.out], hbs⟩
              case neg => as_aux_lemma =>
                obtain rfl : n1 = j := by omega
                have hfull : readP a (plN a wd k) (wd.loop.take n1) = plN a wd (k + 1) := by rw [← HN1.out, List.take_length]; rfl
                rw [hfull]
                clear hfull
                go_wp2
                go_roundg (R - (k + 1))
                case measure => have := HGK.out; omega
                case rel => exact ⟨k + 1, rfl, by go_num, by omega, rfl, rfl, hB⟩
          case neg => as_aux_lemma =>
            obtain rfl : R = k := by omega
            obtain ⟨fr, hfr⟩ : ∃ fr, r.idxOf (plN a wd R) = fr := ⟨_, rfl⟩
            have HFR := Lib.hid hfr
            rw [hfr]
            clear hfr hlt hk HGK
            go_wp2
            clear d0 d1 d2 q0 q1
            go_loopg [11, 12, 16, 18] (D + 1) (fun gh at' ok ls ar wx => ∃ k : Nat, gh = D + 1 - k ∧ k ≤ D ∧ ok = .bool true ∧ at' = .int .i64 (r.idxOf (plN a wd (R + k)) : Int) ∧ ls = .int .i64 (LM a wd R k) ∧ ar = .bool (decide (k < D)) ∧ Below w7.heap.size w7 wx)
            case atStart => exact ⟨0, by omega, by omega, rfl, by rw [Nat.add_zero, HFR.out], rfl, by rw [decide_eq_true HDP.out.1], hB2⟩
            case round =>
              obtain ⟨k, hgk, hk, rfl, rfl, rfl, rfl, hB3⟩ := hrel
              have HGK := Lib.hid hgk
              clear hgk
              obtain ⟨⟨d0, d1, d2⟩, q0, q1⟩ := HZC.out wr hB3
              by_cases hlt : k < D
              case pos => as_aux_lemma =>
                rw [decide_eq_true hlt]
                go_wp2
                clear d0 d1 d2 q0 q1
                go_loopg [11, 12, 16, 19] n1 (fun gh at' ok ls i wy => ∃ j : Nat, gh = n1 - j ∧ i = .int .i64 j ∧ j ≤ n1 ∧ ok = .bool true ∧ at' = .int .i64 (r.idxOf (readP a (plN a wd (R + k)) (wd.loop.take j)) : Int) ∧ ls = .int .i64 (readF a (stN a wd (R + k), LM a wd R k) (wd.loop.take j)).2 ∧ Below w7.heap.size w7 wy)
                case atStart => exact ⟨0, by omega, rfl, by omega, rfl, by rw [List.take_zero]; rfl, by rw [List.take_zero]; rfl, hB3⟩
                case round =>
                  obtain ⟨j, hgj, rfl, hj, rfl, rfl, rfl, hB⟩ := hrel
                  have HGJ := Lib.hid hgj
                  clear hgj
                  obtain ⟨⟨d0, d1, d2⟩, q0, q1⟩ := HZC.out wr hB
                  by_cases hltj : j < n1
                  case pos => as_aux_lemma =>
                    have hks : j < wd.loop.length := by rw [HN1.out]; exact hltj
                    obtain ⟨hm1, hm2⟩ := readP_mem HSV.out.1 HSV.out.2.1 HSV.out.2.2 HOB.out (ls := wd.loop.take j) (fun x hx => HLET.out.2.1 x (List.mem_of_mem_take hx)) (HME.out (R + k)).1 (HME.out (R + k)).2
                    obtain ⟨x0, x1⟩ := HLET.out.2.1 (wd.loop.getD j 0) (by rw [getD_lt _ _ _ hks]; exact List.getElem_mem hks)
                    have hsn := readP_snoc a (plN a wd (R + k)) (wd.loop.take j) (wd.loop.getD j 0)
                    rw [show wd.loop.take j ++ [wd.loop.getD j 0] = wd.loop.take (j + 1) by rw [List.take_succ_eq_append_getElem hks, getD_lt _ _ _ hks]] at hsn
                    have HSN : Hid (r.idxOf (readP a (plN a wd (R + k)) (wd.loop.take (j + 1))) = r.idxOf (⟨nxL a (readP a (plN a wd (R + k)) (wd.loop.take j)).st (wd.loop.getD j 0), -1, prL a (readP a (plN a wd (R + k)) (wd.loop.take j)).st (wd.loop.getD j 0)⟩ : Pl)) := by rw [hsn]; rfl
                    have hls := readF_snoc a (stN a wd (R + k), LM a wd R k) (wd.loop.take j) (wd.loop.getD j 0)
                    rw [show wd.loop.take j ++ [wd.loop.getD j 0] = wd.loop.take (j + 1) by rw [List.take_succ_eq_append_getElem hks, getD_lt _ _ _ hks], ← plN_st, ← readP_st] at hls
                    have HLS : Hid ((readF a (stN a wd (R + k), LM a wd R k) (wd.loop.take (j + 1))).2 = min (readF a (stN a wd (R + k), LM a wd R k) (wd.loop.take j)).2 (prL a (readP a (plN a wd (R + k)) (wd.loop.take j)).st (wd.loop.getD j 0))) := by
                      show _ = _
                      rw [← plN_st, hls]
                    clear hls
                    have HS1 : Hid (∀ W, Below w7.heap.size w7 W → _) := fun W hW => HST.out W _ _ hW hm1 hm2 x0 x1
                    have lc := HLC.out wr hB j hltj
                    have hLM := HLM.out
                    clear hsn x0 x1 hm1 hm2 hks
                    generalize r.idxOf (⟨nxL a (readP a (plN a wd (R + k)) (wd.loop.take j)).st (wd.loop.getD j 0), -1, prL a (readP a (plN a wd (R + k)) (wd.loop.take j)).st (wd.loop.getD j 0)⟩ : Pl) = pn at *
                    generalize prL a (readP a (plN a wd (R + k)) (wd.loop.take j)).st (wd.loop.getD j 0) = pr at *
                    generalize r.idxOf (readP a (plN a wd (R + k)) (wd.loop.take j)) = pc at *
                    generalize wd.loop.getD j 0 = xl at *
                    generalize (readF a (stN a wd (R + k), LM a wd R k) (wd.loop.take j)).2 = lsv at *
                    go_wp2
                    have HB0 : Hid (∀ W, Below wr.drew.heap.size wr.drew W → Below wr.heap.size wr W) := fun W h => (Below.drew (B := wr.heap.size) (Below.refl _ _)).trans h
                    have HBB : Hid (∀ W, Below wr.drew.heap.size wr.drew W → Below w7.heap.size w7 W) := fun W h => hB.trans ((HB0.out W h).mono hB.size)
                    have HLC1 : Hid (∀ W, Below wr.drew.heap.size wr.drew W → W.cell? ⟨lb, lo + j, none⟩ = some (.int .i64 xl)) := fun W h => cellB (HB0.out W h) lc
                    clear lc
                    clear hB d0 d1 d2 q0 q1
                    refine region_stable0 hmx (RW29 vl g0 g1 g2 R j0 j1 j2 zw lb lo n1 f1 j pc pn pr xl) (fun vs => { tmps := (_ :: _ :: _ :: _ :: _ :: _ :: _ :: _ :: _ :: _ :: _ :: vs 13 :: vs 15 :: _ :: _ :: _ :: _ :: _ :: _ :: _ :: vs 14 :: _ :: _ :: _ :: _ :: _ :: _ :: _ :: _ :: _ :: _ :: _ :: _ :: _ :: _ :: _ :: _ :: _ :: _ :: _ :: _ :: _ :: _ :: _ :: _ :: _ :: _ :: _ :: _ :: _ :: _ :: _ :: _ :: _ :: _ :: _ :: _ :: _ :: _ :: _ :: _ :: _ :: _ :: _ :: _ :: _ :: _ :: _ :: _ :: _ :: _ :: _ :: _ :: _ :: _ :: _ :: _ :: _ :: _ :: _ :: _ :: _ :: _ :: _ :: _ :: _ :: _ :: _ :: _ :: _ :: _ :: _ :: _ :: _ :: _ :: _ :: _ :: _ :: _ :: _ :: _ :: _ :: _ :: _ :: _ :: _ :: _ :: _ :: _ :: _ :: _ :: _ :: _ :: _ :: _ :: _ :: _ :: _ :: _ :: _ :: _ :: _ :: _ :: _ :: _ :: vs 9 :: vs 0 :: vs 1 :: vs 2 :: vs 3 :: vs 4 :: vs 5 :: vs 6 :: vs 7 :: vs 8 :: vs 10 :: vs 11 :: vs 12 :: _ :: _ :: _ :: _ :: _ :: _ :: _ :: _ :: _ :: _ :: _ :: _ :: _ :: _ :: _ :: _ :: []).toArray, defers := _ }) (fun n => [u126, u127, u128, u129, u130, u131, u132, u133, u134, u125, u135, u136, u137, .int .i64 (pc : Int), .int .i64 0, .bool true].getD n undef) rfl (by kernel_rfl) (fun _ _ _ _ h _ => h) ?step ?fin
                    case step =>
                      intro ix o ho
                      match ix, ho with
                      | 0, ho =>
                        obtain rfl := Option.some.inj ho
                        intro vs W K hB hD hU hK
                        have HK := Lib.hid hK
                        clear hK hD hU ho
                        dsimp only
                        go_simp
                        have h := HK.out _ _ (Below.refl _ _) rfl
                        simp only [upd, Nat.reduceEqDiff, reduceIte] at h
                        exact h
                      | 1, ho =>
                        obtain rfl := Option.some.inj ho
                        intro vs W K hB hD hU hK
                        have HK := Lib.hid hK
                        obtain ⟨⟨d0, d1, d2⟩, q0, q1⟩ := HZC.out W (HBB.out W hB)
                        clear hK hD hU ho
                        dsimp only
                        go_simp
                        have h := HK.out _ _ (Below.refl _ _) rfl
                        simp only [upd, Nat.reduceEqDiff, reduceIte] at h
                        exact h
                      | 2, ho =>
                        obtain rfl := Option.some.inj ho
                        intro vs W K hB hD hU hK
                        have HK := Lib.hid hK
                        have u13x : vs 13 = .int .i64 (pc : Int) := hU 13 (by rfl)
                        clear hK hD hU ho
                        dsimp only
                        go_simp
                        have h := HK.out _ _ (Below.refl _ _) rfl
                        simp only [upd, Nat.reduceEqDiff, reduceIte, u13x] at h
                        exact h
                      | 3, ho =>
                        obtain rfl := Option.some.inj ho
                        intro vs W K hB hD hU hK
                        have HK := Lib.hid hK
                        clear hK hD hU ho
                        dsimp only
                        go_simp
                        have h := HK.out _ _ (Below.refl _ _) rfl
                        simp only [upd, Nat.reduceEqDiff, reduceIte] at h
                        exact h
                      | 4, ho =>
                        obtain rfl := Option.some.inj ho
                        intro vs W K hB hD hU hK
                        have HK := Lib.hid hK
                        have e3 : vs 3 = .pointer (some ⟨zw, 1, none⟩) := dep_of hD 3 (by rfl)
                        obtain ⟨⟨d0, d1, d2⟩, q0, q1⟩ := HZC.out W (HBB.out W hB)
                        clear hK hD hU ho
                        dsimp only
                        go_simp
                        have h := HK.out _ _ (Below.refl _ _) rfl
                        simp only [upd, Nat.reduceEqDiff, reduceIte, e3] at h
                        exact h
                      | 5, ho =>
                        obtain rfl := Option.some.inj ho
                        intro vs W K hB hD hU hK
                        have HK := Lib.hid hK
                        clear hK hD hU ho
                        dsimp only
                        go_simp
                        have h := HK.out _ _ (Below.refl _ _) rfl
                        simp only [upd, Nat.reduceEqDiff, reduceIte] at h
                        exact h
                      | 6, ho =>
                        obtain rfl := Option.some.inj ho
                        intro vs W K hB hD hU hK
                        have HK := Lib.hid hK
                        have e4 : vs 4 = .slice (some ⟨lb, lo, none⟩) n1 f1 := dep_of hD 4 (by rfl)
                        have e5 : vs 5 = .int .i64 (j : Int) := dep_of hD 5 (by rfl)
                        clear hK hD hU ho
                        dsimp only
                        go_simp
                        have h := HK.out _ _ (Below.refl _ _) rfl
                        simp only [upd, Nat.reduceEqDiff, reduceIte, e4, e5] at h
                        exact h
                      | 7, ho =>
                        obtain rfl := Option.some.inj ho
                        intro vs W K hB hD hU hK
                        have HK := Lib.hid hK
                        have e6 : vs 6 = .pointer (some ⟨lb, lo + j, none⟩) := dep_of hD 6 (by rfl)
                        have lc := HLC1.out W hB
                        clear hK hD hU ho
                        dsimp only
                        go_simp
                        have h := HK.out _ _ (Below.refl _ _) rfl
                        simp only [upd, Nat.reduceEqDiff, reduceIte, e6] at h
                        exact h
                      | 8, ho =>
                        obtain rfl := Option.some.inj ho
                        intro vs W K hB hD hU hK
                        have HK := Lib.hid hK
                        have e0 : vs 0 = vl := dep_of hD 0 (by rfl)
                        have e1 : vs 1 = .agg #[.slice g0 R j0, .slice g1 R j1, .slice g2 R j2] := dep_of hD 1 (by rfl)
                        have e2 : vs 2 = .int .i64 (pc : Int) := dep_of hD 2 (by rfl)
                        have e7 : vs 7 = .int .i64 xl := dep_of hD 7 (by rfl)
                        clear hK hD hU ho
                        dsimp only
                        go_simp
                        refine (HS1.out W (HBB.out W hB)).mono ?_
                        rintro e W' ⟨rfl, hb⟩
                        have h := HK.out _ _ hb rfl
                        simp only [upd, Nat.reduceEqDiff, reduceIte, e0, e1, e2, e7] at h
                        exact h
                      | 9, ho =>
                        obtain rfl := Option.some.inj ho
                        intro vs W K hB hD hU hK
                        have HK := Lib.hid hK
                        have e8 : vs 8 = .tuple #[.int .i64 (pn : Int), .int .i64 pr, .bool true] := dep_of hD 8 (by rfl)
                        clear hK hD hU ho
                        dsimp only
                        go_simp
                        have h := HK.out _ _ (Below.refl _ _) rfl
                        simp only [upd, Nat.reduceEqDiff, reduceIte, e8] at h
                        exact h
                      | 10, ho =>
                        obtain rfl := Option.some.inj ho
                        intro vs W K hB hD hU hK
                        have HK := Lib.hid hK
                        have e9 : vs 9 = .tuple #[.int .i64 (pn : Int), .int .i64 pr, .bool true] := dep_of hD 9 (by rfl)
                        clear hK hD hU ho
                        dsimp only
                        go_simp
                        have h := HK.out _ _ (Below.refl _ _) rfl
                        simp only [upd, Nat.reduceEqDiff, reduceIte, e9] at h
                        exact h
                      | 11, ho =>
                        obtain rfl := Option.some.inj ho
                        intro vs W K hB hD hU hK
                        have HK := Lib.hid hK
                        have e9 : vs 9 = .tuple #[.int .i64 (pn : Int), .int .i64 pr, .bool true] := dep_of hD 9 (by rfl)
                        clear hK hD hU ho
                        dsimp only
                        go_simp
                        have h := HK.out _ _ (Below.refl _ _) rfl
                        simp only [upd, Nat.reduceEqDiff, reduceIte, e9] at h
                        exact h
                      | 12, ho =>
                        obtain rfl := Option.some.inj ho
                        intro vs W K hB hD hU hK
                        have HK := Lib.hid hK
                        have e9 : vs 9 = .tuple #[.int .i64 (pn : Int), .int .i64 pr, .bool true] := dep_of hD 9 (by rfl)
                        clear hK hD hU ho
                        dsimp only
                        go_simp
                        have h := HK.out _ _ (Below.refl _ _) rfl
                        simp only [upd, Nat.reduceEqDiff, reduceIte, e9] at h
                        exact h
                      | 13, ho =>
                        obtain rfl := Option.some.inj ho
                        intro vs W K hB hD hU hK
                        have HK := Lib.hid hK
                        have e10 : vs 10 = .int .i64 (pn : Int) := dep_of hD 10 (by rfl)
                        clear hK hD hU ho
                        dsimp only
                        go_simp
                        have h := HK.out _ _ (Below.refl _ _) rfl
                        simp only [upd, Nat.reduceEqDiff, reduceIte, e10] at h
                        exact h
                      | 14, ho =>
                        obtain rfl := Option.some.inj ho
                        intro vs W K hB hD hU hK
                        have HK := Lib.hid hK
                        have e11 : vs 11 = .int .i64 pr := dep_of hD 11 (by rfl)
                        clear hK hD hU ho
                        dsimp only
                        go_simp
                        have h := HK.out _ _ (Below.refl _ _) rfl
                        simp only [upd, Nat.reduceEqDiff, reduceIte, e11] at h
                        exact h
                      | 15, ho =>
                        obtain rfl := Option.some.inj ho
                        intro vs W K hB hD hU hK
                        have HK := Lib.hid hK
                        have e12 : vs 12 = .bool true := dep_of hD 12 (by rfl)
                        clear hK hD hU ho
                        dsimp only
                        go_simp
                        have h := HK.out _ _ (Below.refl _ _) rfl
                        simp only [upd, Nat.reduceEqDiff, reduceIte, e12] at h
                        exact h
                      | q + 16, ho => exact absurd ho (by simp)
                    case fin =>
                      intro vs W hB hall
                      have e13 : vs 13 = .int .i64 (pn : Int) := hall 13 (by decide)
                      have e14 : vs 14 = .int .i64 pr := hall 14 (by decide)
                      have e15 : vs 15 = .bool true := hall 15 (by decide)
                      have hbs := HBB.out W hB
                      clear hall hB
                      rw [e13, e14, e15]
                      clear e13 e14 e15
                      generalize vs 0 = z0q
                      generalize vs 1 = z1q
                      generalize vs 2 = z2q
                      generalize vs 3 = z3q
                      generalize vs 4 = z4q
                      generalize vs 5 = z5q
                      generalize vs 6 = z6q
                      generalize vs 7 = z7q
                      generalize vs 8 = z8q
                      generalize vs 9 = z9q
                      generalize vs 10 = z10q
                      generalize vs 11 = z11q
                      generalize vs 12 = z12q
                      clear vs HB0 HBB
                      go_wp2
                      all_goals
                        go_roundg (n1 - (j + 1))
                        case measure => have := HGJ.out; omega
                        case rel => exact ⟨j + 1, rfl, by go_num, by omega, rfl, by rw [HSN.out], by rw [HLS.out]; congr 1; first | omega | (simp; omega), hbs⟩
                  case neg => as_aux_lemma =>
                    obtain rfl : n1 = j := by omega
                    have hfull : readP a (plN a wd (R + k)) (wd.loop.take n1) = plN a wd (R + (k + 1)) := by rw [← HN1.out, List.take_length]; rfl
                    have hful2 : (readF a (stN a wd (R + k), LM a wd R k) (wd.loop.take n1)).2 = LM a wd R (k + 1) := by rw [← HN1.out, List.take_length]; rfl
                    rw [hfull, hful2]
                    have HPE : Hid ((k + 1 < D → r.idxOf (plN a wd (R + (k + 1))) ≠ fr) ∧ (k + 1 = D → r.idxOf (plN a wd (R + (k + 1))) = fr)) := by
                      refine ⟨fun h e => ?_, fun h => by rw [h, HDP.out.2.2]; exact HFR.out⟩
                      rw [← HFR.out] at e
                      exact HDM.out (k + 1) (by omega) h (HIJ.out _ _ (HME.out _).1 (HME.out _).1 e)
                    clear hfull hful2
                    generalize hpn : r.idxOf (plN a wd (R + (k + 1))) = pn at *
                    generalize hlm : LM a wd R (k + 1) = lm1 at *
                    have HPN := Lib.hid hpn
                    have HLM1 := Lib.hid hlm
                    clear hpn hlm
                    by_cases hkD : k + 1 < D
                    · have hne := HPE.out.1 hkD
                      have h1 : ((pn : Int) != (fr : Int)) = true := by simp; omega
                      clear hne
                      go_wp2
                      go_roundg (D + 1 - (k + 1))
                      case measure => have := HGK.out; omega
                      case rel => exact ⟨k + 1, rfl, by omega, rfl, by rw [HPN.out], by rw [HLM1.out], by rw [decide_eq_true hkD], hB⟩
                    · have heq := HPE.out.2 (by omega)
                      have h1 : ((pn : Int) != (fr : Int)) = false := by rw [heq]; simp
                      clear heq
                      go_wp2
                      go_roundg (D + 1 - (k + 1))
                      case measure => have := HGK.out; omega
                      case rel => exact ⟨k + 1, rfl, by omega, rfl, by rw [HPN.out], by rw [HLM1.out], by rw [decide_eq_false hkD], hB⟩
              case neg => as_aux_lemma =>
                obtain rfl : D = k := by omega
                rw [decide_eq_false hlt]
                generalize LM a wd R D = lm at *
                have hbb : ((Int.tmod lm 2 == 0) == (Int.tmod lm 2 == 0)) = true := by simp
                obtain ⟨c0, c1, c2, c3⟩ := HXC.out wr hB3
                go_wp2_with fail
                refine (HWD.out wr hB3).mono ?_
                rintro e w11 ⟨rfl, hb11⟩
                go_wp2
                go_ret
                exact HE.out _ (HBT.out.trans ((hB3.trans (hb11.mono hB3.size)).mono HBT.out.size))

end Go.Proofs.YtjadeffdcbchnaaDoor
