/- The law ArenaPlaces: its walk. -/
import Derived.Test.YtjadeffdcbchnaaDoorAr40
import Derived.Test.YtjadeffdcbchnaaDoorAr41
import Derived.Test.YtjadeffdcbchnaaDoorAr23
namespace Go.Proofs.YtjadeffdcbchnaaDoor
open Go.RowKit

def RP7 (a : Au) (R z6 za pb po cp : Nat) (g0 g1 g2 : Option Addr) (j0 j1 j2 : Nat) (p2 p3 : Option Addr) (n2 k2 n3 k3 : Nat) (ix : Nat) (u : Value) (_ : World) : Prop :=
  match ix with
  | 0 => u = .agg #[.slice g0 R j0, .slice g1 R j1, .slice g2 R j2]
  | 1 => u = .bool true
  | 2 => u = .bool false
  | 3 => u = .bool false
  | 4 => u = .slice (some ⟨pb, po, none⟩) R cp
  | 5 => u = .int .i64 (R : Int)
  | 6 => u = .pointer (some ⟨z6, 0, none⟩)
  | 7 => u = .slice g0 R j0
  | 8 => u = .int .i64 (R : Int)
  | 9 => u = .bool false
  | 10 => u = .bool false
  | 11 => u = .bool false
  | 12 => u = .slice (some ⟨pb, po, none⟩) R cp
  | 13 => u = .int .i64 (R : Int)
  | 14 => u = .bool false
  | 15 => u = .bool false
  | 16 => u = .bool false
  | 17 => u = .slice (some ⟨pb, po, none⟩) R cp
  | 18 => u = .pointer (some ⟨pb, po, none⟩)
  | 19 => u = .agg #[.int .i64 a.start, .int .i64 (-1), .int .i64 (topA a)]
  | 20 => u = .pointer (some ⟨za, 1, none⟩)
  | 21 => u = .int .i64 a.start
  | 22 => u = .agg #[.int .i64 a.letters, .int .i64 a.start, .slice p2 n2 k2, .slice p3 n3 k3]
  | 23 => u = .int .i64 (topA a)
  | 24 => u = .agg #[.int .i64 a.start, .int .i64 (-1), .int .i64 (topA a)]
  | 25 => u = .bool false
  | 26 => u = .bool false
  | _ => True
def RP19a (a : Au) (l : List Sig) (vl : Value) (y : Pl) (k sk R z6 za zx _pb _po _cp ob oo qb qo : Nat) (pk : Int) (j0 j1 : Nat) (p2 p3 : Option Addr) (n2 k2 n3 k3 : Nat) (ix : Nat) (u : Value) (_ : World) : Prop :=
  match ix with
  | 0 => u = .int .i64 (k : Int)
  | 1 => u = .int .i64 (sk : Int)
  | 2 => u = .bool false
  | 3 => u = .bool false
  | 4 => u = .pointer (some ⟨zx, 0, none⟩)
  | 5 => u = .int .i64 y.st
  | 6 => u = .bool false
  | 7 => u = .bool false
  | 8 => u = .bool false
  | 9 => u = .pointer (some ⟨zx, 0, none⟩)
  | 10 => u = .int .i64 y.st
  | 11 => u = .pointer (some ⟨za, 2, none⟩)
  | 12 => u = .slice p2 n2 k2
  | 13 => u = .int .i64 (n2 : Int)
  | 14 => u = .bool false
  | 15 => u = .bool false
  | 16 => u = .bool false
  | 17 => u = .pointer (some ⟨zx, 1, none⟩)
  | 18 => u = .int .i64 y.inn
  | 19 => u = .bool false
  | 20 => u = .bool false
  | 21 => u = .bool false
  | 22 => u = .pointer (some ⟨zx, 1, none⟩)
  | 23 => u = .int .i64 y.inn
  | 24 => u = vl
  | 25 => u = .int .i64 (inputsI l)
  | 26 => u = .bool false
  | 27 => u = .bool false
  | 28 => u = .bool false
  | 29 => u = .pointer (some ⟨z6, 0, none⟩)
  | 30 => u = .slice (some ⟨ob, oo, none⟩) R j0
  | 31 => u = .int .i64 (k : Int)
  | 32 => u = .pointer (some ⟨ob, oo + k, none⟩)
  | 33 => u = .int .i64 0
  | 34 => u = .bool false
  | 35 => u = .pointer (some ⟨zx, 1, none⟩)
  | 36 => u = .int .i64 y.inn
  | 37 => u = .bool false
  | 38 => u = .bool false
  | 39 => u = .bool false
  | 40 => u = .bool false
  | 41 => u = .pointer (some ⟨zx, 1, none⟩)
  | 42 => u = .int .i64 y.inn
  | 43 => u = .bool false
  | 44 => u = .bool false
  | 45 => u = undef
  | 46 => u = undef
  | 47 => u = undef
  | 48 => u = undef
  | 49 => u = undef
  | 50 => u = undef
  | 51 => u = undef
  | 52 => u = undef
  | 53 => u = .bool false
  | 54 => u = .bool false
  | 55 => u = .bool false
  | 56 => u = .pointer (some ⟨zx, 1, none⟩)
  | 57 => u = .int .i64 y.inn
  | 58 => u = .bool true
  | 59 => u = .bool true
  | 60 => u = .pointer (some ⟨zx, 2, none⟩)
  | 61 => u = .int .i64 y.pr
  | 62 => u = .bool false
  | 63 => u = .bool false
  | 64 => u = .pointer (some ⟨z6, 1, none⟩)
  | 65 => u = .slice (some ⟨qb, qo, none⟩) R j1
  | 66 => u = .int .i64 (k : Int)
  | 67 => u = .pointer (some ⟨qb, qo + k, none⟩)
  | 68 => u = .int .i64 pk
  | 69 => u = .agg #[.int .i64 a.letters, .int .i64 a.start, .slice p2 n2 k2, .slice p3 n3 k3]
  | 70 => u = .int .i64 (topA a)
  | 71 => u = .bool false
  | 72 => u = .bool false
  | 73 => u = .bool false
  | 74 => u = .bool false
  | _ => True
def RP19b (_a : Au) (l : List Sig) (vl : Value) (y : Pl) (k sk R z6 za zx _pb _po _cp ob oo qb qo : Nat) (pk : Int) (j0 j1 : Nat) (p2 _p3 : Option Addr) (n2 k2 _n3 _k3 : Nat) (ix : Nat) (u : Value) (_ : World) : Prop :=
  match ix with
  | 0 => u = .int .i64 (k : Int)
  | 1 => u = .int .i64 (sk : Int)
  | 2 => u = .bool false
  | 3 => u = .bool false
  | 4 => u = .pointer (some ⟨zx, 0, none⟩)
  | 5 => u = .int .i64 y.st
  | 6 => u = .bool false
  | 7 => u = .bool false
  | 8 => u = .bool false
  | 9 => u = .pointer (some ⟨zx, 0, none⟩)
  | 10 => u = .int .i64 y.st
  | 11 => u = .pointer (some ⟨za, 2, none⟩)
  | 12 => u = .slice p2 n2 k2
  | 13 => u = .int .i64 (n2 : Int)
  | 14 => u = .bool false
  | 15 => u = .bool false
  | 16 => u = .bool false
  | 17 => u = .pointer (some ⟨zx, 1, none⟩)
  | 18 => u = .int .i64 y.inn
  | 19 => u = .bool false
  | 20 => u = .bool false
  | 21 => u = .bool false
  | 22 => u = .pointer (some ⟨zx, 1, none⟩)
  | 23 => u = .int .i64 y.inn
  | 24 => u = vl
  | 25 => u = .int .i64 (inputsI l)
  | 26 => u = .bool false
  | 27 => u = .bool false
  | 28 => u = .bool false
  | 29 => u = .pointer (some ⟨z6, 0, none⟩)
  | 30 => u = .slice (some ⟨ob, oo, none⟩) R j0
  | 31 => u = .int .i64 (k : Int)
  | 32 => u = .pointer (some ⟨ob, oo + k, none⟩)
  | 33 => u = .int .i64 1
  | 34 => u = .bool true
  | 35 => u = .pointer (some ⟨zx, 1, none⟩)
  | 36 => u = .int .i64 y.inn
  | 37 => u = .bool true
  | 38 => u = .bool false
  | 39 => u = .bool false
  | 40 => u = .bool false
  | 41 => u = .pointer (some ⟨zx, 1, none⟩)
  | 42 => u = .int .i64 y.inn
  | 43 => u = .bool true
  | 44 => u = .bool true
  | 45 => u = .pointer (some ⟨z6, 1, none⟩)
  | 46 => u = .slice (some ⟨qb, qo, none⟩) R j1
  | 47 => u = .int .i64 (k : Int)
  | 48 => u = .pointer (some ⟨qb, qo + k, none⟩)
  | 49 => u = .int .i64 pk
  | 50 => u = .pointer (some ⟨zx, 2, none⟩)
  | 51 => u = .int .i64 y.pr
  | 52 => u = .bool false
  | 53 => u = .bool false
  | 54 => u = .bool false
  | 55 => u = .bool false
  | 56 => u = .pointer (some ⟨zx, 1, none⟩)
  | 57 => u = .int .i64 y.inn
  | 58 => u = .bool false
  | 59 => u = .bool false
  | 60 => u = undef
  | 61 => u = undef
  | 62 => u = undef
  | 63 => u = undef
  | 64 => u = undef
  | 65 => u = undef
  | 66 => u = undef
  | 67 => u = undef
  | 68 => u = undef
  | 69 => u = undef
  | 70 => u = undef
  | 71 => u = undef
  | 72 => u = undef
  | 73 => u = .bool false
  | 74 => u = .bool false
  | _ => True

set_option maxRecDepth 100000 in
set_option maxHeartbeats 8000000 in
theorem Places_walk (w : World) (vl va : Value) (l : List Sig) (a : Au) (hK : Keys w) (hl : IsSigs w vl l) (ha : IsAuto w va a) :
    Calls Tryd.prog 4 #[vl, va] w (Calm (.bool true) w) := by
  have hmx : Tryd.prog.follows .mixedOrders = true := by kernel_rfl
  obtain ⟨p2, n2, k2, p3, n3, k3, rfl⟩ := ha.shp
  have HN2 : Hid (n2 = a.next.length) := by
    obtain ⟨v2, v3, hv, -, ⟨V2, ⟨a2, c2, b2, o2, rfl, -⟩, -⟩, -⟩ := ha
    injection hv with hv
    injection hv with hv
    simp only [List.cons.injEq, Value.slice.injEq, and_true] at hv
    exact hv.2.2.1.2.1
  go_enter Tryd.func4, Tryd.ntmps4
  go_upto_region 1 with (fail)
  obtain ⟨hx, hB⟩ : (w.alloc (.cells #[.int .i64 a.letters, .int .i64 a.start, .slice p2 n2 k2, .slice p3 n3 k3] 25)).heap[w.heap.size]? = some (.cells #[.int .i64 a.letters, .int .i64 a.start, .slice p2 n2 k2, .slice p3 n3 k3] 25 (0, 0)) ∧ Below w.heap.size w (w.alloc (.cells #[.int .i64 a.letters, .int .i64 a.start, .slice p2 n2 k2, .slice p3 n3 k3] 25)) := ⟨heap_alloc_new _ _, bel_box _⟩
  replace hl := hl.below hB
  replace ha := ha.below hB
  replace hK := hK.below hB
  generalize w.alloc (.cells #[.int .i64 a.letters, .int .i64 a.start, .slice p2 n2 k2, .slice p3 n3 k3] 25) = w1 at *
  have HE : Hid (∀ W, Below w1.heap.size w1 W → Calm (.bool true) w (.returned (.bool true)) W) := fun W h => ⟨rfl, hB.trans (h.mono hB.size)⟩
  clear hB
  generalize w.heap.size = za at *
  go_wp2_with fail
  refine (head_c _ hK).mono ?_
  rintro e w2 ⟨rfl, hb⟩
  replace hx := (hb.block _ (Array.getElem?_eq_some_iff.1 hx).1).trans hx
  replace hl := hl.below hb
  replace ha := ha.below hb
  replace hK := hK.below hb
  have c0 := cell_of_row _ _ 0 _ _ _ hx
  have c1 := cell_of_row _ _ 1 _ _ _ hx
  have c2 := cell_of_row _ _ 2 _ _ _ hx
  have c3 := cell_of_row _ _ 3 _ _ _ hx
  go_wp2_with fail
  refine (fine_c _ _ _ l a hl ha).mono ?_
  rintro e w3 ⟨rfl, hb3⟩
  replace hx := (hb3.block _ (Array.getElem?_eq_some_iff.1 hx).1).trans hx
  replace hl := hl.below hb3
  replace ha := ha.below hb3
  replace hK := hK.below hb3
  replace hb := hb.trans (hb3.mono hb.size)
  clear c0 c1 c2 c3 hb3
  cases hf : fineB l a
  · go_wp2_with fail
    go_ret
    exact HE.out _ hb
  obtain ⟨hs, hsm, hv, he⟩ : validS l = true ∧ smallA a = true ∧ validA a = true ∧ a.letters = lettersI l := by
    simp only [fineB, Bool.and_eq_true, beq_iff_eq] at hf
    exact ⟨hf.1.1.1, hf.1.1.2, hf.1.2, hf.2⟩
  have HSV := Lib.hid (And.intro hs (And.intro hv he))
  obtain ⟨ob', hob⟩ : ∃ ob, buildP a l 400 = ob := ⟨_, rfl⟩
  have HSM : Hid (a.prio.length ≤ 3000 ∧ ∀ i, (a.prio.getD i []).length ≤ 3000) := by
    simp only [smallA, Bool.and_eq_true, decide_eq_true_eq, List.all_eq_true] at hsm
    refine ⟨by omega, fun i => ?_⟩
    by_cases hi : i < a.prio.length
    · rw [getD_lt _ _ _ hi]; have := hsm.2 _ (List.getElem_mem hi); omega
    · rw [List.getD, List.getElem?_eq_none (by omega)]; simp
  clear hs hsm hv he hf
  have c0 := cell_of_row _ _ 0 _ _ _ hx
  have c1 := cell_of_row _ _ 1 _ _ _ hx
  have c2 := cell_of_row _ _ 2 _ _ _ hx
  have c3 := cell_of_row _ _ 3 _ _ _ hx
  cases ob' with
  | none =>
    have hE : buildE a l 400 = (⟨[], [], []⟩, [], 2) := buildE_non HSV.out.1 HSV.out.2.1 HSV.out.2.2 (by omega) (by omega) hob
    have HEE := Lib.hid hE
    clear hE hob
    go_wp2_with fail
    refine (Build_c _ _ _ l a 400 hK hl ha).mono ?_
    rw [HEE.out]
    rintro e w4 ⟨vg, vp, rfl, hG, hP, hb3⟩
    obtain ⟨g0, j0, g1, j1, g2, j2, rfl⟩ := hG.shape0
    obtain ⟨ap, cp, rfl⟩ := hP.shp
    rw [List.length_nil]
    replace hb := hb.trans (hb3.mono hb.size)
    clear c0 c1 c2 c3 hb3
    go_upto_region 5 with (fail)
    obtain ⟨y6, hb3, -⟩ := box_new hb hb.size #[.slice g0 0 j0, .slice g1 0 j1, .slice g2 0 j2] 28
    replace hb := hb.trans (hb3.mono hb.size)
    generalize w4.alloc (.cells #[.slice g0 0 j0, .slice g1 0 j1, .slice g2 0 j2] 28) = w5 at *
    generalize w4.heap.size = z6 at *
    have d0 := cell_of_row _ _ 0 _ _ _ y6
    go_wp2_with fail
    go_ret
    exact HE.out _ hb
  | some r =>
    have hE : buildE a l 400 = (plGm (succPl a (joinT l)) (topA a) r r.length, r, 0) := buildE_som HSV.out.1 HSV.out.2.1 HSV.out.2.2 (by omega) (by omega) hob
    have hrl : r.length ≤ 400 := bfs_lenX _ _ _ _ hob (by simp)
    have hA := auOK HSV.out.1 HSV.out.2.1 HSV.out.2.2
    have HVAL := Lib.hid (places_valid HSV.out.1 HSV.out.2.1 hA hob (by omega))
    have F := found_of hob
    have hok := places_ok HSV.out.2.1 hA hob
    obtain ⟨S, hS⟩ : ∃ S, succPl a (joinT l) = S := ⟨_, rfl⟩
    obtain ⟨x0, hx0⟩ : ∃ x0 : Pl, (⟨a.start, -1, topA a⟩ : Pl) = x0 := ⟨_, rfl⟩
    obtain ⟨gm, hgm⟩ : ∃ gm, plGm (succPl a (joinT l)) (topA a) r r.length = gm := ⟨_, rfl⟩
    rw [hgm] at hE HVAL
    rw [hS, hx0] at F
    have HWF : Hid (∀ y ∈ r, WfP y) := fun y hy => wfP HSV.out.2.1 hA.t.2 (hok y hy).1 (hok y hy).2.1
    obtain ⟨R, hR⟩ : ∃ R, r.length = R := ⟨_, rfl⟩
    have HR := Lib.hid hR
    have HRL : Hid (R ≤ 400 ∧ 0 < R) := by rw [← hR]; exact ⟨hrl, F.pos⟩
    have HGL : Hid (gm.owner.length = R ∧ gm.prio.length = R ∧ gm.succ.length = R) := by
      rw [← hgm, ← hR]
      exact plGm_len _ _ r
    have HGA : Hid (∀ k (hk : k < r.length), gm.owner.getD k 0 = plOwn r[k] ∧ gm.prio.getD k 0 = plPri (topA a) r[k] ∧ gm.succ.getD k [] = numsP r (S r[k])) := fun k hk => by
      rw [← hgm, ← hS]
      simp [plGm, List.getD, hk]
    have HFO := Lib.hid F
    have HOK := Lib.hid hok
    have HAO := Lib.hid hA
    have HSE : Hid (∀ y, succPl a (joinT l) y = S y) := fun y => by rw [hS]
    have HX0 := Lib.hid hx0
    have HE1 := Lib.hid hE
    clear hE hgm hob hrl hR hA F hok hS hx0
    go_wp2_with fail
    refine (Build_c _ _ _ l a 400 hK hl ha).mono ?_
    rw [HE1.out]
    rintro e w4 ⟨vg, vp, rfl, hG, hP, hb3⟩
    obtain ⟨g0, m0, j0, g1, m1, j1, g2, m2, j2, rfl⟩ := hG.shape
    obtain ⟨rfl, rfl, rfl⟩ : R = m0 ∧ R = m1 ∧ R = m2 := by
      obtain ⟨e1, e2, e3, -⟩ := hG.dat HGL.out.1 HGL.out.2.1 HGL.out.2.2
      exact ⟨e1, e2, e3⟩
    obtain ⟨ap, cp, rfl⟩ := hP.shp
    rw [HR.out] at hP ⊢
    replace hx := (hb3.block _ (Array.getElem?_eq_some_iff.1 hx).1).trans hx
    replace hl := hl.below hb3
    replace ha := ha.below hb3
    replace hb := hb.trans (hb3.mono hb.size)
    clear c0 c1 c2 c3 hb3 hK
    go_upto_region 5 with (fail)
    obtain ⟨y6, hb3, -⟩ := box_new hb hb.size #[.slice g0 R j0, .slice g1 R j1, .slice g2 R j2] 28
    replace hx := (hb3.block _ (Array.getElem?_eq_some_iff.1 hx).1).trans hx
    replace hl := hl.below hb3
    replace ha := ha.below hb3
    replace hG := hG.below hb3
    replace hP := hP.below hb3
    replace hb := hb.trans (hb3.mono hb.size)
    clear hb3
    generalize w4.alloc (.cells #[.slice g0 R j0, .slice g1 R j1, .slice g2 R j2] 28) = w5 at *
    generalize w4.heap.size = z6 at *
    obtain ⟨pb, po, hpa, -, hpc⟩ := hP.dat
    obtain rfl := hpa HRL.out.2
    have hp0 := hpc 0 (by rw [HR.out]; exact HRL.out.2)
    have hr0 : r[0]'(by rw [HR.out]; exact HRL.out.2) = ⟨a.start, -1, topA a⟩ := by
      have := HFO.out.hd
      rw [List.getElem?_eq_getElem (by rw [HR.out]; exact HRL.out.2)] at this
      rw [HX0.out]
      exact Option.some.inj this
    rw [hr0] at hp0
    simp only [Nat.zero_mul, Nat.add_zero] at hp0
    have HW0 : Hid (WfP ⟨a.start, -1, topA a⟩) := by
      rw [← hr0]
      exact HWF.out _ (List.getElem_mem _)
    have HRUN0 : Hid (∀ W, (binOp .neq 48 (.agg #[.int .i64 a.start, .int .i64 (-1), .int .i64 (topA a)]) (.agg #[.int .i64 a.start, .int .i64 (-1), .int .i64 (topA a)])).run Tryd.prog W = .ok (.bool false) W) := fun W => by
      have := run_neq_place W _ _ HW0.out HW0.out
      simpa [plV] using this
    have hR0 : ((R : Int) == 0) = false := by
      have := HRL.out.2
      simp; omega
    have hRne : ((R : Int) != R) = false := by simp
    have hRi : (0 : Int) < (R : Int) := by have := HRL.out.2; omega
    have hRn : 0 < R := HRL.out.2
    have HB1 : Hid (∀ W, Below w5.drew.heap.size w5.drew W → Below w5.heap.size w5 W) := fun W h => (Below.drew (B := w5.heap.size) (Below.refl _ _)).trans h
    have HG : Hid (∀ W, Below w5.drew.heap.size w5.drew W → W.cell? ⟨z6, 0, none⟩ = some (.slice g0 R j0) ∧ W.cell? ⟨z6, 1, none⟩ = some (.slice g1 R j1) ∧ W.cell? ⟨z6, 2, none⟩ = some (.slice g2 R j2)) := fun W h => by
      have k := ((HB1.out W h).block _ (Array.getElem?_eq_some_iff.1 y6).1).trans y6
      exact ⟨cell_of_row _ _ 0 _ _ _ k, cell_of_row _ _ 1 _ _ _ k, cell_of_row _ _ 2 _ _ _ k⟩
    have HA : Hid (∀ W, Below w5.drew.heap.size w5.drew W → W.cell? ⟨za, 0, none⟩ = some (.int .i64 a.letters) ∧ W.cell? ⟨za, 1, none⟩ = some (.int .i64 a.start) ∧ W.cell? ⟨za, 2, none⟩ = some (.slice p2 n2 k2) ∧ W.cell? ⟨za, 3, none⟩ = some (.slice p3 n3 k3)) := fun W h => by
      have k := ((HB1.out W h).block _ (Array.getElem?_eq_some_iff.1 hx).1).trans hx
      exact ⟨cell_of_row _ _ 0 _ _ _ k, cell_of_row _ _ 1 _ _ _ k, cell_of_row _ _ 2 _ _ _ k, cell_of_row _ _ 3 _ _ _ k⟩
    have HP0 : Hid (∀ W, Below w5.drew.heap.size w5.drew W → W.cell? ⟨pb, po, none⟩ = some (.int .i64 a.start) ∧ W.cell? ⟨pb, po + 1, none⟩ = some (.int .i64 (-1)) ∧ W.cell? ⟨pb, po + 2, none⟩ = some (.int .i64 (topA a))) := fun W h => ⟨cellB (HB1.out W h) hp0.1, cellB (HB1.out W h) hp0.2.1, cellB (HB1.out W h) hp0.2.2⟩
    have HAV : Hid (∀ W, Below w5.heap.size w5 W → Calls Tryd.prog 19 #[.agg #[.slice g0 R j0, .slice g1 R j1, .slice g2 R j2]] W (Calm (.bool true) W)) := fun W h => by
      have := AValid_c W _ gm (hG.below h)
      rwa [HVAL.out] at this
    have HGR : Hid (∀ W, Below w5.heap.size w5 W → Calls Tryd.prog 25 #[.agg #[.int .i64 a.letters, .int .i64 a.start, .slice p2 n2 k2, .slice p3 n3 k3]] W (Calm (.int .i64 (topA a)) W)) := fun W h => PGreatest_c W _ a (ha.below h) HSM.out.1 HSM.out.2
    have hl' := Lib.hid hl
    have ha' := Lib.hid ha
    have hG' := Lib.hid hG
    have hP' := Lib.hid hP
    have hx' := Lib.hid hx
    have y6' := Lib.hid y6
    have hb' := Lib.hid hb
    clear hl ha hG hP hx y6 hb hpa hpc hp0 hr0
    go_upto_region 7 with (fail)
    refine region_stable hmx (RP7 a R z6 za pb po cp g0 g1 g2 j0 j1 j2 p2 p3 n2 k2 n3 k3) (fun vs => { tmps := (_ :: _ :: _ :: _ :: _ :: _ :: _ :: _ :: _ :: _ :: _ :: _ :: _ :: _ :: _ :: _ :: _ :: _ :: _ :: _ :: _ :: _ :: _ :: _ :: _ :: _ :: _ :: _ :: _ :: _ :: _ :: _ :: _ :: _ :: _ :: _ :: _ :: _ :: _ :: _ :: _ :: _ :: _ :: _ :: _ :: vs 0 :: vs 1 :: vs 2 :: vs 3 :: vs 4 :: vs 5 :: vs 6 :: vs 7 :: vs 8 :: vs 9 :: vs 10 :: vs 11 :: vs 12 :: vs 13 :: vs 14 :: vs 15 :: vs 16 :: vs 17 :: vs 18 :: vs 19 :: vs 20 :: vs 21 :: vs 22 :: vs 23 :: vs 24 :: vs 25 :: vs 26 :: _ :: _ :: _ :: _ :: _ :: _ :: _ :: _ :: _ :: _ :: _ :: _ :: _ :: _ :: _ :: _ :: _ :: _ :: _ :: _ :: _ :: _ :: _ :: _ :: _ :: _ :: _ :: _ :: _ :: _ :: _ :: _ :: _ :: _ :: _ :: _ :: _ :: _ :: _ :: _ :: _ :: _ :: _ :: _ :: _ :: _ :: _ :: _ :: _ :: _ :: _ :: _ :: _ :: _ :: _ :: _ :: _ :: _ :: _ :: _ :: _ :: _ :: _ :: _ :: _ :: _ :: _ :: _ :: _ :: _ :: _ :: _ :: _ :: _ :: _ :: _ :: _ :: _ :: _ :: _ :: _ :: _ :: _ :: _ :: _ :: _ :: _ :: _ :: _ :: _ :: _ :: _ :: _ :: _ :: _ :: _ :: _ :: _ :: _ :: _ :: _ :: _ :: _ :: _ :: _ :: _ :: _ :: _ :: _ :: _ :: _ :: _ :: _ :: _ :: _ :: _ :: _ :: _ :: _ :: _ :: _ :: _ :: _ :: _ :: _ :: _ :: _ :: _ :: _ :: _ :: _ :: _ :: _ :: _ :: _ :: _ :: _ :: _ :: _ :: _ :: _ :: _ :: _ :: _ :: _ :: _ :: _ :: _ :: _ :: _ :: _ :: _ :: _ :: _ :: _ :: []).toArray, defers := _ }) (fun _ => undef) rfl (by kernel_rfl) (fun _ _ _ _ h _ => h) ?step ?fin
    case step =>
      intro ix o ho
      match ix, ho with
      | 0, ho =>
        obtain rfl := Option.some.inj ho
        intro vs W K hB hD hK
        have HK := Lib.hid hK
        obtain ⟨d0, d1, d2⟩ := HG.out W hB
        clear hK hD ho
        dsimp only
        go_simp
        have h := HK.out _ _ (Below.refl _ _) rfl
        simp only [upd, Nat.reduceEqDiff, reduceIte] at h
        exact h
      | 1, ho =>
        obtain rfl := Option.some.inj ho
        intro vs W K hB hD hK
        have HK := Lib.hid hK
        have e0 : vs 0 = .agg #[.slice g0 R j0, .slice g1 R j1, .slice g2 R j2] := dep_of hD 0 (by rfl)
        clear hK hD ho
        dsimp only
        go_simp
        refine (HAV.out W (HB1.out W hB)).mono ?_
        rintro e W' ⟨rfl, hb⟩
        have h := HK.out _ _ hb rfl
        simp only [upd, Nat.reduceEqDiff, reduceIte, e0] at h
        exact h
      | 2, ho =>
        obtain rfl := Option.some.inj ho
        intro vs W K hB hD hK
        have HK := Lib.hid hK
        have e1 : vs 1 = .bool true := dep_of hD 1 (by rfl)
        clear hK hD ho
        dsimp only
        go_simp
        have h := HK.out _ _ (Below.refl _ _) rfl
        simp only [upd, Nat.reduceEqDiff, reduceIte, e1] at h
        exact h
      | 3, ho =>
        obtain rfl := Option.some.inj ho
        intro vs W K hB hD hK
        have HK := Lib.hid hK
        have e2 : vs 2 = .bool false := dep_of hD 2 (by rfl)
        clear hK hD ho
        dsimp only
        go_simp
        have h := HK.out _ _ (Below.refl _ _) rfl
        simp only [upd, Nat.reduceEqDiff, reduceIte, e2] at h
        exact h
      | 4, ho =>
        obtain rfl := Option.some.inj ho
        intro vs W K hB hD hK
        have HK := Lib.hid hK
        have e3 : vs 3 = .bool false := dep_of hD 3 (by rfl)
        clear hK hD ho
        dsimp only
        go_simp
        have h := HK.out _ _ (Below.refl _ _) rfl
        simp only [upd, Nat.reduceEqDiff, reduceIte, e3] at h
        exact h
      | 5, ho =>
        obtain rfl := Option.some.inj ho
        intro vs W K hB hD hK
        have HK := Lib.hid hK
        have e3 : vs 3 = .bool false := dep_of hD 3 (by rfl)
        have e4 : vs 4 = .slice (some ⟨pb, po, none⟩) R cp := dep_of hD 4 (by rfl)
        clear hK hD ho
        dsimp only
        go_simp
        have h := HK.out _ _ (Below.refl _ _) rfl
        simp only [upd, Nat.reduceEqDiff, reduceIte, e3, e4] at h
        exact h
      | 6, ho =>
        obtain rfl := Option.some.inj ho
        intro vs W K hB hD hK
        have HK := Lib.hid hK
        have e3 : vs 3 = .bool false := dep_of hD 3 (by rfl)
        clear hK hD ho
        dsimp only
        go_simp
        have h := HK.out _ _ (Below.refl _ _) rfl
        simp only [upd, Nat.reduceEqDiff, reduceIte, e3] at h
        exact h
      | 7, ho =>
        obtain rfl := Option.some.inj ho
        intro vs W K hB hD hK
        have HK := Lib.hid hK
        have e3 : vs 3 = .bool false := dep_of hD 3 (by rfl)
        have e6 : vs 6 = .pointer (some ⟨z6, 0, none⟩) := dep_of hD 6 (by rfl)
        obtain ⟨d0, d1, d2⟩ := HG.out W hB
        clear hK hD ho
        dsimp only
        go_simp
        have h := HK.out _ _ (Below.refl _ _) rfl
        simp only [upd, Nat.reduceEqDiff, reduceIte, e3, e6] at h
        exact h
      | 8, ho =>
        obtain rfl := Option.some.inj ho
        intro vs W K hB hD hK
        have HK := Lib.hid hK
        have e3 : vs 3 = .bool false := dep_of hD 3 (by rfl)
        have e7 : vs 7 = .slice g0 R j0 := dep_of hD 7 (by rfl)
        clear hK hD ho
        dsimp only
        go_simp
        have h := HK.out _ _ (Below.refl _ _) rfl
        simp only [upd, Nat.reduceEqDiff, reduceIte, e3, e7] at h
        exact h
      | 9, ho =>
        obtain rfl := Option.some.inj ho
        intro vs W K hB hD hK
        have HK := Lib.hid hK
        have e3 : vs 3 = .bool false := dep_of hD 3 (by rfl)
        have e5 : vs 5 = .int .i64 (R : Int) := dep_of hD 5 (by rfl)
        have e8 : vs 8 = .int .i64 (R : Int) := dep_of hD 8 (by rfl)
        clear hK hD ho
        dsimp only
        go_simp
        have h := HK.out _ _ (Below.refl _ _) rfl
        simp only [upd, Nat.reduceEqDiff, reduceIte, e3, e5, e8] at h
        exact h
      | 10, ho =>
        obtain rfl := Option.some.inj ho
        intro vs W K hB hD hK
        have HK := Lib.hid hK
        have e3 : vs 3 = .bool false := dep_of hD 3 (by rfl)
        have e9 : vs 9 = .bool false := dep_of hD 9 (by rfl)
        clear hK hD ho
        dsimp only
        go_simp
        have h := HK.out _ _ (Below.refl _ _) rfl
        simp only [upd, Nat.reduceEqDiff, reduceIte, e3, e9] at h
        exact h
      | 11, ho =>
        obtain rfl := Option.some.inj ho
        intro vs W K hB hD hK
        have HK := Lib.hid hK
        have e10 : vs 10 = .bool false := dep_of hD 10 (by rfl)
        clear hK hD ho
        dsimp only
        go_simp
        have h := HK.out _ _ (Below.refl _ _) rfl
        simp only [upd, Nat.reduceEqDiff, reduceIte, e10] at h
        exact h
      | 12, ho =>
        obtain rfl := Option.some.inj ho
        intro vs W K hB hD hK
        have HK := Lib.hid hK
        have e11 : vs 11 = .bool false := dep_of hD 11 (by rfl)
        clear hK hD ho
        dsimp only
        go_simp
        have h := HK.out _ _ (Below.refl _ _) rfl
        simp only [upd, Nat.reduceEqDiff, reduceIte, e11] at h
        exact h
      | 13, ho =>
        obtain rfl := Option.some.inj ho
        intro vs W K hB hD hK
        have HK := Lib.hid hK
        have e11 : vs 11 = .bool false := dep_of hD 11 (by rfl)
        have e12 : vs 12 = .slice (some ⟨pb, po, none⟩) R cp := dep_of hD 12 (by rfl)
        clear hK hD ho
        dsimp only
        go_simp
        have h := HK.out _ _ (Below.refl _ _) rfl
        simp only [upd, Nat.reduceEqDiff, reduceIte, e11, e12] at h
        exact h
      | 14, ho =>
        obtain rfl := Option.some.inj ho
        intro vs W K hB hD hK
        have HK := Lib.hid hK
        have e11 : vs 11 = .bool false := dep_of hD 11 (by rfl)
        have e13 : vs 13 = .int .i64 (R : Int) := dep_of hD 13 (by rfl)
        clear hK hD ho
        dsimp only
        go_simp
        have h := HK.out _ _ (Below.refl _ _) rfl
        simp only [upd, Nat.reduceEqDiff, reduceIte, e11, e13] at h
        exact h
      | 15, ho =>
        obtain rfl := Option.some.inj ho
        intro vs W K hB hD hK
        have HK := Lib.hid hK
        have e11 : vs 11 = .bool false := dep_of hD 11 (by rfl)
        have e14 : vs 14 = .bool false := dep_of hD 14 (by rfl)
        clear hK hD ho
        dsimp only
        go_simp
        have h := HK.out _ _ (Below.refl _ _) rfl
        simp only [upd, Nat.reduceEqDiff, reduceIte, e11, e14] at h
        exact h
      | 16, ho =>
        obtain rfl := Option.some.inj ho
        intro vs W K hB hD hK
        have HK := Lib.hid hK
        have e15 : vs 15 = .bool false := dep_of hD 15 (by rfl)
        clear hK hD ho
        dsimp only
        go_simp
        have h := HK.out _ _ (Below.refl _ _) rfl
        simp only [upd, Nat.reduceEqDiff, reduceIte, e15] at h
        exact h
      | 17, ho =>
        obtain rfl := Option.some.inj ho
        intro vs W K hB hD hK
        have HK := Lib.hid hK
        have e16 : vs 16 = .bool false := dep_of hD 16 (by rfl)
        clear hK hD ho
        dsimp only
        go_simp
        have h := HK.out _ _ (Below.refl _ _) rfl
        simp only [upd, Nat.reduceEqDiff, reduceIte, e16] at h
        exact h
      | 18, ho =>
        obtain rfl := Option.some.inj ho
        intro vs W K hB hD hK
        have HK := Lib.hid hK
        have e16 : vs 16 = .bool false := dep_of hD 16 (by rfl)
        have e17 : vs 17 = .slice (some ⟨pb, po, none⟩) R cp := dep_of hD 17 (by rfl)
        clear hK hD ho
        dsimp only
        go_simp
        have h := HK.out _ _ (Below.refl _ _) rfl
        simp only [upd, Nat.reduceEqDiff, reduceIte, e16, e17] at h
        exact h
      | 19, ho =>
        obtain rfl := Option.some.inj ho
        intro vs W K hB hD hK
        have HK := Lib.hid hK
        have e16 : vs 16 = .bool false := dep_of hD 16 (by rfl)
        have e18 : vs 18 = .pointer (some ⟨pb, po, none⟩) := dep_of hD 18 (by rfl)
        obtain ⟨e0', e1', e2'⟩ := HP0.out W hB
        clear hK hD ho
        dsimp only
        go_simp
        have h := HK.out _ _ (Below.refl _ _) rfl
        simp only [upd, Nat.reduceEqDiff, reduceIte, e16, e18] at h
        exact h
      | 20, ho =>
        obtain rfl := Option.some.inj ho
        intro vs W K hB hD hK
        have HK := Lib.hid hK
        have e16 : vs 16 = .bool false := dep_of hD 16 (by rfl)
        clear hK hD ho
        dsimp only
        go_simp
        have h := HK.out _ _ (Below.refl _ _) rfl
        simp only [upd, Nat.reduceEqDiff, reduceIte, e16] at h
        exact h
      | 21, ho =>
        obtain rfl := Option.some.inj ho
        intro vs W K hB hD hK
        have HK := Lib.hid hK
        have e16 : vs 16 = .bool false := dep_of hD 16 (by rfl)
        have e20 : vs 20 = .pointer (some ⟨za, 1, none⟩) := dep_of hD 20 (by rfl)
        obtain ⟨c0, c1, c2, c3⟩ := HA.out W hB
        clear hK hD ho
        dsimp only
        go_simp
        have h := HK.out _ _ (Below.refl _ _) rfl
        simp only [upd, Nat.reduceEqDiff, reduceIte, e16, e20] at h
        exact h
      | 22, ho =>
        obtain rfl := Option.some.inj ho
        intro vs W K hB hD hK
        have HK := Lib.hid hK
        have e16 : vs 16 = .bool false := dep_of hD 16 (by rfl)
        obtain ⟨c0, c1, c2, c3⟩ := HA.out W hB
        clear hK hD ho
        dsimp only
        go_simp
        have h := HK.out _ _ (Below.refl _ _) rfl
        simp only [upd, Nat.reduceEqDiff, reduceIte, e16] at h
        exact h
      | 23, ho =>
        obtain rfl := Option.some.inj ho
        intro vs W K hB hD hK
        have HK := Lib.hid hK
        have e16 : vs 16 = .bool false := dep_of hD 16 (by rfl)
        have e22 : vs 22 = .agg #[.int .i64 a.letters, .int .i64 a.start, .slice p2 n2 k2, .slice p3 n3 k3] := dep_of hD 22 (by rfl)
        clear hK hD ho
        dsimp only
        go_simp
        refine (HGR.out W (HB1.out W hB)).mono ?_
        rintro e W' ⟨rfl, hb⟩
        have h := HK.out _ _ hb rfl
        simp only [upd, Nat.reduceEqDiff, reduceIte, e16, e22] at h
        exact h
      | 24, ho =>
        obtain rfl := Option.some.inj ho
        intro vs W K hB hD hK
        have HK := Lib.hid hK
        have e16 : vs 16 = .bool false := dep_of hD 16 (by rfl)
        have e21 : vs 21 = .int .i64 a.start := dep_of hD 21 (by rfl)
        have e23 : vs 23 = .int .i64 (topA a) := dep_of hD 23 (by rfl)
        clear hK hD ho
        dsimp only
        go_simp
        have h := HK.out _ _ (Below.refl _ _) rfl
        simp only [upd, Nat.reduceEqDiff, reduceIte, e16, e21, e23] at h
        exact h
      | 25, ho =>
        obtain rfl := Option.some.inj ho
        intro vs W K hB hD hK
        have HK := Lib.hid hK
        have e16 : vs 16 = .bool false := dep_of hD 16 (by rfl)
        have e19 : vs 19 = .agg #[.int .i64 a.start, .int .i64 (-1), .int .i64 (topA a)] := dep_of hD 19 (by rfl)
        have e24 : vs 24 = .agg #[.int .i64 a.start, .int .i64 (-1), .int .i64 (topA a)] := dep_of hD 24 (by rfl)
        have hng := placeNoGuard
        have hrun := HRUN0.out
        clear hK hD ho
        dsimp only
        go_simp
        have h := HK.out _ _ (Below.refl _ _) rfl
        simp only [upd, Nat.reduceEqDiff, reduceIte, e16, e19, e24] at h
        exact h
      | 26, ho =>
        obtain rfl := Option.some.inj ho
        intro vs W K hB hD hK
        have HK := Lib.hid hK
        have e16 : vs 16 = .bool false := dep_of hD 16 (by rfl)
        have e25 : vs 25 = .bool false := dep_of hD 25 (by rfl)
        clear hK hD ho
        dsimp only
        go_simp
        have h := HK.out _ _ (Below.refl _ _) rfl
        simp only [upd, Nat.reduceEqDiff, reduceIte, e16, e25] at h
        exact h
      | q + 27, ho => exact absurd ho (by simp)
    case fin =>
      intro vs W hB hall
      have e26 : vs 26 = .bool false := hall 26 (by decide)
      have hb3 := HB1.out W hB
      clear hall hB
      rw [e26]
      clear e26
      generalize vs 0 = q0
      generalize vs 1 = q1
      generalize vs 2 = q2
      generalize vs 3 = q3
      generalize vs 4 = q4
      generalize vs 5 = q5
      generalize vs 6 = q6
      generalize vs 7 = q7
      generalize vs 8 = q8
      generalize vs 9 = q9
      generalize vs 10 = q10
      generalize vs 11 = q11
      generalize vs 12 = q12
      generalize vs 13 = q13
      generalize vs 14 = q14
      generalize vs 15 = q15
      generalize vs 16 = q16
      generalize vs 17 = q17
      generalize vs 18 = q18
      generalize vs 19 = q19
      generalize vs 20 = q20
      generalize vs 21 = q21
      generalize vs 22 = q22
      generalize vs 23 = q23
      generalize vs 24 = q24
      generalize vs 25 = q25
      clear vs
      obtain ⟨wB, rfl⟩ : ∃ wB : World, wB = W := ⟨_, rfl⟩
      have hl := hl'.out
      have ha := ha'.out
      have hG := hG'.out
      have hP := hP'.out
      have hx := hx'.out
      have y6 := y6'.out
      have hb := hb'.out
      clear hl' ha' hG' hP' hx' y6' hb' HAV HGR HP0 HRUN0 HG HA HB1 hR0 hRne hRi hRn
      replace hx := (hb3.block _ (Array.getElem?_eq_some_iff.1 hx).1).trans hx
      replace y6 := (hb3.block _ (Array.getElem?_eq_some_iff.1 y6).1).trans y6
      replace hl := hl.below hb3
      replace ha := ha.below hb3
      replace hG := hG.below hb3
      replace hP := hP.below hb3
      replace hb := hb.trans (hb3.mono hb.size)
      clear hb3
      obtain ⟨-, -, -, ob, oo, qb, qo, sb, so, VS, hga, hgc⟩ := hG.dat HGL.out.1 HGL.out.2.1 HGL.out.2.2
      obtain ⟨rfl, rfl, rfl⟩ := hga HRL.out.2
      obtain ⟨pb', po', hpa, -, hpc⟩ := hP.dat
      obtain ⟨rfl, rfl⟩ : pb = pb' ∧ po = po' := by simpa using hpa HRL.out.2
      have HGC := Lib.hid hgc
      have HPC := Lib.hid hpc
      have hl' := Lib.hid hl
      have ha' := Lib.hid ha
      have hG' := Lib.hid hG
      have hP' := Lib.hid hP
      have hx' := Lib.hid hx
      have y6' := Lib.hid y6
      have hb' := Lib.hid hb
      clear hl ha hG hP hx y6 hb hga hgc hpa hpc
      go_wp2
      go_loopg [9, 10] R (fun gh sn i wr => ∃ k : Nat, gh = R - k ∧ i = .int .i64 k ∧ sn = .int .i64 ((fl S [x0] (r.take k)).length : Int) ∧ k ≤ R ∧ Below wB.heap.size wB wr)
      case atStart => exact ⟨0, by omega, rfl, rfl, by omega, Below.refl _ _⟩
      case round =>
        obtain ⟨k, hgk, rfl, rfl, hk, hB⟩ := hrel
        have HGK := Lib.hid hgk
        clear hgk
        by_cases hlt : k < R
        case pos => as_aux_lemma =>
          have hkr : k < r.length := by rw [HR.out]; exact hlt
          obtain ⟨go, gp, gs⟩ := HGA.out k hkr
          obtain ⟨C0, C1, C2, iS⟩ := HGC.out k hlt
          obtain ⟨D0, D1, D2⟩ := HPC.out k hkr
          rw [go] at C0
          rw [gp] at C1
          rw [gs] at iS
          replace C0 := cellB hB C0
          replace C1 := cellB hB C1
          replace C2 := cellB hB C2
          replace D0 := cellB hB D0
          replace D1 := cellB hB D1
          replace D2 := cellB hB D2
          replace iS := iS.below hB
          have hy := HOK.out _ (List.getElem_mem hkr)
          have HYW := Lib.hid (HWF.out _ (List.getElem_mem hkr))
          obtain ⟨hsl, hsr⟩ : (fl S [x0] (r.take k)).length ≤ R ∧ k < (fl S [x0] (r.take k)).length := by
            obtain ⟨e, he⟩ := HFO.out.pre k (by omega)
            have h1 := congrArg List.length he
            rw [List.length_append, HR.out] at h1
            exact ⟨by omega, HFO.out.lt k hkr⟩
          have HSTEP := Lib.hid (HFO.out.step hkr)
          have HNUM : Hid (∀ j, (hj : j < (S r[k]).length) → ∃ n : Nat, r.idxOf (S r[k])[j] = n ∧ n < r.length ∧ r.getD n x0 = (S r[k])[j] ∧ n ≤ (addA (fl S [x0] (r.take k)) ((S r[k]).take j)).length ∧ (addA (fl S [x0] (r.take k)) ((S r[k]).take (j + 1))).length = if n = (addA (fl S [x0] (r.take k)) ((S r[k]).take j)).length then (addA (fl S [x0] (r.take k)) ((S r[k]).take j)).length + 1 else (addA (fl S [x0] (r.take k)) ((S r[k]).take j)).length) := fun j hj => HFO.out.number hkr hj
          have HNE : Hid (∀ j (hj : j < r.length), j < k → r[j] ≠ r[k]) := fun j hj hjk e => by
            have := (List.nodup_iff_pairwise_ne.1 HFO.out.nd)
            rw [List.pairwise_iff_getElem] at this
            exact this j k hj hkr hjk e
          have HSC := Lib.hid (HSE.out r[k])
          have HYOK := Lib.hid hy.1
          have HYS := Lib.hid (succ_wf HSV.out.2.1 hy.1)
          have HSWF : Hid (∀ z ∈ S r[k], WfP z) := by
            rw [← HSE.out]
            exact fun z hz => wfP HSV.out.2.1 HAO.out.t.2 (HAO.out.succ hy.1 z hz) (succ_wf HSV.out.2.1 hy.1 z hz)
          have hyst := hy.1.st
          have hyin := hy.1.inn
          have hyc := hy.2.2
          have hjt := joinT_len l
          have hin0 := (sides_bd HSV.out.1).1
          rw [hjt] at hyin
          rw [← HN2.out] at hyst
          clear hy hjt HYS
          generalize hyy : r[k] = y at *
          have HYY := Lib.hid hyy
          clear hyy
          have HP' : Hid (IsPls wr (.slice (some ⟨pb, po, none⟩) R cp) r) := hP'.out.below hB
          have hb3 := hB
          have hl := hl'.out
          have ha := ha'.out
          have hx := hx'.out
          have y6 := y6'.out
          replace hx := (hb3.block _ (Array.getElem?_eq_some_iff.1 hx).1).trans hx
          replace y6 := (hb3.block _ (Array.getElem?_eq_some_iff.1 y6).1).trans y6
          replace hl := hl.below hb3
          replace ha := ha.below hb3
          clear hb3
          have HBW := Lib.hid hB
          clear hB
          go_upto_region 14 with (fail)
          have hbx := bel_box (w := wr) (.cells #[.int .i64 y.st, .int .i64 y.inn, .int .i64 y.pr] 48)
          have xb := heap_alloc_new wr (.cells #[.int .i64 y.st, .int .i64 y.inn, .int .i64 y.pr] 48)
          have HB6 : Hid (Below wB.heap.size wB (wr.alloc (.cells #[.int .i64 y.st, .int .i64 y.inn, .int .i64 y.pr] 48))) := HBW.out.trans (hbx.mono HBW.out.size)
          replace hx := (hbx.block _ (Array.getElem?_eq_some_iff.1 hx).1).trans hx
          replace y6 := (hbx.block _ (Array.getElem?_eq_some_iff.1 y6).1).trans y6
          replace hl := hl.below hbx
          replace ha := ha.below hbx
          replace iS := iS.below hbx
          replace C0 := cellB hbx C0
          replace C1 := cellB hbx C1
          replace C2 := cellB hbx C2
          replace D0 := cellB hbx D0
          replace D1 := cellB hbx D1
          replace D2 := cellB hbx D2
          replace HP' : Hid _ := Lib.hid (HP'.out.below hbx)
          generalize wr.alloc (.cells #[.int .i64 y.st, .int .i64 y.inn, .int .i64 y.pr] 48) = w6 at *
          generalize wr.heap.size = zx at *
          clear hbx HBW D0 D1 D2
          obtain ⟨sk, hsk⟩ : ∃ sk, (fl S [x0] (r.take k)).length = sk := ⟨_, rfl⟩
          have HSK := Lib.hid hsk
          rw [hsk] at hsl hsr ⊢
          clear hsk
          have x0' := cell_of_row _ _ 0 _ _ _ xb
          have x1' := cell_of_row _ _ 1 _ _ _ xb
          have x2' := cell_of_row _ _ 2 _ _ _ xb
          obtain ⟨pb2, po2, hpa2, -, hpc2⟩ := HP'.out.dat
          obtain ⟨rfl, rfl⟩ : pb = pb2 ∧ po = po2 := by simpa using hpa2 HRL.out.2
          have HPC6 := Lib.hid hpc2
          clear hpa2 hpc2
          go_wp2
          go_loopg [12] k (fun gh i wx => ∃ j m : Nat, gh = k - j ∧ i = .int .i64 j ∧ j ≤ k ∧ w6.drewN m = wx)
          case atStart => exact ⟨0, 0, by omega, rfl, by omega, rfl⟩
          case round =>
            obtain ⟨j, m, hgj, rfl, hj, rfl⟩ := hrel
            have HGJ := Lib.hid hgj
            clear hgj
            by_cases hltj : j < k
            case pos => as_aux_lemma =>
              have hjr : j < r.length := by rw [HR.out]; omega
              obtain ⟨E0, E1, E2⟩ := HPC6.out j hjr
              have hne := HNE.out j hjr hltj
              have hrun := fun W => run_eql_place W r[j] y (HWF.out _ (List.getElem_mem hjr)) HYW.out
              rw [decide_eq_false hne] at hrun
              unfold plV at hrun
              have hng := placeNoGuard
              have hjR : j < R := by omega
              have hR4 := HRL.out.1
              clear hne
              generalize r[j] = u at *
              go_wp2
              refine wp_region_quiet_lit (by kernel_rfl) (by kernel_rfl) ?_
              ((repeat (go_big_quiet_step (fail))); refine wpQuiet_nil ?_; rintro _ ⟨nq, rfl⟩)
              rw [World.drewN_drewN]
              generalize m + nq = m2
              go_wp2
              go_roundg (k - (j + 1))
              case measure => have := HGJ.out; omega
              case rel => exact ⟨j + 1, m2, rfl, by go_num, by omega, rfl⟩
            case neg => as_aux_lemma =>
              obtain rfl : k = j := by omega
              have hb3 : Below w6.heap.size w6 (w6.drewN m) := below_draws _ _ _
              have HB7 := Lib.hid (HB6.out.trans (hb3.mono HB6.out.size))
              replace hx := (hb3.block _ (Array.getElem?_eq_some_iff.1 hx).1).trans hx
              replace y6 := (hb3.block _ (Array.getElem?_eq_some_iff.1 y6).1).trans y6
              replace xb := (hb3.block _ (Array.getElem?_eq_some_iff.1 xb).1).trans xb
              replace hl := hl.below hb3
              replace ha := ha.below hb3
              replace iS := iS.below hb3
              replace C0 := cellB hb3 C0
              replace C1 := cellB hb3 C1
              replace C2 := cellB hb3 C2
              replace HP' : Hid _ := Lib.hid (HP'.out.below hb3)
              clear hb3 HB6 HPC6 hltj hj HGJ x0' x1' x2'
              generalize w6.drewN m = w7 at *
              have HB1 : Hid (∀ W, Below w7.drew.heap.size w7.drew W → Below w7.heap.size w7 W) := fun W h => (Below.drew (B := w7.heap.size) (Below.refl _ _)).trans h
              have HG : Hid (∀ W, Below w7.drew.heap.size w7.drew W → W.cell? ⟨z6, 0, none⟩ = some (.slice (some ⟨ob, oo, none⟩) R j0) ∧ W.cell? ⟨z6, 1, none⟩ = some (.slice (some ⟨qb, qo, none⟩) R j1) ∧ W.cell? ⟨z6, 2, none⟩ = some (.slice (some ⟨sb, so, none⟩) R j2)) := fun W h => by
                have k := ((HB1.out W h).block _ (Array.getElem?_eq_some_iff.1 y6).1).trans y6
                exact ⟨cell_of_row _ _ 0 _ _ _ k, cell_of_row _ _ 1 _ _ _ k, cell_of_row _ _ 2 _ _ _ k⟩
              have HA : Hid (∀ W, Below w7.drew.heap.size w7.drew W → W.cell? ⟨za, 0, none⟩ = some (.int .i64 a.letters) ∧ W.cell? ⟨za, 1, none⟩ = some (.int .i64 a.start) ∧ W.cell? ⟨za, 2, none⟩ = some (.slice p2 n2 k2) ∧ W.cell? ⟨za, 3, none⟩ = some (.slice p3 n3 k3)) := fun W h => by
                have k := ((HB1.out W h).block _ (Array.getElem?_eq_some_iff.1 hx).1).trans hx
                exact ⟨cell_of_row _ _ 0 _ _ _ k, cell_of_row _ _ 1 _ _ _ k, cell_of_row _ _ 2 _ _ _ k, cell_of_row _ _ 3 _ _ _ k⟩
              have HX : Hid (∀ W, Below w7.drew.heap.size w7.drew W → W.cell? ⟨zx, 0, none⟩ = some (.int .i64 y.st) ∧ W.cell? ⟨zx, 1, none⟩ = some (.int .i64 y.inn) ∧ W.cell? ⟨zx, 2, none⟩ = some (.int .i64 y.pr)) := fun W h => by
                have k := ((HB1.out W h).block _ (Array.getElem?_eq_some_iff.1 xb).1).trans xb
                exact ⟨cell_of_row _ _ 0 _ _ _ k, cell_of_row _ _ 1 _ _ _ k, cell_of_row _ _ 2 _ _ _ k⟩
              have HGR : Hid (∀ W, Below w7.heap.size w7 W → Calls Tryd.prog 25 #[.agg #[.int .i64 a.letters, .int .i64 a.start, .slice p2 n2 k2, .slice p3 n3 k3]] W (Calm (.int .i64 (topA a)) W)) := fun W h => PGreatest_c W _ a (ha.below h) HSM.out.1 HSM.out.2
              have HIN : Hid (∀ W, Below w7.heap.size w7 W → Calls Tryd.prog 26 #[vl] W (Calm (.int .i64 (inputsI l)) W)) := fun W h => RInputs_c W vl l (hl.below h)
              go_upto_region 19 with (fail)
              go_cut [167] (fun x wx => x = .bool false ∧ Below w7.heap.size w7 wx)
              case first => as_aux_lemma =>
                have s1 : decide ((sk : Int) ≤ (k : Int)) = false := decide_eq_false (by omega)
                have s1b : decide (sk ≤ k) = false := decide_eq_false (by omega)
                have s2 : decide (y.st < 0) = false := decide_eq_false (by omega)
                have s3 : decide ((n2 : Int) ≤ y.st) = false := decide_eq_false (by omega)
                have s5 : decide (inputsI l ≤ y.inn) = false := decide_eq_false (by omega)
                have hk0 : (0 : Int) ≤ (k : Int) := Int.natCast_nonneg _
                rcases hyc with ⟨i1, i2, i3⟩ | ⟨i1, i2⟩
                · have s4 : decide (y.inn < -1) = false := decide_eq_false (by omega)
                  have s6 : (y.inn == -1) = true := by rw [i1]; rfl
                  have s7 : decide (0 ≤ y.inn) = false := decide_eq_false (by omega)
                  obtain ⟨pk, hpk⟩ : ∃ pk, pk = y.pr := ⟨_, rfl⟩
                  have s8 : (pk != y.pr) = false := by rw [hpk]; simp
                  have HO : Hid (∀ W, Below w7.drew.heap.size w7.drew W → W.cell? ⟨ob, oo + k, none⟩ = some (.int .i64 1)) := fun W h => by
                    have := cellB (HB1.out W h) C0
                    rwa [show plOwn y = 1 by unfold plOwn; rw [if_pos (by omega)]] at this
                  have HPR : Hid (∀ W, Below w7.drew.heap.size w7.drew W → W.cell? ⟨qb, qo + k, none⟩ = some (.int .i64 pk)) := fun W h => by
                    have := cellB (HB1.out W h) C1
                    rwa [show plPri (topA a) y = pk by unfold plPri; rw [if_pos (by omega), hpk]] at this
                  clear i1 i2 i3 hpk hyin hyst hin0 C0 C1 C2 iS hl ha hx y6 xb
                  refine region_stable hmx (RP19b a l vl y k sk R z6 za zx pb po cp ob oo qb qo pk j0 j1 p2 p3 n2 k2 n3 k3) (fun vs => { tmps := (_ :: _ :: _ :: _ :: _ :: _ :: _ :: _ :: _ :: _ :: _ :: _ :: _ :: _ :: _ :: _ :: _ :: _ :: _ :: _ :: _ :: _ :: _ :: _ :: _ :: _ :: _ :: _ :: _ :: _ :: _ :: _ :: _ :: _ :: _ :: _ :: _ :: _ :: _ :: _ :: _ :: _ :: _ :: _ :: _ :: _ :: _ :: _ :: _ :: _ :: _ :: _ :: _ :: _ :: _ :: _ :: _ :: _ :: _ :: _ :: _ :: _ :: _ :: _ :: _ :: _ :: _ :: _ :: _ :: _ :: _ :: _ :: _ :: _ :: _ :: _ :: _ :: _ :: _ :: _ :: _ :: _ :: _ :: _ :: _ :: _ :: _ :: _ :: _ :: _ :: _ :: _ :: _ :: vs 0 :: vs 1 :: vs 2 :: vs 3 :: vs 4 :: vs 5 :: vs 6 :: vs 7 :: vs 8 :: vs 9 :: vs 10 :: vs 11 :: vs 12 :: vs 13 :: vs 14 :: vs 15 :: vs 16 :: vs 17 :: vs 18 :: vs 19 :: vs 20 :: vs 21 :: vs 22 :: vs 23 :: vs 24 :: vs 25 :: vs 26 :: vs 27 :: vs 28 :: vs 29 :: vs 30 :: vs 31 :: vs 32 :: vs 33 :: vs 34 :: vs 35 :: vs 36 :: vs 37 :: vs 38 :: vs 39 :: vs 40 :: vs 41 :: vs 42 :: vs 43 :: vs 44 :: vs 45 :: vs 46 :: vs 47 :: vs 48 :: vs 49 :: vs 50 :: vs 51 :: vs 52 :: vs 53 :: vs 54 :: vs 55 :: vs 56 :: vs 57 :: vs 58 :: vs 59 :: vs 60 :: vs 61 :: vs 62 :: vs 63 :: vs 64 :: vs 65 :: vs 66 :: vs 67 :: vs 68 :: vs 69 :: vs 70 :: vs 71 :: vs 72 :: vs 73 :: vs 74 :: _ :: _ :: _ :: _ :: _ :: _ :: _ :: _ :: _ :: _ :: _ :: _ :: _ :: _ :: _ :: _ :: _ :: _ :: _ :: _ :: _ :: _ :: _ :: _ :: _ :: _ :: _ :: _ :: _ :: _ :: _ :: _ :: _ :: _ :: _ :: _ :: _ :: _ :: _ :: _ :: _ :: _ :: _ :: _ :: _ :: _ :: _ :: _ :: _ :: _ :: _ :: _ :: _ :: _ :: _ :: _ :: _ :: _ :: _ :: []).toArray, defers := _ }) (fun n => [u93, u94, u95, u96, u97, u98, u99, u100, u101, u102, u103, u104, u105, u106, u107, u108, u109, u110, u111, u112, u113, u114, u115, u116, u117, u118, u119, u120, u121, u122, u123, u124, u125, u126, u127, u128, u129, u130, u131, u132, u133, u134, u135, u136, u137, u138, u139, u140, u141, u142, u143, u144, u145, u146, u147, u148, u149, u150, u151, u152, u153, u154, u155, u156, u157, u158, u159, u160, u161, u162, u163, u164, u165, u166, u167].getD n undef) rfl (by kernel_rfl) (fun _ _ _ _ h _ => h) ?step ?fin
                  case step =>
                    intro ix o ho
                    match ix, ho with
                    | 0, ho =>
                      obtain rfl := Option.some.inj ho
                      intro vs W K hB hD hK
                      have HK := Lib.hid hK
                      clear hK hD ho
                      dsimp only
                      go_simp
                      have h := HK.out _ _ (Below.refl _ _) rfl
                      simp only [upd, Nat.reduceEqDiff, reduceIte] at h
                      exact h
                    | 1, ho =>
                      obtain rfl := Option.some.inj ho
                      intro vs W K hB hD hK
                      have HK := Lib.hid hK
                      clear hK hD ho
                      dsimp only
                      go_simp
                      have h := HK.out _ _ (Below.refl _ _) rfl
                      simp only [upd, Nat.reduceEqDiff, reduceIte] at h
                      exact h
                    | 2, ho =>
                      obtain rfl := Option.some.inj ho
                      intro vs W K hB hD hK
                      have HK := Lib.hid hK
                      have e0 : vs 0 = .int .i64 (k : Int) := dep_of hD 0 (by rfl)
                      have e1 : vs 1 = .int .i64 (sk : Int) := dep_of hD 1 (by rfl)
                      clear hK hD ho
                      dsimp only
                      go_simp
                      have h := HK.out _ _ (Below.refl _ _) rfl
                      simp only [upd, Nat.reduceEqDiff, reduceIte, e0, e1] at h
                      exact h
                    | 3, ho =>
                      obtain rfl := Option.some.inj ho
                      intro vs W K hB hD hK
                      have HK := Lib.hid hK
                      have e2 : vs 2 = .bool false := dep_of hD 2 (by rfl)
                      clear hK hD ho
                      dsimp only
                      go_simp
                      have h := HK.out _ _ (Below.refl _ _) rfl
                      simp only [upd, Nat.reduceEqDiff, reduceIte, e2] at h
                      exact h
                    | 4, ho =>
                      obtain rfl := Option.some.inj ho
                      intro vs W K hB hD hK
                      have HK := Lib.hid hK
                      have e3 : vs 3 = .bool false := dep_of hD 3 (by rfl)
                      clear hK hD ho
                      dsimp only
                      go_simp
                      have h := HK.out _ _ (Below.refl _ _) rfl
                      simp only [upd, Nat.reduceEqDiff, reduceIte, e3] at h
                      exact h
                    | 5, ho =>
                      obtain rfl := Option.some.inj ho
                      intro vs W K hB hD hK
                      have HK := Lib.hid hK
                      have e3 : vs 3 = .bool false := dep_of hD 3 (by rfl)
                      have e4 : vs 4 = .pointer (some ⟨zx, 0, none⟩) := dep_of hD 4 (by rfl)
                      obtain ⟨b0, b1, b2⟩ := HX.out W hB
                      clear hK hD ho
                      dsimp only
                      go_simp
                      have h := HK.out _ _ (Below.refl _ _) rfl
                      simp only [upd, Nat.reduceEqDiff, reduceIte, e3, e4] at h
                      exact h
                    | 6, ho =>
                      obtain rfl := Option.some.inj ho
                      intro vs W K hB hD hK
                      have HK := Lib.hid hK
                      have e3 : vs 3 = .bool false := dep_of hD 3 (by rfl)
                      have e5 : vs 5 = .int .i64 y.st := dep_of hD 5 (by rfl)
                      clear hK hD ho
                      dsimp only
                      go_simp
                      have h := HK.out _ _ (Below.refl _ _) rfl
                      simp only [upd, Nat.reduceEqDiff, reduceIte, e3, e5] at h
                      exact h
                    | 7, ho =>
                      obtain rfl := Option.some.inj ho
                      intro vs W K hB hD hK
                      have HK := Lib.hid hK
                      have e3 : vs 3 = .bool false := dep_of hD 3 (by rfl)
                      have e6 : vs 6 = .bool false := dep_of hD 6 (by rfl)
                      clear hK hD ho
                      dsimp only
                      go_simp
                      have h := HK.out _ _ (Below.refl _ _) rfl
                      simp only [upd, Nat.reduceEqDiff, reduceIte, e3, e6] at h
                      exact h
                    | 8, ho =>
                      obtain rfl := Option.some.inj ho
                      intro vs W K hB hD hK
                      have HK := Lib.hid hK
                      have e7 : vs 7 = .bool false := dep_of hD 7 (by rfl)
                      clear hK hD ho
                      dsimp only
                      go_simp
                      have h := HK.out _ _ (Below.refl _ _) rfl
                      simp only [upd, Nat.reduceEqDiff, reduceIte, e7] at h
                      exact h
                    | 9, ho =>
                      obtain rfl := Option.some.inj ho
                      intro vs W K hB hD hK
                      have HK := Lib.hid hK
                      have e8 : vs 8 = .bool false := dep_of hD 8 (by rfl)
                      clear hK hD ho
                      dsimp only
                      go_simp
                      have h := HK.out _ _ (Below.refl _ _) rfl
                      simp only [upd, Nat.reduceEqDiff, reduceIte, e8] at h
                      exact h
                    | 10, ho =>
                      obtain rfl := Option.some.inj ho
                      intro vs W K hB hD hK
                      have HK := Lib.hid hK
                      have e8 : vs 8 = .bool false := dep_of hD 8 (by rfl)
                      have e9 : vs 9 = .pointer (some ⟨zx, 0, none⟩) := dep_of hD 9 (by rfl)
                      obtain ⟨b0, b1, b2⟩ := HX.out W hB
                      clear hK hD ho
                      dsimp only
                      go_simp
                      have h := HK.out _ _ (Below.refl _ _) rfl
                      simp only [upd, Nat.reduceEqDiff, reduceIte, e8, e9] at h
                      exact h
                    | 11, ho =>
                      obtain rfl := Option.some.inj ho
                      intro vs W K hB hD hK
                      have HK := Lib.hid hK
                      have e8 : vs 8 = .bool false := dep_of hD 8 (by rfl)
                      clear hK hD ho
                      dsimp only
                      go_simp
                      have h := HK.out _ _ (Below.refl _ _) rfl
                      simp only [upd, Nat.reduceEqDiff, reduceIte, e8] at h
                      exact h
                    | 12, ho =>
                      obtain rfl := Option.some.inj ho
                      intro vs W K hB hD hK
                      have HK := Lib.hid hK
                      have e8 : vs 8 = .bool false := dep_of hD 8 (by rfl)
                      have e11 : vs 11 = .pointer (some ⟨za, 2, none⟩) := dep_of hD 11 (by rfl)
                      obtain ⟨c0, c1, c2, c3⟩ := HA.out W hB
                      clear hK hD ho
                      dsimp only
                      go_simp
                      have h := HK.out _ _ (Below.refl _ _) rfl
                      simp only [upd, Nat.reduceEqDiff, reduceIte, e8, e11] at h
                      exact h
                    | 13, ho =>
                      obtain rfl := Option.some.inj ho
                      intro vs W K hB hD hK
                      have HK := Lib.hid hK
                      have e8 : vs 8 = .bool false := dep_of hD 8 (by rfl)
                      have e12 : vs 12 = .slice p2 n2 k2 := dep_of hD 12 (by rfl)
                      clear hK hD ho
                      dsimp only
                      go_simp
                      have h := HK.out _ _ (Below.refl _ _) rfl
                      simp only [upd, Nat.reduceEqDiff, reduceIte, e8, e12] at h
                      exact h
                    | 14, ho =>
                      obtain rfl := Option.some.inj ho
                      intro vs W K hB hD hK
                      have HK := Lib.hid hK
                      have e8 : vs 8 = .bool false := dep_of hD 8 (by rfl)
                      have e10 : vs 10 = .int .i64 y.st := dep_of hD 10 (by rfl)
                      have e13 : vs 13 = .int .i64 (n2 : Int) := dep_of hD 13 (by rfl)
                      clear hK hD ho
                      dsimp only
                      go_simp
                      have h := HK.out _ _ (Below.refl _ _) rfl
                      simp only [upd, Nat.reduceEqDiff, reduceIte, e8, e10, e13] at h
                      exact h
                    | 15, ho =>
                      obtain rfl := Option.some.inj ho
                      intro vs W K hB hD hK
                      have HK := Lib.hid hK
                      have e8 : vs 8 = .bool false := dep_of hD 8 (by rfl)
                      have e14 : vs 14 = .bool false := dep_of hD 14 (by rfl)
                      clear hK hD ho
                      dsimp only
                      go_simp
                      have h := HK.out _ _ (Below.refl _ _) rfl
                      simp only [upd, Nat.reduceEqDiff, reduceIte, e8, e14] at h
                      exact h
                    | 16, ho =>
                      obtain rfl := Option.some.inj ho
                      intro vs W K hB hD hK
                      have HK := Lib.hid hK
                      have e15 : vs 15 = .bool false := dep_of hD 15 (by rfl)
                      clear hK hD ho
                      dsimp only
                      go_simp
                      have h := HK.out _ _ (Below.refl _ _) rfl
                      simp only [upd, Nat.reduceEqDiff, reduceIte, e15] at h
                      exact h
                    | 17, ho =>
                      obtain rfl := Option.some.inj ho
                      intro vs W K hB hD hK
                      have HK := Lib.hid hK
                      have e16 : vs 16 = .bool false := dep_of hD 16 (by rfl)
                      clear hK hD ho
                      dsimp only
                      go_simp
                      have h := HK.out _ _ (Below.refl _ _) rfl
                      simp only [upd, Nat.reduceEqDiff, reduceIte, e16] at h
                      exact h
                    | 18, ho =>
                      obtain rfl := Option.some.inj ho
                      intro vs W K hB hD hK
                      have HK := Lib.hid hK
                      have e16 : vs 16 = .bool false := dep_of hD 16 (by rfl)
                      have e17 : vs 17 = .pointer (some ⟨zx, 1, none⟩) := dep_of hD 17 (by rfl)
                      obtain ⟨b0, b1, b2⟩ := HX.out W hB
                      clear hK hD ho
                      dsimp only
                      go_simp
                      have h := HK.out _ _ (Below.refl _ _) rfl
                      simp only [upd, Nat.reduceEqDiff, reduceIte, e16, e17] at h
                      exact h
                    | 19, ho =>
                      obtain rfl := Option.some.inj ho
                      intro vs W K hB hD hK
                      have HK := Lib.hid hK
                      have e16 : vs 16 = .bool false := dep_of hD 16 (by rfl)
                      have e18 : vs 18 = .int .i64 y.inn := dep_of hD 18 (by rfl)
                      clear hK hD ho
                      dsimp only
                      go_simp
                      have h := HK.out _ _ (Below.refl _ _) rfl
                      simp only [upd, Nat.reduceEqDiff, reduceIte, e16, e18] at h
                      exact h
                    | 20, ho =>
                      obtain rfl := Option.some.inj ho
                      intro vs W K hB hD hK
                      have HK := Lib.hid hK
                      have e16 : vs 16 = .bool false := dep_of hD 16 (by rfl)
                      have e19 : vs 19 = .bool false := dep_of hD 19 (by rfl)
                      clear hK hD ho
                      dsimp only
                      go_simp
                      have h := HK.out _ _ (Below.refl _ _) rfl
                      simp only [upd, Nat.reduceEqDiff, reduceIte, e16, e19] at h
                      exact h
                    | 21, ho =>
                      obtain rfl := Option.some.inj ho
                      intro vs W K hB hD hK
                      have HK := Lib.hid hK
                      have e20 : vs 20 = .bool false := dep_of hD 20 (by rfl)
                      clear hK hD ho
                      dsimp only
                      go_simp
                      have h := HK.out _ _ (Below.refl _ _) rfl
                      simp only [upd, Nat.reduceEqDiff, reduceIte, e20] at h
                      exact h
                    | 22, ho =>
                      obtain rfl := Option.some.inj ho
                      intro vs W K hB hD hK
                      have HK := Lib.hid hK
                      have e21 : vs 21 = .bool false := dep_of hD 21 (by rfl)
                      clear hK hD ho
                      dsimp only
                      go_simp
                      have h := HK.out _ _ (Below.refl _ _) rfl
                      simp only [upd, Nat.reduceEqDiff, reduceIte, e21] at h
                      exact h
                    | 23, ho =>
                      obtain rfl := Option.some.inj ho
                      intro vs W K hB hD hK
                      have HK := Lib.hid hK
                      have e21 : vs 21 = .bool false := dep_of hD 21 (by rfl)
                      have e22 : vs 22 = .pointer (some ⟨zx, 1, none⟩) := dep_of hD 22 (by rfl)
                      obtain ⟨b0, b1, b2⟩ := HX.out W hB
                      clear hK hD ho
                      dsimp only
                      go_simp
                      have h := HK.out _ _ (Below.refl _ _) rfl
                      simp only [upd, Nat.reduceEqDiff, reduceIte, e21, e22] at h
                      exact h
                    | 24, ho =>
                      obtain rfl := Option.some.inj ho
                      intro vs W K hB hD hK
                      have HK := Lib.hid hK
                      have e21 : vs 21 = .bool false := dep_of hD 21 (by rfl)
                      clear hK hD ho
                      dsimp only
                      go_simp
                      have h := HK.out _ _ (Below.refl _ _) rfl
                      simp only [upd, Nat.reduceEqDiff, reduceIte, e21] at h
                      exact h
                    | 25, ho =>
                      obtain rfl := Option.some.inj ho
                      intro vs W K hB hD hK
                      have HK := Lib.hid hK
                      have e21 : vs 21 = .bool false := dep_of hD 21 (by rfl)
                      have e24 : vs 24 = vl := dep_of hD 24 (by rfl)
                      clear hK hD ho
                      dsimp only
                      go_simp
                      refine (HIN.out W (HB1.out W hB)).mono ?_
                      rintro e W' ⟨rfl, hb⟩
                      have h := HK.out _ _ hb rfl
                      simp only [upd, Nat.reduceEqDiff, reduceIte, e21, e24] at h
                      exact h
                    | 26, ho =>
                      obtain rfl := Option.some.inj ho
                      intro vs W K hB hD hK
                      have HK := Lib.hid hK
                      have e21 : vs 21 = .bool false := dep_of hD 21 (by rfl)
                      have e23 : vs 23 = .int .i64 y.inn := dep_of hD 23 (by rfl)
                      have e25 : vs 25 = .int .i64 (inputsI l) := dep_of hD 25 (by rfl)
                      clear hK hD ho
                      dsimp only
                      go_simp
                      have h := HK.out _ _ (Below.refl _ _) rfl
                      simp only [upd, Nat.reduceEqDiff, reduceIte, e21, e23, e25] at h
                      exact h
                    | 27, ho =>
                      obtain rfl := Option.some.inj ho
                      intro vs W K hB hD hK
                      have HK := Lib.hid hK
                      have e21 : vs 21 = .bool false := dep_of hD 21 (by rfl)
                      have e26 : vs 26 = .bool false := dep_of hD 26 (by rfl)
                      clear hK hD ho
                      dsimp only
                      go_simp
                      have h := HK.out _ _ (Below.refl _ _) rfl
                      simp only [upd, Nat.reduceEqDiff, reduceIte, e21, e26] at h
                      exact h
                    | 28, ho =>
                      obtain rfl := Option.some.inj ho
                      intro vs W K hB hD hK
                      have HK := Lib.hid hK
                      have e27 : vs 27 = .bool false := dep_of hD 27 (by rfl)
                      clear hK hD ho
                      dsimp only
                      go_simp
                      have h := HK.out _ _ (Below.refl _ _) rfl
                      simp only [upd, Nat.reduceEqDiff, reduceIte, e27] at h
                      exact h
                    | 29, ho =>
                      obtain rfl := Option.some.inj ho
                      intro vs W K hB hD hK
                      have HK := Lib.hid hK
                      have e28 : vs 28 = .bool false := dep_of hD 28 (by rfl)
                      clear hK hD ho
                      dsimp only
                      go_simp
                      have h := HK.out _ _ (Below.refl _ _) rfl
                      simp only [upd, Nat.reduceEqDiff, reduceIte, e28] at h
                      exact h
                    | 30, ho =>
                      obtain rfl := Option.some.inj ho
                      intro vs W K hB hD hK
                      have HK := Lib.hid hK
                      have e28 : vs 28 = .bool false := dep_of hD 28 (by rfl)
                      have e29 : vs 29 = .pointer (some ⟨z6, 0, none⟩) := dep_of hD 29 (by rfl)
                      obtain ⟨d0, d1, d2⟩ := HG.out W hB
                      clear hK hD ho
                      dsimp only
                      go_simp
                      have h := HK.out _ _ (Below.refl _ _) rfl
                      simp only [upd, Nat.reduceEqDiff, reduceIte, e28, e29] at h
                      exact h
                    | 31, ho =>
                      obtain rfl := Option.some.inj ho
                      intro vs W K hB hD hK
                      have HK := Lib.hid hK
                      have e28 : vs 28 = .bool false := dep_of hD 28 (by rfl)
                      clear hK hD ho
                      dsimp only
                      go_simp
                      have h := HK.out _ _ (Below.refl _ _) rfl
                      simp only [upd, Nat.reduceEqDiff, reduceIte, e28] at h
                      exact h
                    | 32, ho =>
                      obtain rfl := Option.some.inj ho
                      intro vs W K hB hD hK
                      have HK := Lib.hid hK
                      have e28 : vs 28 = .bool false := dep_of hD 28 (by rfl)
                      have e30 : vs 30 = .slice (some ⟨ob, oo, none⟩) R j0 := dep_of hD 30 (by rfl)
                      have e31 : vs 31 = .int .i64 (k : Int) := dep_of hD 31 (by rfl)
                      clear hK hD ho
                      dsimp only
                      go_simp
                      have h := HK.out _ _ (Below.refl _ _) rfl
                      simp only [upd, Nat.reduceEqDiff, reduceIte, e28, e30, e31] at h
                      exact h
                    | 33, ho =>
                      obtain rfl := Option.some.inj ho
                      intro vs W K hB hD hK
                      have HK := Lib.hid hK
                      have e28 : vs 28 = .bool false := dep_of hD 28 (by rfl)
                      have e32 : vs 32 = .pointer (some ⟨ob, oo + k, none⟩) := dep_of hD 32 (by rfl)
                      have qo := HO.out W hB
                      clear hK hD ho
                      dsimp only
                      go_simp
                      have h := HK.out _ _ (Below.refl _ _) rfl
                      simp only [upd, Nat.reduceEqDiff, reduceIte, e28, e32] at h
                      exact h
                    | 34, ho =>
                      obtain rfl := Option.some.inj ho
                      intro vs W K hB hD hK
                      have HK := Lib.hid hK
                      have e28 : vs 28 = .bool false := dep_of hD 28 (by rfl)
                      have e33 : vs 33 = .int .i64 1 := dep_of hD 33 (by rfl)
                      clear hK hD ho
                      dsimp only
                      go_simp
                      have h := HK.out _ _ (Below.refl _ _) rfl
                      simp only [upd, Nat.reduceEqDiff, reduceIte, e28, e33] at h
                      exact h
                    | 35, ho =>
                      obtain rfl := Option.some.inj ho
                      intro vs W K hB hD hK
                      have HK := Lib.hid hK
                      have e28 : vs 28 = .bool false := dep_of hD 28 (by rfl)
                      clear hK hD ho
                      dsimp only
                      go_simp
                      have h := HK.out _ _ (Below.refl _ _) rfl
                      simp only [upd, Nat.reduceEqDiff, reduceIte, e28] at h
                      exact h
                    | 36, ho =>
                      obtain rfl := Option.some.inj ho
                      intro vs W K hB hD hK
                      have HK := Lib.hid hK
                      have e28 : vs 28 = .bool false := dep_of hD 28 (by rfl)
                      have e35 : vs 35 = .pointer (some ⟨zx, 1, none⟩) := dep_of hD 35 (by rfl)
                      obtain ⟨b0, b1, b2⟩ := HX.out W hB
                      clear hK hD ho
                      dsimp only
                      go_simp
                      have h := HK.out _ _ (Below.refl _ _) rfl
                      simp only [upd, Nat.reduceEqDiff, reduceIte, e28, e35] at h
                      exact h
                    | 37, ho =>
                      obtain rfl := Option.some.inj ho
                      intro vs W K hB hD hK
                      have HK := Lib.hid hK
                      have e28 : vs 28 = .bool false := dep_of hD 28 (by rfl)
                      have e36 : vs 36 = .int .i64 y.inn := dep_of hD 36 (by rfl)
                      clear hK hD ho
                      dsimp only
                      go_simp
                      have h := HK.out _ _ (Below.refl _ _) rfl
                      simp only [upd, Nat.reduceEqDiff, reduceIte, e28, e36] at h
                      exact h
                    | 38, ho =>
                      obtain rfl := Option.some.inj ho
                      intro vs W K hB hD hK
                      have HK := Lib.hid hK
                      have e28 : vs 28 = .bool false := dep_of hD 28 (by rfl)
                      have e34 : vs 34 = .bool true := dep_of hD 34 (by rfl)
                      have e37 : vs 37 = .bool true := dep_of hD 37 (by rfl)
                      clear hK hD ho
                      dsimp only
                      go_simp
                      have h := HK.out _ _ (Below.refl _ _) rfl
                      simp only [upd, Nat.reduceEqDiff, reduceIte, e28, e34, e37] at h
                      exact h
                    | 39, ho =>
                      obtain rfl := Option.some.inj ho
                      intro vs W K hB hD hK
                      have HK := Lib.hid hK
                      have e28 : vs 28 = .bool false := dep_of hD 28 (by rfl)
                      have e38 : vs 38 = .bool false := dep_of hD 38 (by rfl)
                      clear hK hD ho
                      dsimp only
                      go_simp
                      have h := HK.out _ _ (Below.refl _ _) rfl
                      simp only [upd, Nat.reduceEqDiff, reduceIte, e28, e38] at h
                      exact h
                    | 40, ho =>
                      obtain rfl := Option.some.inj ho
                      intro vs W K hB hD hK
                      have HK := Lib.hid hK
                      have e39 : vs 39 = .bool false := dep_of hD 39 (by rfl)
                      clear hK hD ho
                      dsimp only
                      go_simp
                      have h := HK.out _ _ (Below.refl _ _) rfl
                      simp only [upd, Nat.reduceEqDiff, reduceIte, e39] at h
                      exact h
                    | 41, ho =>
                      obtain rfl := Option.some.inj ho
                      intro vs W K hB hD hK
                      have HK := Lib.hid hK
                      have e40 : vs 40 = .bool false := dep_of hD 40 (by rfl)
                      clear hK hD ho
                      dsimp only
                      go_simp
                      have h := HK.out _ _ (Below.refl _ _) rfl
                      simp only [upd, Nat.reduceEqDiff, reduceIte, e40] at h
                      exact h
                    | 42, ho =>
                      obtain rfl := Option.some.inj ho
                      intro vs W K hB hD hK
                      have HK := Lib.hid hK
                      have e40 : vs 40 = .bool false := dep_of hD 40 (by rfl)
                      have e41 : vs 41 = .pointer (some ⟨zx, 1, none⟩) := dep_of hD 41 (by rfl)
                      obtain ⟨b0, b1, b2⟩ := HX.out W hB
                      clear hK hD ho
                      dsimp only
                      go_simp
                      have h := HK.out _ _ (Below.refl _ _) rfl
                      simp only [upd, Nat.reduceEqDiff, reduceIte, e40, e41] at h
                      exact h
                    | 43, ho =>
                      obtain rfl := Option.some.inj ho
                      intro vs W K hB hD hK
                      have HK := Lib.hid hK
                      have e40 : vs 40 = .bool false := dep_of hD 40 (by rfl)
                      have e42 : vs 42 = .int .i64 y.inn := dep_of hD 42 (by rfl)
                      clear hK hD ho
                      dsimp only
                      go_simp
                      have h := HK.out _ _ (Below.refl _ _) rfl
                      simp only [upd, Nat.reduceEqDiff, reduceIte, e40, e42] at h
                      exact h
                    | 44, ho =>
                      obtain rfl := Option.some.inj ho
                      intro vs W K hB hD hK
                      have HK := Lib.hid hK
                      have e40 : vs 40 = .bool false := dep_of hD 40 (by rfl)
                      have e43 : vs 43 = .bool true := dep_of hD 43 (by rfl)
                      clear hK hD ho
                      dsimp only
                      go_simp
                      have h := HK.out _ _ (Below.refl _ _) rfl
                      simp only [upd, Nat.reduceEqDiff, reduceIte, e40, e43] at h
                      exact h
                    | 45, ho =>
                      obtain rfl := Option.some.inj ho
                      intro vs W K hB hD hK
                      have HK := Lib.hid hK
                      have e44 : vs 44 = .bool true := dep_of hD 44 (by rfl)
                      clear hK hD ho
                      dsimp only
                      go_simp
                      have h := HK.out _ _ (Below.refl _ _) rfl
                      simp only [upd, Nat.reduceEqDiff, reduceIte, e44] at h
                      exact h
                    | 46, ho =>
                      obtain rfl := Option.some.inj ho
                      intro vs W K hB hD hK
                      have HK := Lib.hid hK
                      have e44 : vs 44 = .bool true := dep_of hD 44 (by rfl)
                      have e45 : vs 45 = .pointer (some ⟨z6, 1, none⟩) := dep_of hD 45 (by rfl)
                      obtain ⟨d0, d1, d2⟩ := HG.out W hB
                      clear hK hD ho
                      dsimp only
                      go_simp
                      have h := HK.out _ _ (Below.refl _ _) rfl
                      simp only [upd, Nat.reduceEqDiff, reduceIte, e44, e45] at h
                      exact h
                    | 47, ho =>
                      obtain rfl := Option.some.inj ho
                      intro vs W K hB hD hK
                      have HK := Lib.hid hK
                      have e44 : vs 44 = .bool true := dep_of hD 44 (by rfl)
                      clear hK hD ho
                      dsimp only
                      go_simp
                      have h := HK.out _ _ (Below.refl _ _) rfl
                      simp only [upd, Nat.reduceEqDiff, reduceIte, e44] at h
                      exact h
                    | 48, ho =>
                      obtain rfl := Option.some.inj ho
                      intro vs W K hB hD hK
                      have HK := Lib.hid hK
                      have e44 : vs 44 = .bool true := dep_of hD 44 (by rfl)
                      have e46 : vs 46 = .slice (some ⟨qb, qo, none⟩) R j1 := dep_of hD 46 (by rfl)
                      have e47 : vs 47 = .int .i64 (k : Int) := dep_of hD 47 (by rfl)
                      clear hK hD ho
                      dsimp only
                      go_simp
                      have h := HK.out _ _ (Below.refl _ _) rfl
                      simp only [upd, Nat.reduceEqDiff, reduceIte, e44, e46, e47] at h
                      exact h
                    | 49, ho =>
                      obtain rfl := Option.some.inj ho
                      intro vs W K hB hD hK
                      have HK := Lib.hid hK
                      have e44 : vs 44 = .bool true := dep_of hD 44 (by rfl)
                      have e48 : vs 48 = .pointer (some ⟨qb, qo + k, none⟩) := dep_of hD 48 (by rfl)
                      have qp := HPR.out W hB
                      clear hK hD ho
                      dsimp only
                      go_simp
                      have h := HK.out _ _ (Below.refl _ _) rfl
                      simp only [upd, Nat.reduceEqDiff, reduceIte, e44, e48] at h
                      exact h
                    | 50, ho =>
                      obtain rfl := Option.some.inj ho
                      intro vs W K hB hD hK
                      have HK := Lib.hid hK
                      have e44 : vs 44 = .bool true := dep_of hD 44 (by rfl)
                      clear hK hD ho
                      dsimp only
                      go_simp
                      have h := HK.out _ _ (Below.refl _ _) rfl
                      simp only [upd, Nat.reduceEqDiff, reduceIte, e44] at h
                      exact h
                    | 51, ho =>
                      obtain rfl := Option.some.inj ho
                      intro vs W K hB hD hK
                      have HK := Lib.hid hK
                      have e44 : vs 44 = .bool true := dep_of hD 44 (by rfl)
                      have e50 : vs 50 = .pointer (some ⟨zx, 2, none⟩) := dep_of hD 50 (by rfl)
                      obtain ⟨b0, b1, b2⟩ := HX.out W hB
                      clear hK hD ho
                      dsimp only
                      go_simp
                      have h := HK.out _ _ (Below.refl _ _) rfl
                      simp only [upd, Nat.reduceEqDiff, reduceIte, e44, e50] at h
                      exact h
                    | 52, ho =>
                      obtain rfl := Option.some.inj ho
                      intro vs W K hB hD hK
                      have HK := Lib.hid hK
                      have e44 : vs 44 = .bool true := dep_of hD 44 (by rfl)
                      have e49 : vs 49 = .int .i64 pk := dep_of hD 49 (by rfl)
                      have e51 : vs 51 = .int .i64 y.pr := dep_of hD 51 (by rfl)
                      clear hK hD ho
                      dsimp only
                      go_simp
                      have h := HK.out _ _ (Below.refl _ _) rfl
                      simp only [upd, Nat.reduceEqDiff, reduceIte, e44, e49, e51] at h
                      exact h
                    | 53, ho =>
                      obtain rfl := Option.some.inj ho
                      intro vs W K hB hD hK
                      have HK := Lib.hid hK
                      have e40 : vs 40 = .bool false := dep_of hD 40 (by rfl)
                      have e44 : vs 44 = .bool true := dep_of hD 44 (by rfl)
                      have e52 : vs 52 = .bool false := dep_of hD 52 (by rfl)
                      clear hK hD ho
                      dsimp only
                      go_simp
                      have h := HK.out _ _ (Below.refl _ _) rfl
                      simp only [upd, Nat.reduceEqDiff, reduceIte, e40, e44, e52] at h
                      exact h
                    | 54, ho =>
                      obtain rfl := Option.some.inj ho
                      intro vs W K hB hD hK
                      have HK := Lib.hid hK
                      have e40 : vs 40 = .bool false := dep_of hD 40 (by rfl)
                      have e53 : vs 53 = .bool false := dep_of hD 53 (by rfl)
                      clear hK hD ho
                      dsimp only
                      go_simp
                      have h := HK.out _ _ (Below.refl _ _) rfl
                      simp only [upd, Nat.reduceEqDiff, reduceIte, e40, e53] at h
                      exact h
                    | 55, ho =>
                      obtain rfl := Option.some.inj ho
                      intro vs W K hB hD hK
                      have HK := Lib.hid hK
                      have e54 : vs 54 = .bool false := dep_of hD 54 (by rfl)
                      clear hK hD ho
                      dsimp only
                      go_simp
                      have h := HK.out _ _ (Below.refl _ _) rfl
                      simp only [upd, Nat.reduceEqDiff, reduceIte, e54] at h
                      exact h
                    | 56, ho =>
                      obtain rfl := Option.some.inj ho
                      intro vs W K hB hD hK
                      have HK := Lib.hid hK
                      have e55 : vs 55 = .bool false := dep_of hD 55 (by rfl)
                      clear hK hD ho
                      dsimp only
                      go_simp
                      have h := HK.out _ _ (Below.refl _ _) rfl
                      simp only [upd, Nat.reduceEqDiff, reduceIte, e55] at h
                      exact h
                    | 57, ho =>
                      obtain rfl := Option.some.inj ho
                      intro vs W K hB hD hK
                      have HK := Lib.hid hK
                      have e55 : vs 55 = .bool false := dep_of hD 55 (by rfl)
                      have e56 : vs 56 = .pointer (some ⟨zx, 1, none⟩) := dep_of hD 56 (by rfl)
                      obtain ⟨b0, b1, b2⟩ := HX.out W hB
                      clear hK hD ho
                      dsimp only
                      go_simp
                      have h := HK.out _ _ (Below.refl _ _) rfl
                      simp only [upd, Nat.reduceEqDiff, reduceIte, e55, e56] at h
                      exact h
                    | 58, ho =>
                      obtain rfl := Option.some.inj ho
                      intro vs W K hB hD hK
                      have HK := Lib.hid hK
                      have e55 : vs 55 = .bool false := dep_of hD 55 (by rfl)
                      have e57 : vs 57 = .int .i64 y.inn := dep_of hD 57 (by rfl)
                      clear hK hD ho
                      dsimp only
                      go_simp
                      have h := HK.out _ _ (Below.refl _ _) rfl
                      simp only [upd, Nat.reduceEqDiff, reduceIte, e55, e57] at h
                      exact h
                    | 59, ho =>
                      obtain rfl := Option.some.inj ho
                      intro vs W K hB hD hK
                      have HK := Lib.hid hK
                      have e55 : vs 55 = .bool false := dep_of hD 55 (by rfl)
                      have e58 : vs 58 = .bool false := dep_of hD 58 (by rfl)
                      clear hK hD ho
                      dsimp only
                      go_simp
                      have h := HK.out _ _ (Below.refl _ _) rfl
                      simp only [upd, Nat.reduceEqDiff, reduceIte, e55, e58] at h
                      exact h
                    | 60, ho =>
                      obtain rfl := Option.some.inj ho
                      intro vs W K hB hD hK
                      have HK := Lib.hid hK
                      have e59 : vs 59 = .bool false := dep_of hD 59 (by rfl)
                      clear hK hD ho
                      dsimp only
                      go_simp
                      have h := HK.out _ _ (Below.refl _ _) rfl
                      simp only [upd, Nat.reduceEqDiff, reduceIte, e59] at h
                      exact h
                    | 61, ho =>
                      obtain rfl := Option.some.inj ho
                      intro vs W K hB hD hK
                      have HK := Lib.hid hK
                      have e59 : vs 59 = .bool false := dep_of hD 59 (by rfl)
                      clear hK hD ho
                      dsimp only
                      go_simp
                      have h := HK.out _ _ (Below.refl _ _) rfl
                      simp only [upd, Nat.reduceEqDiff, reduceIte, e59] at h
                      exact h
                    | 62, ho =>
                      obtain rfl := Option.some.inj ho
                      intro vs W K hB hD hK
                      have HK := Lib.hid hK
                      have e59 : vs 59 = .bool false := dep_of hD 59 (by rfl)
                      clear hK hD ho
                      dsimp only
                      go_simp
                      have h := HK.out _ _ (Below.refl _ _) rfl
                      simp only [upd, Nat.reduceEqDiff, reduceIte, e59] at h
                      exact h
                    | 63, ho =>
                      obtain rfl := Option.some.inj ho
                      intro vs W K hB hD hK
                      have HK := Lib.hid hK
                      have e59 : vs 59 = .bool false := dep_of hD 59 (by rfl)
                      clear hK hD ho
                      dsimp only
                      go_simp
                      have h := HK.out _ _ (Below.refl _ _) rfl
                      simp only [upd, Nat.reduceEqDiff, reduceIte, e59] at h
                      exact h
                    | 64, ho =>
                      obtain rfl := Option.some.inj ho
                      intro vs W K hB hD hK
                      have HK := Lib.hid hK
                      have e63 : vs 63 = undef := dep_of hD 63 (by rfl)
                      clear hK hD ho
                      dsimp only
                      go_simp
                      have h := HK.out _ _ (Below.refl _ _) rfl
                      simp only [upd, Nat.reduceEqDiff, reduceIte, e63] at h
                      exact h
                    | 65, ho =>
                      obtain rfl := Option.some.inj ho
                      intro vs W K hB hD hK
                      have HK := Lib.hid hK
                      have e63 : vs 63 = undef := dep_of hD 63 (by rfl)
                      clear hK hD ho
                      dsimp only
                      go_simp
                      have h := HK.out _ _ (Below.refl _ _) rfl
                      simp only [upd, Nat.reduceEqDiff, reduceIte, e63] at h
                      exact h
                    | 66, ho =>
                      obtain rfl := Option.some.inj ho
                      intro vs W K hB hD hK
                      have HK := Lib.hid hK
                      have e63 : vs 63 = undef := dep_of hD 63 (by rfl)
                      clear hK hD ho
                      dsimp only
                      go_simp
                      have h := HK.out _ _ (Below.refl _ _) rfl
                      simp only [upd, Nat.reduceEqDiff, reduceIte, e63] at h
                      exact h
                    | 67, ho =>
                      obtain rfl := Option.some.inj ho
                      intro vs W K hB hD hK
                      have HK := Lib.hid hK
                      have e63 : vs 63 = undef := dep_of hD 63 (by rfl)
                      clear hK hD ho
                      dsimp only
                      go_simp
                      have h := HK.out _ _ (Below.refl _ _) rfl
                      simp only [upd, Nat.reduceEqDiff, reduceIte, e63] at h
                      exact h
                    | 68, ho =>
                      obtain rfl := Option.some.inj ho
                      intro vs W K hB hD hK
                      have HK := Lib.hid hK
                      have e63 : vs 63 = undef := dep_of hD 63 (by rfl)
                      clear hK hD ho
                      dsimp only
                      go_simp
                      have h := HK.out _ _ (Below.refl _ _) rfl
                      simp only [upd, Nat.reduceEqDiff, reduceIte, e63] at h
                      exact h
                    | 69, ho =>
                      obtain rfl := Option.some.inj ho
                      intro vs W K hB hD hK
                      have HK := Lib.hid hK
                      have e63 : vs 63 = undef := dep_of hD 63 (by rfl)
                      clear hK hD ho
                      dsimp only
                      go_simp
                      have h := HK.out _ _ (Below.refl _ _) rfl
                      simp only [upd, Nat.reduceEqDiff, reduceIte, e63] at h
                      exact h
                    | 70, ho =>
                      obtain rfl := Option.some.inj ho
                      intro vs W K hB hD hK
                      have HK := Lib.hid hK
                      have e63 : vs 63 = undef := dep_of hD 63 (by rfl)
                      clear hK hD ho
                      dsimp only
                      go_simp
                      have h := HK.out _ _ (Below.refl _ _) rfl
                      simp only [upd, Nat.reduceEqDiff, reduceIte, e63] at h
                      exact h
                    | 71, ho =>
                      obtain rfl := Option.some.inj ho
                      intro vs W K hB hD hK
                      have HK := Lib.hid hK
                      have e63 : vs 63 = undef := dep_of hD 63 (by rfl)
                      clear hK hD ho
                      dsimp only
                      go_simp
                      have h := HK.out _ _ (Below.refl _ _) rfl
                      simp only [upd, Nat.reduceEqDiff, reduceIte, e63] at h
                      exact h
                    | 72, ho =>
                      obtain rfl := Option.some.inj ho
                      intro vs W K hB hD hK
                      have HK := Lib.hid hK
                      have e59 : vs 59 = .bool false := dep_of hD 59 (by rfl)
                      clear hK hD ho
                      dsimp only
                      go_simp
                      have h := HK.out _ _ (Below.refl _ _) rfl
                      simp only [upd, Nat.reduceEqDiff, reduceIte, e59] at h
                      exact h
                    | 73, ho =>
                      obtain rfl := Option.some.inj ho
                      intro vs W K hB hD hK
                      have HK := Lib.hid hK
                      have e55 : vs 55 = .bool false := dep_of hD 55 (by rfl)
                      have e59 : vs 59 = .bool false := dep_of hD 59 (by rfl)
                      clear hK hD ho
                      dsimp only
                      go_simp
                      have h := HK.out _ _ (Below.refl _ _) rfl
                      simp only [upd, Nat.reduceEqDiff, reduceIte, e55, e59] at h
                      exact h
                    | 74, ho =>
                      obtain rfl := Option.some.inj ho
                      intro vs W K hB hD hK
                      have HK := Lib.hid hK
                      have e55 : vs 55 = .bool false := dep_of hD 55 (by rfl)
                      have e73 : vs 73 = .bool false := dep_of hD 73 (by rfl)
                      clear hK hD ho
                      dsimp only
                      go_simp
                      have h := HK.out _ _ (Below.refl _ _) rfl
                      simp only [upd, Nat.reduceEqDiff, reduceIte, e55, e73] at h
                      exact h
                    | q + 75, ho => exact absurd ho (by simp)
                  case fin =>
                    intro vs W hB hall
                    have e74 : vs 74 = .bool false := hall 74 (by decide)
                    have HB5 := Lib.hid (HB1.out W hB)
                    clear hall hB
                    rw [e74]
                    clear e74
                    generalize vs 0 = q0
                    generalize vs 1 = q1
                    generalize vs 2 = q2
                    generalize vs 3 = q3
                    generalize vs 4 = q4
                    generalize vs 5 = q5
                    generalize vs 6 = q6
                    generalize vs 7 = q7
                    generalize vs 8 = q8
                    generalize vs 9 = q9
                    generalize vs 10 = q10
                    generalize vs 11 = q11
                    generalize vs 12 = q12
                    generalize vs 13 = q13
                    generalize vs 14 = q14
                    generalize vs 15 = q15
                    generalize vs 16 = q16
                    generalize vs 17 = q17
                    generalize vs 18 = q18
                    generalize vs 19 = q19
                    generalize vs 20 = q20
                    generalize vs 21 = q21
                    generalize vs 22 = q22
                    generalize vs 23 = q23
                    generalize vs 24 = q24
                    generalize vs 25 = q25
                    generalize vs 26 = q26
                    generalize vs 27 = q27
                    generalize vs 28 = q28
                    generalize vs 29 = q29
                    generalize vs 30 = q30
                    generalize vs 31 = q31
                    generalize vs 32 = q32
                    generalize vs 33 = q33
                    generalize vs 34 = q34
                    generalize vs 35 = q35
                    generalize vs 36 = q36
                    generalize vs 37 = q37
                    generalize vs 38 = q38
                    generalize vs 39 = q39
                    generalize vs 40 = q40
                    generalize vs 41 = q41
                    generalize vs 42 = q42
                    generalize vs 43 = q43
                    generalize vs 44 = q44
                    generalize vs 45 = q45
                    generalize vs 46 = q46
                    generalize vs 47 = q47
                    generalize vs 48 = q48
                    generalize vs 49 = q49
                    generalize vs 50 = q50
                    generalize vs 51 = q51
                    generalize vs 52 = q52
                    generalize vs 53 = q53
                    generalize vs 54 = q54
                    generalize vs 55 = q55
                    generalize vs 56 = q56
                    generalize vs 57 = q57
                    generalize vs 58 = q58
                    generalize vs 59 = q59
                    generalize vs 60 = q60
                    generalize vs 61 = q61
                    generalize vs 62 = q62
                    generalize vs 63 = q63
                    generalize vs 64 = q64
                    generalize vs 65 = q65
                    generalize vs 66 = q66
                    generalize vs 67 = q67
                    generalize vs 68 = q68
                    generalize vs 69 = q69
                    generalize vs 70 = q70
                    generalize vs 71 = q71
                    generalize vs 72 = q72
                    generalize vs 73 = q73
                    clear vs
                    go_wp2_with fail
                    go_meet
                    case rel => exact ⟨rfl, HB5.out⟩
                · have s4 : decide (y.inn < -1) = false := decide_eq_false (by omega)
                  have s6 : (y.inn == -1) = false := by simp; omega
                  have s7 : decide (0 ≤ y.inn) = true := decide_eq_true i1
                  have s8 : (y.pr != -1) = false := by rw [i2]; rfl
                  obtain ⟨pk, hpk⟩ : ∃ pk, pk = topA a := ⟨_, rfl⟩
                  have s9 : (pk != topA a) = false := by rw [hpk]; simp
                  have HO : Hid (∀ W, Below w7.drew.heap.size w7.drew W → W.cell? ⟨ob, oo + k, none⟩ = some (.int .i64 0)) := fun W h => by
                    have := cellB (HB1.out W h) C0
                    rwa [show plOwn y = 0 by unfold plOwn; rw [if_neg (by omega)]] at this
                  have HPR : Hid (∀ W, Below w7.drew.heap.size w7.drew W → W.cell? ⟨qb, qo + k, none⟩ = some (.int .i64 pk)) := fun W h => by
                    have := cellB (HB1.out W h) C1
                    rwa [show plPri (topA a) y = pk by unfold plPri; rw [if_neg (by omega), hpk]] at this
                  clear i1 i2 hpk hyin hyst hin0 C0 C1 C2 iS hl ha hx y6 xb
                  refine region_stable hmx (RP19a a l vl y k sk R z6 za zx pb po cp ob oo qb qo pk j0 j1 p2 p3 n2 k2 n3 k3) (fun vs => { tmps := (_ :: _ :: _ :: _ :: _ :: _ :: _ :: _ :: _ :: _ :: _ :: _ :: _ :: _ :: _ :: _ :: _ :: _ :: _ :: _ :: _ :: _ :: _ :: _ :: _ :: _ :: _ :: _ :: _ :: _ :: _ :: _ :: _ :: _ :: _ :: _ :: _ :: _ :: _ :: _ :: _ :: _ :: _ :: _ :: _ :: _ :: _ :: _ :: _ :: _ :: _ :: _ :: _ :: _ :: _ :: _ :: _ :: _ :: _ :: _ :: _ :: _ :: _ :: _ :: _ :: _ :: _ :: _ :: _ :: _ :: _ :: _ :: _ :: _ :: _ :: _ :: _ :: _ :: _ :: _ :: _ :: _ :: _ :: _ :: _ :: _ :: _ :: _ :: _ :: _ :: _ :: _ :: _ :: vs 0 :: vs 1 :: vs 2 :: vs 3 :: vs 4 :: vs 5 :: vs 6 :: vs 7 :: vs 8 :: vs 9 :: vs 10 :: vs 11 :: vs 12 :: vs 13 :: vs 14 :: vs 15 :: vs 16 :: vs 17 :: vs 18 :: vs 19 :: vs 20 :: vs 21 :: vs 22 :: vs 23 :: vs 24 :: vs 25 :: vs 26 :: vs 27 :: vs 28 :: vs 29 :: vs 30 :: vs 31 :: vs 32 :: vs 33 :: vs 34 :: vs 35 :: vs 36 :: vs 37 :: vs 38 :: vs 39 :: vs 40 :: vs 41 :: vs 42 :: vs 43 :: vs 44 :: vs 45 :: vs 46 :: vs 47 :: vs 48 :: vs 49 :: vs 50 :: vs 51 :: vs 52 :: vs 53 :: vs 54 :: vs 55 :: vs 56 :: vs 57 :: vs 58 :: vs 59 :: vs 60 :: vs 61 :: vs 62 :: vs 63 :: vs 64 :: vs 65 :: vs 66 :: vs 67 :: vs 68 :: vs 69 :: vs 70 :: vs 71 :: vs 72 :: vs 73 :: vs 74 :: _ :: _ :: _ :: _ :: _ :: _ :: _ :: _ :: _ :: _ :: _ :: _ :: _ :: _ :: _ :: _ :: _ :: _ :: _ :: _ :: _ :: _ :: _ :: _ :: _ :: _ :: _ :: _ :: _ :: _ :: _ :: _ :: _ :: _ :: _ :: _ :: _ :: _ :: _ :: _ :: _ :: _ :: _ :: _ :: _ :: _ :: _ :: _ :: _ :: _ :: _ :: _ :: _ :: _ :: _ :: _ :: _ :: _ :: _ :: []).toArray, defers := _ }) (fun n => [u93, u94, u95, u96, u97, u98, u99, u100, u101, u102, u103, u104, u105, u106, u107, u108, u109, u110, u111, u112, u113, u114, u115, u116, u117, u118, u119, u120, u121, u122, u123, u124, u125, u126, u127, u128, u129, u130, u131, u132, u133, u134, u135, u136, u137, u138, u139, u140, u141, u142, u143, u144, u145, u146, u147, u148, u149, u150, u151, u152, u153, u154, u155, u156, u157, u158, u159, u160, u161, u162, u163, u164, u165, u166, u167].getD n undef) rfl (by kernel_rfl) (fun _ _ _ _ h _ => h) ?step ?fin
                  case step =>
                    intro ix o ho
                    match ix, ho with
                    | 0, ho =>
                      obtain rfl := Option.some.inj ho
                      intro vs W K hB hD hK
                      have HK := Lib.hid hK
                      clear hK hD ho
                      dsimp only
                      go_simp
                      have h := HK.out _ _ (Below.refl _ _) rfl
                      simp only [upd, Nat.reduceEqDiff, reduceIte] at h
                      exact h
                    | 1, ho =>
                      obtain rfl := Option.some.inj ho
                      intro vs W K hB hD hK
                      have HK := Lib.hid hK
                      clear hK hD ho
                      dsimp only
                      go_simp
                      have h := HK.out _ _ (Below.refl _ _) rfl
                      simp only [upd, Nat.reduceEqDiff, reduceIte] at h
                      exact h
                    | 2, ho =>
                      obtain rfl := Option.some.inj ho
                      intro vs W K hB hD hK
                      have HK := Lib.hid hK
                      have e0 : vs 0 = .int .i64 (k : Int) := dep_of hD 0 (by rfl)
                      have e1 : vs 1 = .int .i64 (sk : Int) := dep_of hD 1 (by rfl)
                      clear hK hD ho
                      dsimp only
                      go_simp
                      have h := HK.out _ _ (Below.refl _ _) rfl
                      simp only [upd, Nat.reduceEqDiff, reduceIte, e0, e1] at h
                      exact h
                    | 3, ho =>
                      obtain rfl := Option.some.inj ho
                      intro vs W K hB hD hK
                      have HK := Lib.hid hK
                      have e2 : vs 2 = .bool false := dep_of hD 2 (by rfl)
                      clear hK hD ho
                      dsimp only
                      go_simp
                      have h := HK.out _ _ (Below.refl _ _) rfl
                      simp only [upd, Nat.reduceEqDiff, reduceIte, e2] at h
                      exact h
                    | 4, ho =>
                      obtain rfl := Option.some.inj ho
                      intro vs W K hB hD hK
                      have HK := Lib.hid hK
                      have e3 : vs 3 = .bool false := dep_of hD 3 (by rfl)
                      clear hK hD ho
                      dsimp only
                      go_simp
                      have h := HK.out _ _ (Below.refl _ _) rfl
                      simp only [upd, Nat.reduceEqDiff, reduceIte, e3] at h
                      exact h
                    | 5, ho =>
                      obtain rfl := Option.some.inj ho
                      intro vs W K hB hD hK
                      have HK := Lib.hid hK
                      have e3 : vs 3 = .bool false := dep_of hD 3 (by rfl)
                      have e4 : vs 4 = .pointer (some ⟨zx, 0, none⟩) := dep_of hD 4 (by rfl)
                      obtain ⟨b0, b1, b2⟩ := HX.out W hB
                      clear hK hD ho
                      dsimp only
                      go_simp
                      have h := HK.out _ _ (Below.refl _ _) rfl
                      simp only [upd, Nat.reduceEqDiff, reduceIte, e3, e4] at h
                      exact h
                    | 6, ho =>
                      obtain rfl := Option.some.inj ho
                      intro vs W K hB hD hK
                      have HK := Lib.hid hK
                      have e3 : vs 3 = .bool false := dep_of hD 3 (by rfl)
                      have e5 : vs 5 = .int .i64 y.st := dep_of hD 5 (by rfl)
                      clear hK hD ho
                      dsimp only
                      go_simp
                      have h := HK.out _ _ (Below.refl _ _) rfl
                      simp only [upd, Nat.reduceEqDiff, reduceIte, e3, e5] at h
                      exact h
                    | 7, ho =>
                      obtain rfl := Option.some.inj ho
                      intro vs W K hB hD hK
                      have HK := Lib.hid hK
                      have e3 : vs 3 = .bool false := dep_of hD 3 (by rfl)
                      have e6 : vs 6 = .bool false := dep_of hD 6 (by rfl)
                      clear hK hD ho
                      dsimp only
                      go_simp
                      have h := HK.out _ _ (Below.refl _ _) rfl
                      simp only [upd, Nat.reduceEqDiff, reduceIte, e3, e6] at h
                      exact h
                    | 8, ho =>
                      obtain rfl := Option.some.inj ho
                      intro vs W K hB hD hK
                      have HK := Lib.hid hK
                      have e7 : vs 7 = .bool false := dep_of hD 7 (by rfl)
                      clear hK hD ho
                      dsimp only
                      go_simp
                      have h := HK.out _ _ (Below.refl _ _) rfl
                      simp only [upd, Nat.reduceEqDiff, reduceIte, e7] at h
                      exact h
                    | 9, ho =>
                      obtain rfl := Option.some.inj ho
                      intro vs W K hB hD hK
                      have HK := Lib.hid hK
                      have e8 : vs 8 = .bool false := dep_of hD 8 (by rfl)
                      clear hK hD ho
                      dsimp only
                      go_simp
                      have h := HK.out _ _ (Below.refl _ _) rfl
                      simp only [upd, Nat.reduceEqDiff, reduceIte, e8] at h
                      exact h
                    | 10, ho =>
                      obtain rfl := Option.some.inj ho
                      intro vs W K hB hD hK
                      have HK := Lib.hid hK
                      have e8 : vs 8 = .bool false := dep_of hD 8 (by rfl)
                      have e9 : vs 9 = .pointer (some ⟨zx, 0, none⟩) := dep_of hD 9 (by rfl)
                      obtain ⟨b0, b1, b2⟩ := HX.out W hB
                      clear hK hD ho
                      dsimp only
                      go_simp
                      have h := HK.out _ _ (Below.refl _ _) rfl
                      simp only [upd, Nat.reduceEqDiff, reduceIte, e8, e9] at h
                      exact h
                    | 11, ho =>
                      obtain rfl := Option.some.inj ho
                      intro vs W K hB hD hK
                      have HK := Lib.hid hK
                      have e8 : vs 8 = .bool false := dep_of hD 8 (by rfl)
                      clear hK hD ho
                      dsimp only
                      go_simp
                      have h := HK.out _ _ (Below.refl _ _) rfl
                      simp only [upd, Nat.reduceEqDiff, reduceIte, e8] at h
                      exact h
                    | 12, ho =>
                      obtain rfl := Option.some.inj ho
                      intro vs W K hB hD hK
                      have HK := Lib.hid hK
                      have e8 : vs 8 = .bool false := dep_of hD 8 (by rfl)
                      have e11 : vs 11 = .pointer (some ⟨za, 2, none⟩) := dep_of hD 11 (by rfl)
                      obtain ⟨c0, c1, c2, c3⟩ := HA.out W hB
                      clear hK hD ho
                      dsimp only
                      go_simp
                      have h := HK.out _ _ (Below.refl _ _) rfl
                      simp only [upd, Nat.reduceEqDiff, reduceIte, e8, e11] at h
                      exact h
                    | 13, ho =>
                      obtain rfl := Option.some.inj ho
                      intro vs W K hB hD hK
                      have HK := Lib.hid hK
                      have e8 : vs 8 = .bool false := dep_of hD 8 (by rfl)
                      have e12 : vs 12 = .slice p2 n2 k2 := dep_of hD 12 (by rfl)
                      clear hK hD ho
                      dsimp only
                      go_simp
                      have h := HK.out _ _ (Below.refl _ _) rfl
                      simp only [upd, Nat.reduceEqDiff, reduceIte, e8, e12] at h
                      exact h
                    | 14, ho =>
                      obtain rfl := Option.some.inj ho
                      intro vs W K hB hD hK
                      have HK := Lib.hid hK
                      have e8 : vs 8 = .bool false := dep_of hD 8 (by rfl)
                      have e10 : vs 10 = .int .i64 y.st := dep_of hD 10 (by rfl)
                      have e13 : vs 13 = .int .i64 (n2 : Int) := dep_of hD 13 (by rfl)
                      clear hK hD ho
                      dsimp only
                      go_simp
                      have h := HK.out _ _ (Below.refl _ _) rfl
                      simp only [upd, Nat.reduceEqDiff, reduceIte, e8, e10, e13] at h
                      exact h
                    | 15, ho =>
                      obtain rfl := Option.some.inj ho
                      intro vs W K hB hD hK
                      have HK := Lib.hid hK
                      have e8 : vs 8 = .bool false := dep_of hD 8 (by rfl)
                      have e14 : vs 14 = .bool false := dep_of hD 14 (by rfl)
                      clear hK hD ho
                      dsimp only
                      go_simp
                      have h := HK.out _ _ (Below.refl _ _) rfl
                      simp only [upd, Nat.reduceEqDiff, reduceIte, e8, e14] at h
                      exact h
                    | 16, ho =>
                      obtain rfl := Option.some.inj ho
                      intro vs W K hB hD hK
                      have HK := Lib.hid hK
                      have e15 : vs 15 = .bool false := dep_of hD 15 (by rfl)
                      clear hK hD ho
                      dsimp only
                      go_simp
                      have h := HK.out _ _ (Below.refl _ _) rfl
                      simp only [upd, Nat.reduceEqDiff, reduceIte, e15] at h
                      exact h
                    | 17, ho =>
                      obtain rfl := Option.some.inj ho
                      intro vs W K hB hD hK
                      have HK := Lib.hid hK
                      have e16 : vs 16 = .bool false := dep_of hD 16 (by rfl)
                      clear hK hD ho
                      dsimp only
                      go_simp
                      have h := HK.out _ _ (Below.refl _ _) rfl
                      simp only [upd, Nat.reduceEqDiff, reduceIte, e16] at h
                      exact h
                    | 18, ho =>
                      obtain rfl := Option.some.inj ho
                      intro vs W K hB hD hK
                      have HK := Lib.hid hK
                      have e16 : vs 16 = .bool false := dep_of hD 16 (by rfl)
                      have e17 : vs 17 = .pointer (some ⟨zx, 1, none⟩) := dep_of hD 17 (by rfl)
                      obtain ⟨b0, b1, b2⟩ := HX.out W hB
                      clear hK hD ho
                      dsimp only
                      go_simp
                      have h := HK.out _ _ (Below.refl _ _) rfl
                      simp only [upd, Nat.reduceEqDiff, reduceIte, e16, e17] at h
                      exact h
                    | 19, ho =>
                      obtain rfl := Option.some.inj ho
                      intro vs W K hB hD hK
                      have HK := Lib.hid hK
                      have e16 : vs 16 = .bool false := dep_of hD 16 (by rfl)
                      have e18 : vs 18 = .int .i64 y.inn := dep_of hD 18 (by rfl)
                      clear hK hD ho
                      dsimp only
                      go_simp
                      have h := HK.out _ _ (Below.refl _ _) rfl
                      simp only [upd, Nat.reduceEqDiff, reduceIte, e16, e18] at h
                      exact h
                    | 20, ho =>
                      obtain rfl := Option.some.inj ho
                      intro vs W K hB hD hK
                      have HK := Lib.hid hK
                      have e16 : vs 16 = .bool false := dep_of hD 16 (by rfl)
                      have e19 : vs 19 = .bool false := dep_of hD 19 (by rfl)
                      clear hK hD ho
                      dsimp only
                      go_simp
                      have h := HK.out _ _ (Below.refl _ _) rfl
                      simp only [upd, Nat.reduceEqDiff, reduceIte, e16, e19] at h
                      exact h
                    | 21, ho =>
                      obtain rfl := Option.some.inj ho
                      intro vs W K hB hD hK
                      have HK := Lib.hid hK
                      have e20 : vs 20 = .bool false := dep_of hD 20 (by rfl)
                      clear hK hD ho
                      dsimp only
                      go_simp
                      have h := HK.out _ _ (Below.refl _ _) rfl
                      simp only [upd, Nat.reduceEqDiff, reduceIte, e20] at h
                      exact h
                    | 22, ho =>
                      obtain rfl := Option.some.inj ho
                      intro vs W K hB hD hK
                      have HK := Lib.hid hK
                      have e21 : vs 21 = .bool false := dep_of hD 21 (by rfl)
                      clear hK hD ho
                      dsimp only
                      go_simp
                      have h := HK.out _ _ (Below.refl _ _) rfl
                      simp only [upd, Nat.reduceEqDiff, reduceIte, e21] at h
                      exact h
                    | 23, ho =>
                      obtain rfl := Option.some.inj ho
                      intro vs W K hB hD hK
                      have HK := Lib.hid hK
                      have e21 : vs 21 = .bool false := dep_of hD 21 (by rfl)
                      have e22 : vs 22 = .pointer (some ⟨zx, 1, none⟩) := dep_of hD 22 (by rfl)
                      obtain ⟨b0, b1, b2⟩ := HX.out W hB
                      clear hK hD ho
                      dsimp only
                      go_simp
                      have h := HK.out _ _ (Below.refl _ _) rfl
                      simp only [upd, Nat.reduceEqDiff, reduceIte, e21, e22] at h
                      exact h
                    | 24, ho =>
                      obtain rfl := Option.some.inj ho
                      intro vs W K hB hD hK
                      have HK := Lib.hid hK
                      have e21 : vs 21 = .bool false := dep_of hD 21 (by rfl)
                      clear hK hD ho
                      dsimp only
                      go_simp
                      have h := HK.out _ _ (Below.refl _ _) rfl
                      simp only [upd, Nat.reduceEqDiff, reduceIte, e21] at h
                      exact h
                    | 25, ho =>
                      obtain rfl := Option.some.inj ho
                      intro vs W K hB hD hK
                      have HK := Lib.hid hK
                      have e21 : vs 21 = .bool false := dep_of hD 21 (by rfl)
                      have e24 : vs 24 = vl := dep_of hD 24 (by rfl)
                      clear hK hD ho
                      dsimp only
                      go_simp
                      refine (HIN.out W (HB1.out W hB)).mono ?_
                      rintro e W' ⟨rfl, hb⟩
                      have h := HK.out _ _ hb rfl
                      simp only [upd, Nat.reduceEqDiff, reduceIte, e21, e24] at h
                      exact h
                    | 26, ho =>
                      obtain rfl := Option.some.inj ho
                      intro vs W K hB hD hK
                      have HK := Lib.hid hK
                      have e21 : vs 21 = .bool false := dep_of hD 21 (by rfl)
                      have e23 : vs 23 = .int .i64 y.inn := dep_of hD 23 (by rfl)
                      have e25 : vs 25 = .int .i64 (inputsI l) := dep_of hD 25 (by rfl)
                      clear hK hD ho
                      dsimp only
                      go_simp
                      have h := HK.out _ _ (Below.refl _ _) rfl
                      simp only [upd, Nat.reduceEqDiff, reduceIte, e21, e23, e25] at h
                      exact h
                    | 27, ho =>
                      obtain rfl := Option.some.inj ho
                      intro vs W K hB hD hK
                      have HK := Lib.hid hK
                      have e21 : vs 21 = .bool false := dep_of hD 21 (by rfl)
                      have e26 : vs 26 = .bool false := dep_of hD 26 (by rfl)
                      clear hK hD ho
                      dsimp only
                      go_simp
                      have h := HK.out _ _ (Below.refl _ _) rfl
                      simp only [upd, Nat.reduceEqDiff, reduceIte, e21, e26] at h
                      exact h
                    | 28, ho =>
                      obtain rfl := Option.some.inj ho
                      intro vs W K hB hD hK
                      have HK := Lib.hid hK
                      have e27 : vs 27 = .bool false := dep_of hD 27 (by rfl)
                      clear hK hD ho
                      dsimp only
                      go_simp
                      have h := HK.out _ _ (Below.refl _ _) rfl
                      simp only [upd, Nat.reduceEqDiff, reduceIte, e27] at h
                      exact h
                    | 29, ho =>
                      obtain rfl := Option.some.inj ho
                      intro vs W K hB hD hK
                      have HK := Lib.hid hK
                      have e28 : vs 28 = .bool false := dep_of hD 28 (by rfl)
                      clear hK hD ho
                      dsimp only
                      go_simp
                      have h := HK.out _ _ (Below.refl _ _) rfl
                      simp only [upd, Nat.reduceEqDiff, reduceIte, e28] at h
                      exact h
                    | 30, ho =>
                      obtain rfl := Option.some.inj ho
                      intro vs W K hB hD hK
                      have HK := Lib.hid hK
                      have e28 : vs 28 = .bool false := dep_of hD 28 (by rfl)
                      have e29 : vs 29 = .pointer (some ⟨z6, 0, none⟩) := dep_of hD 29 (by rfl)
                      obtain ⟨d0, d1, d2⟩ := HG.out W hB
                      clear hK hD ho
                      dsimp only
                      go_simp
                      have h := HK.out _ _ (Below.refl _ _) rfl
                      simp only [upd, Nat.reduceEqDiff, reduceIte, e28, e29] at h
                      exact h
                    | 31, ho =>
                      obtain rfl := Option.some.inj ho
                      intro vs W K hB hD hK
                      have HK := Lib.hid hK
                      have e28 : vs 28 = .bool false := dep_of hD 28 (by rfl)
                      clear hK hD ho
                      dsimp only
                      go_simp
                      have h := HK.out _ _ (Below.refl _ _) rfl
                      simp only [upd, Nat.reduceEqDiff, reduceIte, e28] at h
                      exact h
                    | 32, ho =>
                      obtain rfl := Option.some.inj ho
                      intro vs W K hB hD hK
                      have HK := Lib.hid hK
                      have e28 : vs 28 = .bool false := dep_of hD 28 (by rfl)
                      have e30 : vs 30 = .slice (some ⟨ob, oo, none⟩) R j0 := dep_of hD 30 (by rfl)
                      have e31 : vs 31 = .int .i64 (k : Int) := dep_of hD 31 (by rfl)
                      clear hK hD ho
                      dsimp only
                      go_simp
                      have h := HK.out _ _ (Below.refl _ _) rfl
                      simp only [upd, Nat.reduceEqDiff, reduceIte, e28, e30, e31] at h
                      exact h
                    | 33, ho =>
                      obtain rfl := Option.some.inj ho
                      intro vs W K hB hD hK
                      have HK := Lib.hid hK
                      have e28 : vs 28 = .bool false := dep_of hD 28 (by rfl)
                      have e32 : vs 32 = .pointer (some ⟨ob, oo + k, none⟩) := dep_of hD 32 (by rfl)
                      have qo := HO.out W hB
                      clear hK hD ho
                      dsimp only
                      go_simp
                      have h := HK.out _ _ (Below.refl _ _) rfl
                      simp only [upd, Nat.reduceEqDiff, reduceIte, e28, e32] at h
                      exact h
                    | 34, ho =>
                      obtain rfl := Option.some.inj ho
                      intro vs W K hB hD hK
                      have HK := Lib.hid hK
                      have e28 : vs 28 = .bool false := dep_of hD 28 (by rfl)
                      have e33 : vs 33 = .int .i64 0 := dep_of hD 33 (by rfl)
                      clear hK hD ho
                      dsimp only
                      go_simp
                      have h := HK.out _ _ (Below.refl _ _) rfl
                      simp only [upd, Nat.reduceEqDiff, reduceIte, e28, e33] at h
                      exact h
                    | 35, ho =>
                      obtain rfl := Option.some.inj ho
                      intro vs W K hB hD hK
                      have HK := Lib.hid hK
                      have e28 : vs 28 = .bool false := dep_of hD 28 (by rfl)
                      clear hK hD ho
                      dsimp only
                      go_simp
                      have h := HK.out _ _ (Below.refl _ _) rfl
                      simp only [upd, Nat.reduceEqDiff, reduceIte, e28] at h
                      exact h
                    | 36, ho =>
                      obtain rfl := Option.some.inj ho
                      intro vs W K hB hD hK
                      have HK := Lib.hid hK
                      have e28 : vs 28 = .bool false := dep_of hD 28 (by rfl)
                      have e35 : vs 35 = .pointer (some ⟨zx, 1, none⟩) := dep_of hD 35 (by rfl)
                      obtain ⟨b0, b1, b2⟩ := HX.out W hB
                      clear hK hD ho
                      dsimp only
                      go_simp
                      have h := HK.out _ _ (Below.refl _ _) rfl
                      simp only [upd, Nat.reduceEqDiff, reduceIte, e28, e35] at h
                      exact h
                    | 37, ho =>
                      obtain rfl := Option.some.inj ho
                      intro vs W K hB hD hK
                      have HK := Lib.hid hK
                      have e28 : vs 28 = .bool false := dep_of hD 28 (by rfl)
                      have e36 : vs 36 = .int .i64 y.inn := dep_of hD 36 (by rfl)
                      clear hK hD ho
                      dsimp only
                      go_simp
                      have h := HK.out _ _ (Below.refl _ _) rfl
                      simp only [upd, Nat.reduceEqDiff, reduceIte, e28, e36] at h
                      exact h
                    | 38, ho =>
                      obtain rfl := Option.some.inj ho
                      intro vs W K hB hD hK
                      have HK := Lib.hid hK
                      have e28 : vs 28 = .bool false := dep_of hD 28 (by rfl)
                      have e34 : vs 34 = .bool false := dep_of hD 34 (by rfl)
                      have e37 : vs 37 = .bool false := dep_of hD 37 (by rfl)
                      clear hK hD ho
                      dsimp only
                      go_simp
                      have h := HK.out _ _ (Below.refl _ _) rfl
                      simp only [upd, Nat.reduceEqDiff, reduceIte, e28, e34, e37] at h
                      exact h
                    | 39, ho =>
                      obtain rfl := Option.some.inj ho
                      intro vs W K hB hD hK
                      have HK := Lib.hid hK
                      have e28 : vs 28 = .bool false := dep_of hD 28 (by rfl)
                      have e38 : vs 38 = .bool false := dep_of hD 38 (by rfl)
                      clear hK hD ho
                      dsimp only
                      go_simp
                      have h := HK.out _ _ (Below.refl _ _) rfl
                      simp only [upd, Nat.reduceEqDiff, reduceIte, e28, e38] at h
                      exact h
                    | 40, ho =>
                      obtain rfl := Option.some.inj ho
                      intro vs W K hB hD hK
                      have HK := Lib.hid hK
                      have e39 : vs 39 = .bool false := dep_of hD 39 (by rfl)
                      clear hK hD ho
                      dsimp only
                      go_simp
                      have h := HK.out _ _ (Below.refl _ _) rfl
                      simp only [upd, Nat.reduceEqDiff, reduceIte, e39] at h
                      exact h
                    | 41, ho =>
                      obtain rfl := Option.some.inj ho
                      intro vs W K hB hD hK
                      have HK := Lib.hid hK
                      have e40 : vs 40 = .bool false := dep_of hD 40 (by rfl)
                      clear hK hD ho
                      dsimp only
                      go_simp
                      have h := HK.out _ _ (Below.refl _ _) rfl
                      simp only [upd, Nat.reduceEqDiff, reduceIte, e40] at h
                      exact h
                    | 42, ho =>
                      obtain rfl := Option.some.inj ho
                      intro vs W K hB hD hK
                      have HK := Lib.hid hK
                      have e40 : vs 40 = .bool false := dep_of hD 40 (by rfl)
                      have e41 : vs 41 = .pointer (some ⟨zx, 1, none⟩) := dep_of hD 41 (by rfl)
                      obtain ⟨b0, b1, b2⟩ := HX.out W hB
                      clear hK hD ho
                      dsimp only
                      go_simp
                      have h := HK.out _ _ (Below.refl _ _) rfl
                      simp only [upd, Nat.reduceEqDiff, reduceIte, e40, e41] at h
                      exact h
                    | 43, ho =>
                      obtain rfl := Option.some.inj ho
                      intro vs W K hB hD hK
                      have HK := Lib.hid hK
                      have e40 : vs 40 = .bool false := dep_of hD 40 (by rfl)
                      have e42 : vs 42 = .int .i64 y.inn := dep_of hD 42 (by rfl)
                      clear hK hD ho
                      dsimp only
                      go_simp
                      have h := HK.out _ _ (Below.refl _ _) rfl
                      simp only [upd, Nat.reduceEqDiff, reduceIte, e40, e42] at h
                      exact h
                    | 44, ho =>
                      obtain rfl := Option.some.inj ho
                      intro vs W K hB hD hK
                      have HK := Lib.hid hK
                      have e40 : vs 40 = .bool false := dep_of hD 40 (by rfl)
                      have e43 : vs 43 = .bool false := dep_of hD 43 (by rfl)
                      clear hK hD ho
                      dsimp only
                      go_simp
                      have h := HK.out _ _ (Below.refl _ _) rfl
                      simp only [upd, Nat.reduceEqDiff, reduceIte, e40, e43] at h
                      exact h
                    | 45, ho =>
                      obtain rfl := Option.some.inj ho
                      intro vs W K hB hD hK
                      have HK := Lib.hid hK
                      have e44 : vs 44 = .bool false := dep_of hD 44 (by rfl)
                      clear hK hD ho
                      dsimp only
                      go_simp
                      have h := HK.out _ _ (Below.refl _ _) rfl
                      simp only [upd, Nat.reduceEqDiff, reduceIte, e44] at h
                      exact h
                    | 46, ho =>
                      obtain rfl := Option.some.inj ho
                      intro vs W K hB hD hK
                      have HK := Lib.hid hK
                      have e44 : vs 44 = .bool false := dep_of hD 44 (by rfl)
                      clear hK hD ho
                      dsimp only
                      go_simp
                      have h := HK.out _ _ (Below.refl _ _) rfl
                      simp only [upd, Nat.reduceEqDiff, reduceIte, e44] at h
                      exact h
                    | 47, ho =>
                      obtain rfl := Option.some.inj ho
                      intro vs W K hB hD hK
                      have HK := Lib.hid hK
                      have e44 : vs 44 = .bool false := dep_of hD 44 (by rfl)
                      clear hK hD ho
                      dsimp only
                      go_simp
                      have h := HK.out _ _ (Below.refl _ _) rfl
                      simp only [upd, Nat.reduceEqDiff, reduceIte, e44] at h
                      exact h
                    | 48, ho =>
                      obtain rfl := Option.some.inj ho
                      intro vs W K hB hD hK
                      have HK := Lib.hid hK
                      have e44 : vs 44 = .bool false := dep_of hD 44 (by rfl)
                      clear hK hD ho
                      dsimp only
                      go_simp
                      have h := HK.out _ _ (Below.refl _ _) rfl
                      simp only [upd, Nat.reduceEqDiff, reduceIte, e44] at h
                      exact h
                    | 49, ho =>
                      obtain rfl := Option.some.inj ho
                      intro vs W K hB hD hK
                      have HK := Lib.hid hK
                      have e44 : vs 44 = .bool false := dep_of hD 44 (by rfl)
                      clear hK hD ho
                      dsimp only
                      go_simp
                      have h := HK.out _ _ (Below.refl _ _) rfl
                      simp only [upd, Nat.reduceEqDiff, reduceIte, e44] at h
                      exact h
                    | 50, ho =>
                      obtain rfl := Option.some.inj ho
                      intro vs W K hB hD hK
                      have HK := Lib.hid hK
                      have e44 : vs 44 = .bool false := dep_of hD 44 (by rfl)
                      clear hK hD ho
                      dsimp only
                      go_simp
                      have h := HK.out _ _ (Below.refl _ _) rfl
                      simp only [upd, Nat.reduceEqDiff, reduceIte, e44] at h
                      exact h
                    | 51, ho =>
                      obtain rfl := Option.some.inj ho
                      intro vs W K hB hD hK
                      have HK := Lib.hid hK
                      have e44 : vs 44 = .bool false := dep_of hD 44 (by rfl)
                      clear hK hD ho
                      dsimp only
                      go_simp
                      have h := HK.out _ _ (Below.refl _ _) rfl
                      simp only [upd, Nat.reduceEqDiff, reduceIte, e44] at h
                      exact h
                    | 52, ho =>
                      obtain rfl := Option.some.inj ho
                      intro vs W K hB hD hK
                      have HK := Lib.hid hK
                      have e44 : vs 44 = .bool false := dep_of hD 44 (by rfl)
                      clear hK hD ho
                      dsimp only
                      go_simp
                      have h := HK.out _ _ (Below.refl _ _) rfl
                      simp only [upd, Nat.reduceEqDiff, reduceIte, e44] at h
                      exact h
                    | 53, ho =>
                      obtain rfl := Option.some.inj ho
                      intro vs W K hB hD hK
                      have HK := Lib.hid hK
                      have e40 : vs 40 = .bool false := dep_of hD 40 (by rfl)
                      have e44 : vs 44 = .bool false := dep_of hD 44 (by rfl)
                      clear hK hD ho
                      dsimp only
                      go_simp
                      have h := HK.out _ _ (Below.refl _ _) rfl
                      simp only [upd, Nat.reduceEqDiff, reduceIte, e40, e44] at h
                      exact h
                    | 54, ho =>
                      obtain rfl := Option.some.inj ho
                      intro vs W K hB hD hK
                      have HK := Lib.hid hK
                      have e40 : vs 40 = .bool false := dep_of hD 40 (by rfl)
                      have e53 : vs 53 = .bool false := dep_of hD 53 (by rfl)
                      clear hK hD ho
                      dsimp only
                      go_simp
                      have h := HK.out _ _ (Below.refl _ _) rfl
                      simp only [upd, Nat.reduceEqDiff, reduceIte, e40, e53] at h
                      exact h
                    | 55, ho =>
                      obtain rfl := Option.some.inj ho
                      intro vs W K hB hD hK
                      have HK := Lib.hid hK
                      have e54 : vs 54 = .bool false := dep_of hD 54 (by rfl)
                      clear hK hD ho
                      dsimp only
                      go_simp
                      have h := HK.out _ _ (Below.refl _ _) rfl
                      simp only [upd, Nat.reduceEqDiff, reduceIte, e54] at h
                      exact h
                    | 56, ho =>
                      obtain rfl := Option.some.inj ho
                      intro vs W K hB hD hK
                      have HK := Lib.hid hK
                      have e55 : vs 55 = .bool false := dep_of hD 55 (by rfl)
                      clear hK hD ho
                      dsimp only
                      go_simp
                      have h := HK.out _ _ (Below.refl _ _) rfl
                      simp only [upd, Nat.reduceEqDiff, reduceIte, e55] at h
                      exact h
                    | 57, ho =>
                      obtain rfl := Option.some.inj ho
                      intro vs W K hB hD hK
                      have HK := Lib.hid hK
                      have e55 : vs 55 = .bool false := dep_of hD 55 (by rfl)
                      have e56 : vs 56 = .pointer (some ⟨zx, 1, none⟩) := dep_of hD 56 (by rfl)
                      obtain ⟨b0, b1, b2⟩ := HX.out W hB
                      clear hK hD ho
                      dsimp only
                      go_simp
                      have h := HK.out _ _ (Below.refl _ _) rfl
                      simp only [upd, Nat.reduceEqDiff, reduceIte, e55, e56] at h
                      exact h
                    | 58, ho =>
                      obtain rfl := Option.some.inj ho
                      intro vs W K hB hD hK
                      have HK := Lib.hid hK
                      have e55 : vs 55 = .bool false := dep_of hD 55 (by rfl)
                      have e57 : vs 57 = .int .i64 y.inn := dep_of hD 57 (by rfl)
                      clear hK hD ho
                      dsimp only
                      go_simp
                      have h := HK.out _ _ (Below.refl _ _) rfl
                      simp only [upd, Nat.reduceEqDiff, reduceIte, e55, e57] at h
                      exact h
                    | 59, ho =>
                      obtain rfl := Option.some.inj ho
                      intro vs W K hB hD hK
                      have HK := Lib.hid hK
                      have e55 : vs 55 = .bool false := dep_of hD 55 (by rfl)
                      have e58 : vs 58 = .bool true := dep_of hD 58 (by rfl)
                      clear hK hD ho
                      dsimp only
                      go_simp
                      have h := HK.out _ _ (Below.refl _ _) rfl
                      simp only [upd, Nat.reduceEqDiff, reduceIte, e55, e58] at h
                      exact h
                    | 60, ho =>
                      obtain rfl := Option.some.inj ho
                      intro vs W K hB hD hK
                      have HK := Lib.hid hK
                      have e59 : vs 59 = .bool true := dep_of hD 59 (by rfl)
                      clear hK hD ho
                      dsimp only
                      go_simp
                      have h := HK.out _ _ (Below.refl _ _) rfl
                      simp only [upd, Nat.reduceEqDiff, reduceIte, e59] at h
                      exact h
                    | 61, ho =>
                      obtain rfl := Option.some.inj ho
                      intro vs W K hB hD hK
                      have HK := Lib.hid hK
                      have e59 : vs 59 = .bool true := dep_of hD 59 (by rfl)
                      have e60 : vs 60 = .pointer (some ⟨zx, 2, none⟩) := dep_of hD 60 (by rfl)
                      obtain ⟨b0, b1, b2⟩ := HX.out W hB
                      clear hK hD ho
                      dsimp only
                      go_simp
                      have h := HK.out _ _ (Below.refl _ _) rfl
                      simp only [upd, Nat.reduceEqDiff, reduceIte, e59, e60] at h
                      exact h
                    | 62, ho =>
                      obtain rfl := Option.some.inj ho
                      intro vs W K hB hD hK
                      have HK := Lib.hid hK
                      have e59 : vs 59 = .bool true := dep_of hD 59 (by rfl)
                      have e61 : vs 61 = .int .i64 y.pr := dep_of hD 61 (by rfl)
                      clear hK hD ho
                      dsimp only
                      go_simp
                      have h := HK.out _ _ (Below.refl _ _) rfl
                      simp only [upd, Nat.reduceEqDiff, reduceIte, e59, e61] at h
                      exact h
                    | 63, ho =>
                      obtain rfl := Option.some.inj ho
                      intro vs W K hB hD hK
                      have HK := Lib.hid hK
                      have e59 : vs 59 = .bool true := dep_of hD 59 (by rfl)
                      have e62 : vs 62 = .bool false := dep_of hD 62 (by rfl)
                      clear hK hD ho
                      dsimp only
                      go_simp
                      have h := HK.out _ _ (Below.refl _ _) rfl
                      simp only [upd, Nat.reduceEqDiff, reduceIte, e59, e62] at h
                      exact h
                    | 64, ho =>
                      obtain rfl := Option.some.inj ho
                      intro vs W K hB hD hK
                      have HK := Lib.hid hK
                      have e63 : vs 63 = .bool false := dep_of hD 63 (by rfl)
                      clear hK hD ho
                      dsimp only
                      go_simp
                      have h := HK.out _ _ (Below.refl _ _) rfl
                      simp only [upd, Nat.reduceEqDiff, reduceIte, e63] at h
                      exact h
                    | 65, ho =>
                      obtain rfl := Option.some.inj ho
                      intro vs W K hB hD hK
                      have HK := Lib.hid hK
                      have e63 : vs 63 = .bool false := dep_of hD 63 (by rfl)
                      have e64 : vs 64 = .pointer (some ⟨z6, 1, none⟩) := dep_of hD 64 (by rfl)
                      obtain ⟨d0, d1, d2⟩ := HG.out W hB
                      clear hK hD ho
                      dsimp only
                      go_simp
                      have h := HK.out _ _ (Below.refl _ _) rfl
                      simp only [upd, Nat.reduceEqDiff, reduceIte, e63, e64] at h
                      exact h
                    | 66, ho =>
                      obtain rfl := Option.some.inj ho
                      intro vs W K hB hD hK
                      have HK := Lib.hid hK
                      have e63 : vs 63 = .bool false := dep_of hD 63 (by rfl)
                      clear hK hD ho
                      dsimp only
                      go_simp
                      have h := HK.out _ _ (Below.refl _ _) rfl
                      simp only [upd, Nat.reduceEqDiff, reduceIte, e63] at h
                      exact h
                    | 67, ho =>
                      obtain rfl := Option.some.inj ho
                      intro vs W K hB hD hK
                      have HK := Lib.hid hK
                      have e63 : vs 63 = .bool false := dep_of hD 63 (by rfl)
                      have e65 : vs 65 = .slice (some ⟨qb, qo, none⟩) R j1 := dep_of hD 65 (by rfl)
                      have e66 : vs 66 = .int .i64 (k : Int) := dep_of hD 66 (by rfl)
                      clear hK hD ho
                      dsimp only
                      go_simp
                      have h := HK.out _ _ (Below.refl _ _) rfl
                      simp only [upd, Nat.reduceEqDiff, reduceIte, e63, e65, e66] at h
                      exact h
                    | 68, ho =>
                      obtain rfl := Option.some.inj ho
                      intro vs W K hB hD hK
                      have HK := Lib.hid hK
                      have e63 : vs 63 = .bool false := dep_of hD 63 (by rfl)
                      have e67 : vs 67 = .pointer (some ⟨qb, qo + k, none⟩) := dep_of hD 67 (by rfl)
                      have qp := HPR.out W hB
                      clear hK hD ho
                      dsimp only
                      go_simp
                      have h := HK.out _ _ (Below.refl _ _) rfl
                      simp only [upd, Nat.reduceEqDiff, reduceIte, e63, e67] at h
                      exact h
                    | 69, ho =>
                      obtain rfl := Option.some.inj ho
                      intro vs W K hB hD hK
                      have HK := Lib.hid hK
                      have e63 : vs 63 = .bool false := dep_of hD 63 (by rfl)
                      obtain ⟨c0, c1, c2, c3⟩ := HA.out W hB
                      clear hK hD ho
                      dsimp only
                      go_simp
                      have h := HK.out _ _ (Below.refl _ _) rfl
                      simp only [upd, Nat.reduceEqDiff, reduceIte, e63] at h
                      exact h
                    | 70, ho =>
                      obtain rfl := Option.some.inj ho
                      intro vs W K hB hD hK
                      have HK := Lib.hid hK
                      have e63 : vs 63 = .bool false := dep_of hD 63 (by rfl)
                      have e69 : vs 69 = .agg #[.int .i64 a.letters, .int .i64 a.start, .slice p2 n2 k2, .slice p3 n3 k3] := dep_of hD 69 (by rfl)
                      clear hK hD ho
                      dsimp only
                      go_simp
                      refine (HGR.out W (HB1.out W hB)).mono ?_
                      rintro e W' ⟨rfl, hb⟩
                      have h := HK.out _ _ hb rfl
                      simp only [upd, Nat.reduceEqDiff, reduceIte, e63, e69] at h
                      exact h
                    | 71, ho =>
                      obtain rfl := Option.some.inj ho
                      intro vs W K hB hD hK
                      have HK := Lib.hid hK
                      have e63 : vs 63 = .bool false := dep_of hD 63 (by rfl)
                      have e68 : vs 68 = .int .i64 pk := dep_of hD 68 (by rfl)
                      have e70 : vs 70 = .int .i64 (topA a) := dep_of hD 70 (by rfl)
                      clear hK hD ho
                      dsimp only
                      go_simp
                      have h := HK.out _ _ (Below.refl _ _) rfl
                      simp only [upd, Nat.reduceEqDiff, reduceIte, e63, e68, e70] at h
                      exact h
                    | 72, ho =>
                      obtain rfl := Option.some.inj ho
                      intro vs W K hB hD hK
                      have HK := Lib.hid hK
                      have e59 : vs 59 = .bool true := dep_of hD 59 (by rfl)
                      have e63 : vs 63 = .bool false := dep_of hD 63 (by rfl)
                      have e71 : vs 71 = .bool false := dep_of hD 71 (by rfl)
                      clear hK hD ho
                      dsimp only
                      go_simp
                      have h := HK.out _ _ (Below.refl _ _) rfl
                      simp only [upd, Nat.reduceEqDiff, reduceIte, e59, e63, e71] at h
                      exact h
                    | 73, ho =>
                      obtain rfl := Option.some.inj ho
                      intro vs W K hB hD hK
                      have HK := Lib.hid hK
                      have e55 : vs 55 = .bool false := dep_of hD 55 (by rfl)
                      have e59 : vs 59 = .bool true := dep_of hD 59 (by rfl)
                      have e72 : vs 72 = .bool false := dep_of hD 72 (by rfl)
                      clear hK hD ho
                      dsimp only
                      go_simp
                      have h := HK.out _ _ (Below.refl _ _) rfl
                      simp only [upd, Nat.reduceEqDiff, reduceIte, e55, e59, e72] at h
                      exact h
                    | 74, ho =>
                      obtain rfl := Option.some.inj ho
                      intro vs W K hB hD hK
                      have HK := Lib.hid hK
                      have e55 : vs 55 = .bool false := dep_of hD 55 (by rfl)
                      have e73 : vs 73 = .bool false := dep_of hD 73 (by rfl)
                      clear hK hD ho
                      dsimp only
                      go_simp
                      have h := HK.out _ _ (Below.refl _ _) rfl
                      simp only [upd, Nat.reduceEqDiff, reduceIte, e55, e73] at h
                      exact h
                    | q + 75, ho => exact absurd ho (by simp)
                  case fin =>
                    intro vs W hB hall
                    have e74 : vs 74 = .bool false := hall 74 (by decide)
                    have HB5 := Lib.hid (HB1.out W hB)
                    clear hall hB
                    rw [e74]
                    clear e74
                    generalize vs 0 = q0
                    generalize vs 1 = q1
                    generalize vs 2 = q2
                    generalize vs 3 = q3
                    generalize vs 4 = q4
                    generalize vs 5 = q5
                    generalize vs 6 = q6
                    generalize vs 7 = q7
                    generalize vs 8 = q8
                    generalize vs 9 = q9
                    generalize vs 10 = q10
                    generalize vs 11 = q11
                    generalize vs 12 = q12
                    generalize vs 13 = q13
                    generalize vs 14 = q14
                    generalize vs 15 = q15
                    generalize vs 16 = q16
                    generalize vs 17 = q17
                    generalize vs 18 = q18
                    generalize vs 19 = q19
                    generalize vs 20 = q20
                    generalize vs 21 = q21
                    generalize vs 22 = q22
                    generalize vs 23 = q23
                    generalize vs 24 = q24
                    generalize vs 25 = q25
                    generalize vs 26 = q26
                    generalize vs 27 = q27
                    generalize vs 28 = q28
                    generalize vs 29 = q29
                    generalize vs 30 = q30
                    generalize vs 31 = q31
                    generalize vs 32 = q32
                    generalize vs 33 = q33
                    generalize vs 34 = q34
                    generalize vs 35 = q35
                    generalize vs 36 = q36
                    generalize vs 37 = q37
                    generalize vs 38 = q38
                    generalize vs 39 = q39
                    generalize vs 40 = q40
                    generalize vs 41 = q41
                    generalize vs 42 = q42
                    generalize vs 43 = q43
                    generalize vs 44 = q44
                    generalize vs 45 = q45
                    generalize vs 46 = q46
                    generalize vs 47 = q47
                    generalize vs 48 = q48
                    generalize vs 49 = q49
                    generalize vs 50 = q50
                    generalize vs 51 = q51
                    generalize vs 52 = q52
                    generalize vs 53 = q53
                    generalize vs 54 = q54
                    generalize vs 55 = q55
                    generalize vs 56 = q56
                    generalize vs 57 = q57
                    generalize vs 58 = q58
                    generalize vs 59 = q59
                    generalize vs 60 = q60
                    generalize vs 61 = q61
                    generalize vs 62 = q62
                    generalize vs 63 = q63
                    generalize vs 64 = q64
                    generalize vs 65 = q65
                    generalize vs 66 = q66
                    generalize vs 67 = q67
                    generalize vs 68 = q68
                    generalize vs 69 = q69
                    generalize vs 70 = q70
                    generalize vs 71 = q71
                    generalize vs 72 = q72
                    generalize vs 73 = q73
                    clear vs
                    go_wp2_with fail
                    go_meet
                    case rel => exact ⟨rfl, HB5.out⟩
              case rest => as_aux_lemma =>
                obtain ⟨rfl, hb3⟩ := hcut
                clear HG HA HX HGR HIN HB1 C0 C1 hyst hyin hyc hin0 hsr hsl
                have HB8 := Lib.hid (HB7.out.trans (hb3.mono HB7.out.size))
                replace hx := (hb3.block _ (Array.getElem?_eq_some_iff.1 hx).1).trans hx
                replace y6 := (hb3.block _ (Array.getElem?_eq_some_iff.1 y6).1).trans y6
                replace xb := (hb3.block _ (Array.getElem?_eq_some_iff.1 xb).1).trans xb
                replace hl := hl.below hb3
                replace ha := ha.below hb3
                replace iS := iS.below hb3
                replace C2 := cellB hb3 C2
                replace HP' : Hid _ := Lib.hid (HP'.out.below hb3)
                clear hb3 HB7
                obtain ⟨w9, rfl⟩ : ∃ w9 : World, w9 = wc := ⟨_, rfl⟩
                have c0 := cell_of_row _ _ 0 _ _ _ hx
                have c1 := cell_of_row _ _ 1 _ _ _ hx
                have c2 := cell_of_row _ _ 2 _ _ _ hx
                have c3 := cell_of_row _ _ 3 _ _ _ hx
                have b0 := cell_of_row _ _ 0 _ _ _ xb
                have b1 := cell_of_row _ _ 1 _ _ _ xb
                have b2 := cell_of_row _ _ 2 _ _ _ xb
                go_wp2_with fail
                refine (Succ_c _ vl _ l a y hl ha HSV.out.1 HAO.out HYOK.out).mono ?_
                rintro e w10 ⟨vn, rfl, hOP, hb3⟩
                rw [HSC.out] at hOP
                have HB10 := Lib.hid (HB8.out.trans (hb3.mono HB8.out.size))
                replace y6 := (hb3.block _ (Array.getElem?_eq_some_iff.1 y6).1).trans y6
                replace iS := iS.below hb3
                replace C2 := cellB hb3 C2
                replace HP' : Hid _ := Lib.hid (HP'.out.below hb3)
                clear hb3 HB8 c0 c1 c2 c3 b0 b1 b2 hx xb hl ha
                have hnl : (numsP r (S y)).length = (S y).length := by simp [numsP]
                obtain ⟨LS, hLS⟩ : ∃ LS, (S y).length = LS := ⟨_, rfl⟩
                have HLS := Lib.hid hLS
                obtain ⟨as', cs, hvs⟩ := iS.shp
                rw [hnl, hLS] at hvs
                rw [hvs] at C2 iS
                have hLm : LS ≤ maxN := by
                  obtain ⟨⟨_, _, _, _, hv, ha⟩, -⟩ := iS
                  have := ha.nm
                  rw [hnl, hLS] at this
                  exact this
                have hN := hOP.is (by rw [hLS]; exact hLm) HSWF.out
                obtain ⟨an, cn, rfl⟩ := hN.shp
                rw [hLS] at hN ⊢
                have HNL : Hid ((numsP r (S y)).length = LS) := by rw [← hLS]; exact hnl
                clear hvs hOP hLS hnl
                obtain ⟨ib, io, hia, hin1, hic⟩ := iS.dat
                obtain ⟨nb, no, hna, -, hnc⟩ := hN.dat
                obtain ⟨pb2, po2, hpa2, -, hpc2⟩ := HP'.out.dat
                obtain ⟨rfl, rfl⟩ : pb = pb2 ∧ po = po2 := by simpa using hpa2 HRL.out.2
                have HIA := Lib.hid hia
                have HIC := Lib.hid hic
                have HNA := Lib.hid hna
                have HNC := Lib.hid hnc
                have HPC10 := Lib.hid hpc2
                have HIN1 : Hid (LS ≤ 140737488351232) := hin1
                clear hia hic hna hnc hpa2 hpc2 hin1 hN iS hLm
                have d0 := cell_of_row _ _ 0 _ _ _ y6
                have d1 := cell_of_row _ _ 1 _ _ _ y6
                have d2 := cell_of_row _ _ 2 _ _ _ y6
                clear y6
                have hLne : ((LS : Int) != LS) = false := by simp
                go_wp2
                clear hLne
                go_loopg [9, 14] LS (fun gh sn i wx => ∃ j m : Nat, gh = LS - j ∧ i = .int .i64 j ∧ sn = .int .i64 ((addA (fl S [x0] (r.take k)) ((S y).take j)).length : Int) ∧ j ≤ LS ∧ w10.drewN m = wx)
                case atStart => exact ⟨0, 0, by omega, rfl, by rw [List.take_zero, ← HSK.out]; rfl, by omega, rfl⟩
                case round =>
                  obtain ⟨j, m, hgj, rfl, rfl, hj, rfl⟩ := hrel
                  have HGJ := Lib.hid hgj
                  clear hgj
                  have hR4 := HRL.out.1
                  by_cases hltj : j < LS
                  case pos => as_aux_lemma =>
                    have hjS : j < (S y).length := by rw [HLS.out]; exact hltj
                    obtain ⟨nn, f1, f2, f3, f4, f5⟩ := HNUM.out j hjS
                    have ic := HIC.out j hltj
                    have hnum : (numsP r (S y)).getD j 0 = (nn : Int) := by
                      rw [← f1]
                      simp [numsP, List.getD, hjS]
                    rw [hnum] at ic
                    obtain ⟨n0', n1', n2'⟩ := HNC.out j hjS
                    obtain ⟨P0, P1, P2⟩ := HPC10.out nn f2
                    rw [getD_lt _ _ _ f2] at f3
                    rw [f3] at P0 P1 P2
                    have hzw := HSWF.out _ (List.getElem_mem hjS)
                    have hrun := fun W => run_neq_place W _ _ hzw hzw
                    simp only [decide_true, Bool.not_true] at hrun
                    unfold plV at hrun
                    have hng := placeNoGuard
                    have hnR : nn < R := by rw [← HR.out]; exact f2
                    obtain rfl := HIA.out (by omega)
                    obtain rfl := HNA.out (by omega)
                    have HF5 := Lib.hid f5
                    clear f1 f2 f3 f5 hnum hzw
                    generalize (S y)[j] = zz at *
                    clear hjS
                    generalize (addA (fl S [x0] (r.take k)) ((S y).take j)).length = sn at *
                    have s1 : decide ((sn : Int) < (nn : Int)) = false := decide_eq_false (by omega)
                    have s1b : decide (sn < nn) = false := decide_eq_false (by omega)
                    have s2 : decide ((R : Int) ≤ (nn : Int)) = false := decide_eq_false (by omega)
                    have s2b : decide (R ≤ nn) = false := decide_eq_false (by omega)
                    have hLSb := HIN1.out
                    have hn0 : (0 : Int) ≤ (nn : Int) := Int.natCast_nonneg _
                    by_cases hns : nn = sn
                    · have s3 : ((nn : Int) == (sn : Int)) = true := by rw [hns]; simp
                      have HF6 : Hid ((addA (fl S [x0] (r.take k)) ((S y).take (j + 1))).length = sn + 1) := by
                        show _ = _
                        rw [HF5.out, if_pos hns]
                      have hsn1 : sn + 1 ≤ 400 := by omega
                      clear hns HF5
                      go_wp2
                      refine wp_region_quiet_lit (by kernel_rfl) (by kernel_rfl) ?_
                      ((repeat (go_big_quiet_step (fail))); refine wpQuiet_nil ?_; rintro _ ⟨nq, rfl⟩)
                      rw [World.drewN_drewN]
                      generalize m + nq = m2
                      go_wp2
                      go_roundg (LS - (j + 1))
                      case measure => have := HGJ.out; omega
                      case rel => exact ⟨j + 1, m2, rfl, by go_num, by rw [HF6.out]; go_num, by omega, rfl⟩
                    · have s3 : ((nn : Int) == (sn : Int)) = false := by simp; omega
                      have HF6 : Hid ((addA (fl S [x0] (r.take k)) ((S y).take (j + 1))).length = sn) := by
                        show _ = _
                        rw [HF5.out, if_neg hns]
                      clear hns HF5
                      go_wp2
                      refine wp_region_quiet_lit (by kernel_rfl) (by kernel_rfl) ?_
                      ((repeat (go_big_quiet_step (fail))); refine wpQuiet_nil ?_; rintro _ ⟨nq, rfl⟩)
                      rw [World.drewN_drewN]
                      generalize m + nq = m2
                      go_wp2
                      go_roundg (LS - (j + 1))
                      case measure => have := HGJ.out; omega
                      case rel => exact ⟨j + 1, m2, rfl, by go_num, by rw [HF6.out], by omega, rfl⟩
                  case neg => as_aux_lemma =>
                    obtain rfl : LS = j := by omega
                    have hfull : (addA (fl S [x0] (r.take k)) ((S y).take LS)).length = (fl S [x0] (r.take (k + 1))).length := by
                      rw [← HLS.out, List.take_length, HSTEP.out]
                    rw [hfull]
                    clear hfull
                    have HBF := Lib.hid (HB10.out.trans ((below_draws _ _ m).mono HB10.out.size))
                    clear hltj hj
                    go_wp2
                    go_roundg (R - (k + 1))
                    case measure => have := HGK.out; omega
                    case rel => exact ⟨k + 1, rfl, by go_num, rfl, by omega, HBF.out⟩
        case neg => as_aux_lemma =>
          obtain rfl : R = k := by omega
          have hfin : (fl S [x0] (r.take R)).length = R := by rw [← HR.out, List.take_length, HFO.out.fin]
          rw [hfin]
          clear hfin
          have hRR : ((R : Int) == R) = true := by simp
          have hB0 := hB
          go_wp2
          go_ret
          exact HE.out _ (hb'.out.trans (hB0.mono hb'.out.size))

end Go.Proofs.YtjadeffdcbchnaaDoor
