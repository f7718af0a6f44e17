/- The law ArenaParts: its walk on inputs that it looks at. -/
import Derived.Test.YtjadeffdcbchnaaDoorAr33
import Derived.Test.YtjadeffdcbchnaaDoorAr38
import Derived.StillTailTactics
import Derived.Deep.RegionWith
namespace Go.Proofs.YtjadeffdcbchnaaDoor
open Go.RowKit

theorem part_rows {g h : Gm} {s : List Bool} {ks : List Int} (hp : PartIs g h s ks) (hr : ∀ i, (g.succ.getD i []).length ≤ 1000) : ∀ i, (h.succ.getD i []).length ≤ 1000 := fun i => by
  by_cases hi : i < ks.length
  · obtain ⟨v, -, -, -, -, -, -, -, h8⟩ := hp.at' i hi
    rw [h8]
    exact Nat.le_trans (subI_len _ _) (hr v)
  · have := hp.ls
    simp [List.getD, List.getElem?_eq_none (show h.succ.length ≤ i by omega)]
theorem qq_of {w w' : World} {cs : Array Value} {t : TypeId} (hb : Below (w.alloc (.cells cs t)).drew.heap.size (w.alloc (.cells cs t)).drew w') : w'.heap[w.heap.size]? = some (.cells cs t (0, 0)) := (hb.block _ (by rw [drew_heap]; simp)).trans (heap_alloc_new _ _)
theorem qq_of' {w w' : World} {cs : Array Value} {t : TypeId} (hb : Below (w.drew.alloc (.cells cs t)).heap.size (w.drew.alloc (.cells cs t)) w') : w'.heap[w.heap.size]? = some (.cells cs t (0, 0)) := (hb.block _ (by simp)).trans (heap_alloc_new w.drew _)
theorem IsBools.take {w : World} {a : Option Addr} {n c m : Nat} {l : List Bool} (h : IsBools w (.slice a n c) l) (hm : m ≤ l.length) : IsBools w (.slice a m c) (l.take m) := by
  obtain ⟨a', c', b, o, hv, ha⟩ := h
  injection hv with h1 h2 h3
  subst h1 h2 h3
  have hlen : (l.take m).length = m := by simp; omega
  refine ⟨a, c, b, o, by rw [hlen], ?_⟩
  rw [hlen]
  exact ⟨Nat.le_trans hm ha.lc, ha.cm, Nat.le_trans hm ha.nm, ha.nc, fun h => ha.ad (by omega), fun j hj => by
    have := ha.el j (by omega)
    rw [this]
    simp only [bvF, List.getD]
    rw [List.getElem?_take_of_lt hj]⟩

set_option maxRecDepth 100000 in
set_option maxHeartbeats 16000000 in
theorem Parts_walk1 (w : World) (vg vs vi : Value) (g : Gm) (s inn : List Bool) (hK : Keys w) (hg : IsGame w vg g) (hs : IsBools w vs s) (hi : IsBools w vi inn) (hsm : smallB g 100 = true) (hv : validB g = true) (hl : s.length = g.owner.length) (hin : inn.length ≤ 120) :
    Calls Tryd.prog 6 #[vg, vs, vi] w (Calm (.bool true) w) := by
  have HROW : Hid (∀ i, (g.succ.getD i []).length ≤ 1000) := fun i => by have := small_rows hsm i; omega
  have hIS := partIs hv hl
  have hPP := part_part (inner := inn) hv hl
  have hPR : partR g s = ((partR g s).1, (partR g s).2) := rfl
  obtain ⟨h, hh⟩ : ∃ x, x = (partR g s).1 := ⟨_, rfl⟩
  obtain ⟨ks, hks⟩ : ∃ x, x = (partR g s).2 := ⟨_, rfl⟩
  rw [← hh, ← hks] at hIS hPP hPR
  clear hh hks
  have HROWH : Hid (∀ i, (h.succ.getD i []).length ≤ 1000) := part_rows hIS HROW.out
  have HALL := part_all hv
  obtain ⟨N, hN⟩ : ∃ N, g.owner.length = N := ⟨_, rfl⟩
  obtain ⟨K, hKs⟩ : ∃ K, ks.length = K := ⟨_, rfl⟩
  obtain ⟨M, hM⟩ : ∃ M, inn.length = M := ⟨_, rfl⟩
  have HLG : Hid (g.owner.length = N ∧ g.prio.length = N ∧ g.succ.length = N) := by obtain ⟨_, h1, h2⟩ := valid_lens hv; exact ⟨hN, by omega, by omega⟩
  have HLH : Hid (h.owner.length = K ∧ h.prio.length = K ∧ h.succ.length = K) := ⟨by rw [hIS.lo, hKs], by rw [hIS.lp, hKs], by rw [hIS.ls, hKs]⟩
  have HKS := Lib.hid hKs
  have HVH := Lib.hid hIS.val
  have HSL : Hid (s.length = N) := by rw [← hN]; exact hl
  have HML := Lib.hid hM
  have HN : Hid (N ≤ 100) := by
    have h1 := hsm
    simp only [smallB, Bool.and_eq_true, decide_eq_true_eq] at h1
    show _ ≤ _
    omega
  have HKN : Hid (K ≤ N) := by have := hIS.nk; show _ ≤ _; omega
  have HM := Lib.hid (show M ≤ 120 by omega)
  have HVG := Lib.hid hv
  rw [hN] at HALL
  replace HALL := Lib.hid HALL
  have HAT : Hid (∀ i, i < K → ∃ v : Nat, ks.getD i 0 = (v : Int) ∧ v < N ∧ s.getD v false = true ∧ (keptI s v).length = i ∧ (0 < i → ks.getD (i - 1) 0 < (v : Int)) ∧ h.owner.getD i 0 = g.owner.getD v 0 ∧ h.prio.getD i 0 = g.prio.getD v 0 ∧ h.succ.getD i [] = subI s (g.succ.getD v [])) := by
    rw [← hKs, ← hN, ← hl]; exact hIS.at'
  have HREN : Hid (0 < K → ∀ x : Nat, x < N → s.getD x false = true → (keptI s x).length < K ∧ ks.getD (keptI s x).length 0 = (x : Int)) := by
    rw [← hKs, ← hN, ← hl]; exact hIS.ren
  rw [hKs, hM] at hPP
  have HPP := Lib.hid hPP
  have HPR := Lib.hid hPR
  clear hIS hPP hPR hKs hN hM hv hin
  obtain ⟨a0, n0, k0, a1, n1, k1, a2, n2, k2, rfl⟩ := hg.shape
  have hn0 : N = n0 ∧ N = n1 ∧ N = n2 := by
    obtain ⟨e1, e2, e3, -⟩ := hg.data HLG.out.1 HLG.out.2.1 HLG.out.2.2
    exact ⟨e1, e2, e3⟩
  obtain ⟨rfl, rfl, rfl⟩ := hn0
  obtain ⟨as', cs, rfl⟩ := hs.shape
  obtain ⟨ai, ci, rfl⟩ := hi.shape
  rw [HSL.out] at hs ⊢
  rw [HML.out] at hi ⊢
  clear hl
  go_enter Tryd.func6, Tryd.ntmps6
  go_upto_region 1 with (fail)
  obtain ⟨hx, hB⟩ : (w.alloc (.cells #[.slice a0 N k0, .slice a1 N k1, .slice a2 N k2] 28)).heap[w.heap.size]? = some (.cells #[.slice a0 N k0, .slice a1 N k1, .slice a2 N k2] 28 (0, 0)) ∧ Below w.heap.size w (w.alloc (.cells #[.slice a0 N k0, .slice a1 N k1, .slice a2 N k2] 28)) := ⟨heap_alloc_new _ _, bel_box _⟩
  replace hg := hg.below hB
  replace hs := hs.below hB
  replace hi := hi.below hB
  replace hK := hK.below hB
  generalize w.alloc (.cells #[.slice a0 N k0, .slice a1 N k1, .slice a2 N k2] 28) = w1 at *
  have HE : Hid (∀ W, Below w1.heap.size w1 W → Calm (.bool true) w (.returned (.bool true)) W) := fun W h => ⟨rfl, hB.trans (h.mono hB.size)⟩
  clear hB
  generalize w.heap.size = z at *
  go_wp2_with fail
  refine (head_c _ hK).mono ?_
  clear hK
  rintro e w2 ⟨rfl, hb⟩
  (replace hx := (hb.block _ (Array.getElem?_eq_some_iff.1 hx).1).trans hx)
  replace hg := hg.below hb
  replace hs := hs.below hb
  replace hi := hi.below hb
  have c0 := cell_of_row _ _ 0 _ _ _ hx
  have c1 := cell_of_row _ _ 1 _ _ _ hx
  have c2 := cell_of_row _ _ 2 _ _ _ hx
  go_wp2_with fail
  refine (Small_c _ _ g 100 hg).mono ?_
  rintro e w3 ⟨rfl, hb3⟩
  rw [hsm]
  (replace hx := (hb3.block _ (Array.getElem?_eq_some_iff.1 hx).1).trans hx)
  replace hg := hg.below hb3
  replace hs := hs.below hb3
  replace hi := hi.below hb3
  replace hb := hb.trans (hb3.mono hb.size)
  clear c0 c1 c2 hb3
  have c0 := cell_of_row _ _ 0 _ _ _ hx
  have c1 := cell_of_row _ _ 1 _ _ _ hx
  have c2 := cell_of_row _ _ 2 _ _ _ hx
  go_wp2_with fail
  refine (RValid_c _ _ g hg).mono ?_
  rintro e w4 ⟨rfl, hb3⟩
  rw [HVG.out]
  (replace hx := (hb3.block _ (Array.getElem?_eq_some_iff.1 hx).1).trans hx)
  replace hg := hg.below hb3
  replace hs := hs.below hb3
  replace hi := hi.below hb3
  replace hb := hb.trans (hb3.mono hb.size)
  clear c0 c1 c2 hb3
  have c0 := cell_of_row _ _ 0 _ _ _ hx
  have c1 := cell_of_row _ _ 1 _ _ _ hx
  have c2 := cell_of_row _ _ 2 _ _ _ hx
  have hne : ((N : Int) != (N : Int)) = false := by simp
  have h120 : decide ((M : Int) > 120) = false := decide_eq_false (by have := HM.out; omega)
  have hNm : N ≤ 140737488355328 := by have := HN.out; omega
  go_wp2_with (at_make; refine mk_bool rfl _ _ _ Tryd.underlying29 rfl w4.heap.size _ N rfl rfl rfl hNm (Nat.le_refl _) ?_; intro w5 hown hg1)
  have hB1 : Below w4.heap.size w4 w5 := (Below.refl _ _).grown hg1 (Nat.le_refl _) (fun k hk => by cases hk)
  clear c0 c1 c2 hne h120
  go_loopg [9] N (fun gh i wr => ∃ (k : Nat) (l : List Bool), gh = N - k ∧ i = .int .i64 k ∧ k ≤ N ∧ l.length = N ∧ OB wr w4.heap.size (.slice (some ⟨w4.heap.size, 0, none⟩) N N) l ∧ Hid (l.take k = List.replicate k true) ∧ Below w4.heap.size w4 wr)
  case atStart => exact ⟨0, _, by omega, rfl, by omega, by simp, hown, by simp [Hid], hB1⟩
  case round =>
    obtain ⟨k, l, hgk, rfl, hk, hl, hown, HE', hB1⟩ := hrel
    have HL := Lib.hid hl
    have HO := Lib.hid hown
    have HGK := Lib.hid hgk
    clear hl hgk
    by_cases hlt : k < N
    · have hlk : k < l.length := by rw [HL.out]; exact hlt
      have c2 := hown.at' HL.out.symm k hlk
      have f2 := hown.fz HL.out.symm k
      clear hown
      go_wp2
      go_roundg (N - (k + 1))
      case measure => have := HGK.out; omega
      case rel =>
        refine ⟨k + 1, l.set k true, rfl, by go_num, by omega, by rw [List.length_set]; exact HL.out, HO.out.set HL.out.symm k _, ?_, hB1.setCell (Nat.le_refl _) _⟩
        show _ = _
        rw [List.take_succ_eq_append_getElem (by simpa using hlk), List.take_set_of_le (Nat.le_refl _), HE'.out, List.replicate_succ']
        simp
    clear HGK
    obtain rfl : N = k := by omega
    obtain rfl : l = List.replicate N true := by
      have := HE'.out
      rwa [← HL.out, List.take_length, HL.out] at this
    have hall := HO.out.is (by rw [List.length_replicate]; have := HN.out; simp only [maxN]; omega)
    (replace hx := (hB1.block _ (Array.getElem?_eq_some_iff.1 hx).1).trans hx)
    replace hg := hg.below hB1
    replace hs := hs.below hB1
    replace hi := hi.below hB1
    replace hb := hb.trans (hB1.mono hb.size)
    generalize w4.heap.size = z4 at *
    clear HL HO HE' hB1 hown hNm hlt hk
    have c0 := cell_of_row _ _ 0 _ _ _ hx
    have c1 := cell_of_row _ _ 1 _ _ _ hx
    have c2 := cell_of_row _ _ 2 _ _ _ hx
    go_wp2_with fail
    refine (Part_c _ _ _ g (List.replicate N true) hg hall HROW.out).mono ?_
    rintro e w7 ⟨vw, vwn, rfl, hW, -, hb3⟩
    rw [HALL.out] at hW
    obtain ⟨d0, m0, j0, d1, m1, j1, d2, m2, j2, rfl⟩ := hW.shape
    replace hx := (hb3.block _ (Array.getElem?_eq_some_iff.1 hx).1).trans hx
    replace hg := hg.below hb3
    replace hs := hs.below hb3
    replace hi := hi.below hb3
    replace hb := hb.trans (hb3.mono hb.size)
    clear c0 c1 c2 hb3 hall
    go_upto_region 10 with (fail)
    obtain ⟨yw, hb3, -⟩ := box_new hb hb.size #[.slice d0 m0 j0, .slice d1 m1 j1, .slice d2 m2 j2] 28
    replace hx := (hb3.block _ (Array.getElem?_eq_some_iff.1 hx).1).trans hx
    replace hg := hg.below hb3
    replace hs := hs.below hb3
    replace hi := hi.below hb3
    replace hW := hW.below hb3
    replace hb := hb.trans (hb3.mono hb.size)
    clear hb3
    generalize w7.alloc (.cells #[.slice d0 m0 j0, .slice d1 m1 j1, .slice d2 m2 j2] 28) = w8 at *
    generalize w7.heap.size = z8 at *
    have c0 := cell_of_row _ _ 0 _ _ _ hx
    have c1 := cell_of_row _ _ 1 _ _ _ hx
    have c2 := cell_of_row _ _ 2 _ _ _ hx
    go_wp2_with fail
    refine (Part_c _ _ _ g s hg hs HROW.out).mono ?_
    rw [HPR.out]
    rintro e w9 ⟨vh, vk, rfl, hH, hV, hb3⟩
    obtain ⟨p0, u0, x0, p1, u1, x1, p2, u2, x2, rfl⟩ := hH.shape
    obtain ⟨rfl, rfl, rfl⟩ : K = u0 ∧ K = u1 ∧ K = u2 := by
      obtain ⟨e1, e2, e3, -⟩ := hH.data HLH.out.1 HLH.out.2.1 HLH.out.2.2
      exact ⟨e1, e2, e3⟩
    obtain ⟨ak, ck, rfl⟩ := hV.shape
    rw [HKS.out] at hV ⊢
    replace hx := (hb3.block _ (Array.getElem?_eq_some_iff.1 hx).1).trans hx
    replace yw := (hb3.block _ (Array.getElem?_eq_some_iff.1 yw).1).trans yw
    replace hg := hg.below hb3
    replace hs := hs.below hb3
    replace hi := hi.below hb3
    replace hW := hW.below hb3
    replace hb := hb.trans (hb3.mono hb.size)
    clear c0 c1 c2 hb3
    go_upto_region 11 with (fail)
    obtain ⟨yh, hb3, -⟩ := box_new hb hb.size #[.slice p0 K x0, .slice p1 K x1, .slice p2 K x2] 28
    replace hx := (hb3.block _ (Array.getElem?_eq_some_iff.1 hx).1).trans hx
    replace yw := (hb3.block _ (Array.getElem?_eq_some_iff.1 yw).1).trans yw
    replace hg := hg.below hb3
    replace hs := hs.below hb3
    replace hi := hi.below hb3
    replace hW := hW.below hb3
    replace hH := hH.below hb3
    replace hV := hV.below hb3
    replace hb := hb.trans (hb3.mono hb.size)
    clear hb3
    generalize w9.alloc (.cells #[.slice p0 K x0, .slice p1 K x1, .slice p2 K x2] 28) = w10 at *
    generalize w9.heap.size = z10 at *
    have c0 := cell_of_row _ _ 0 _ _ _ hx
    have c1 := cell_of_row _ _ 1 _ _ _ hx
    have c2 := cell_of_row _ _ 2 _ _ _ hx
    have e0 := cell_of_row _ _ 0 _ _ _ yw
    have e1 := cell_of_row _ _ 1 _ _ _ yw
    have e2 := cell_of_row _ _ 2 _ _ _ yw
    go_wp2_with fail
    refine (Same_c _ _ _ g g hW hg).mono ?_
    rw [decide_eq_true (rfl : g = g)]
    rintro e w11 ⟨rfl, hb3⟩
    clear hW yw c0 c1 c2 e0 e1 e2
    replace hx := (hb3.block _ (Array.getElem?_eq_some_iff.1 hx).1).trans hx
    replace yh := (hb3.block _ (Array.getElem?_eq_some_iff.1 yh).1).trans yh
    replace hg := hg.below hb3
    replace hs := hs.below hb3
    replace hi := hi.below hb3
    replace hH := hH.below hb3
    replace hV := hV.below hb3
    replace hb := hb.trans (hb3.mono hb.size)
    clear hb3
    have f0 := cell_of_row _ _ 0 _ _ _ yh
    have f1 := cell_of_row _ _ 1 _ _ _ yh
    have f2 := cell_of_row _ _ 2 _ _ _ yh
    have hne : ((K : Int) != (K : Int)) = false := by simp
    go_wp2_with fail
    refine (AValid_c _ _ h hH).mono ?_
    rw [HVH.out]
    rintro e w12 ⟨rfl, hb3⟩
    clear f0 f1 f2 hne
    replace hx := (hb3.block _ (Array.getElem?_eq_some_iff.1 hx).1).trans hx
    replace yh := (hb3.block _ (Array.getElem?_eq_some_iff.1 yh).1).trans yh
    replace hg := hg.below hb3
    replace hs := hs.below hb3
    replace hi := hi.below hb3
    replace hH := hH.below hb3
    replace hV := hV.below hb3
    replace hb := hb.trans (hb3.mono hb.size)
    clear hb3
    have c0 := cell_of_row _ _ 0 _ _ _ hx
    have c1 := cell_of_row _ _ 1 _ _ _ hx
    have c2 := cell_of_row _ _ 2 _ _ _ hx
    have f0 := cell_of_row _ _ 0 _ _ _ yh
    have f1 := cell_of_row _ _ 1 _ _ _ yh
    have f2 := cell_of_row _ _ 2 _ _ _ yh
    have HGm := Lib.hid hg
    have HHm := Lib.hid hH
    have HSm := Lib.hid hs
    have HIm := Lib.hid hi
    have HVm := Lib.hid hV
    have HXm := Lib.hid hx
    have HYm := Lib.hid yh
    have HBm := Lib.hid hb
    obtain ⟨-, -, -, gb0, go0, gb1, go1, gb2, go2, VG, hga, hgc⟩ := hg.data HLG.out.1 HLG.out.2.1 HLG.out.2.2
    obtain ⟨-, -, -, hb0, ho0, hb1, ho1, hb2, ho2, VH, hha, hhc⟩ := hH.data HLH.out.1 HLH.out.2.1 HLH.out.2.2
    obtain ⟨sb, so, hsa, -, hsc⟩ := hs.data
    obtain ⟨kb, ko, hka, -, hkc⟩ := hV.data
    have HGA := Lib.hid hga
    have HGC := Lib.hid hgc
    have HHA := Lib.hid hha
    have HHC := Lib.hid hhc
    have HSA := Lib.hid hsa
    have HSC := Lib.hid hsc
    have HKA := Lib.hid hka
    have HKC := Lib.hid hkc
    have HRNG : Hid (∀ v, v < N → ∀ x ∈ g.succ.getD v [], 0 ≤ x ∧ x < N) := fun v hv x hx => by
      have := (valid_at HVG.out v (by rw [HLG.out.1]; exact hv)).2.2.2 x hx
      rwa [HLG.out.1] at this
    clear hg hH hs hi hV hx yh hb hga hgc hha hhc hsa hsc hka hkc
    go_wp2
    go_loopg [14] K (fun gh i wr => ∃ k m : Nat, gh = K - k ∧ i = .int .i64 k ∧ k ≤ K ∧ w12.drewN m = wr)
    case atStart => exact ⟨0, 0, by omega, rfl, by omega, rfl⟩
    case round =>
      obtain ⟨k, m, hgk, rfl, hk, rfl⟩ := hrel
      have HGK := Lib.hid hgk
      clear hgk
      by_cases hlt : k < K
      case pos => as_aux_lemma =>
        obtain ⟨v, q1, q2, q3, q4, q5, q6, q7, q8⟩ := HAT.out k hlt
        have kc := HKC.out k hlt
        obtain ⟨H0, H1, H2, iH⟩ := HHC.out k hlt
        obtain ⟨G0, G1, G2, iG⟩ := HGC.out v q2
        have sc := HSC.out v q2
        obtain ⟨rfl, rfl, rfl⟩ := HHA.out (by omega)
        obtain ⟨rfl, rfl, rfl⟩ := HGA.out (by omega)
        obtain rfl := HSA.out (by omega)
        obtain rfl := HKA.out (by omega)
        rw [q1] at kc
        rw [q3] at sc
        rw [q6] at H0
        rw [q7] at H1
        rw [q8] at iH
        have HRV := Lib.hid (HRNG.out v q2)
        have HLEN := Lib.hid (HROW.out v)
        have HQ5 := Lib.hid q5
        clear q1 q3 q4 q5 q6 q7 q8
        generalize g.owner.getD v 0 = o at *
        generalize g.prio.getD v 0 = p at *
        generalize g.succ.getD v [] = row at *
        have HQ2 := Lib.hid q2
        obtain ⟨ah, ch, hvh⟩ := iH.shape
        obtain ⟨ar, cr, hvr⟩ := iG.shape
        rw [hvh] at H2 iH
        rw [hvr] at G2 iG
        clear hvh hvr
        obtain ⟨rhb, rho, hra, -, hrc⟩ := iH.data
        obtain ⟨rgb, rgo, gra, -, grc⟩ := iG.data
        have HRA := Lib.hid hra
        have HRC := Lib.hid hrc
        have GRA := Lib.hid gra
        have GRC := Lib.hid grc
        clear iH iG hra hrc gra grc
        have s1 : decide ((v : Int) < 0) = false := decide_eq_false (by omega)
        have s2 : decide ((v : Int) ≥ (N : Int)) = false := decide_eq_false (by omega)
        have s5 : (o != o) = false := by simp
        have s6 : (p != p) = false := by simp
        have hv0 : (0 : Int) ≤ v := Int.natCast_nonneg _
        have hv1 : (v : Int) < N := by omega
        have s2a : decide ((N : Int) ≤ (v : Int)) = false := decide_eq_false (by omega)
        have s2b : decide (N ≤ v) = false := decide_eq_false (by omega)
        go_upto_region 17 with (fail)
        go_cut [168] (fun x wx => x = .bool false ∧ ∃ m2, w12.drewN m2 = wx)
        case first =>
          by_cases hk0 : 0 < k
          case neg =>
            have s4 : decide ((0 : Int) < (k : Int)) = false := decide_eq_false (by omega)
            have s4b : decide (0 < k) = false := decide_eq_false (by omega)
            clear HQ5
            refine wp_region_quiet_lit (by kernel_rfl) (by kernel_rfl) ?_
            ((repeat (go_big_quiet_step (fail))); refine wpQuiet_nil ?_; rintro _ ⟨nq, rfl⟩)
            rw [World.drewN_drewN]
            go_wp2_with fail
            go_meet
            case rel => exact ⟨rfl, _, rfl⟩
          case pos =>
            have s4 : decide ((0 : Int) < (k : Int)) = true := decide_eq_true (by omega)
            have s4b : decide (0 < k) = true := decide_eq_true (by omega)
            obtain ⟨k', hk'⟩ : ∃ k', k' = k - 1 := ⟨_, rfl⟩
            have s7 : IntKind.i64.wrap ((k : Int) - 1) = (k' : Int) := by
              rw [IntWalk.i64_in _ ⟨by omega, by have := HKN.out; have := HN.out; omega⟩]; omega
            have kc' := HKC.out k' (by omega)
            have hlt' : k' < K := by omega
            obtain ⟨y, hy⟩ : ∃ y, ks.getD k' 0 = y := ⟨_, rfl⟩
            have s8 : decide ((v : Int) ≤ y) = false := decide_eq_false (by have := HQ5.out hk0; rw [← hk', hy] at this; omega)
            rw [hy] at kc'
            clear hy hk' HQ5 hk0
            refine wp_region_quiet_lit (by kernel_rfl) (by kernel_rfl) ?_
            ((repeat (go_big_quiet_step (fail))); refine wpQuiet_nil ?_; rintro _ ⟨nq, rfl⟩)
            rw [World.drewN_drewN]
            go_wp2_with fail
            go_meet
            case rel => exact ⟨rfl, _, rfl⟩
        case rest =>
          obtain ⟨rfl, m2, rfl⟩ := hcut
          clear s1 s2 s2a s2b s5 s6 H0 H1 G0 G1 HQ5 kc sc
          obtain ⟨L, hL⟩ : ∃ L, row.length = L := ⟨_, rfl⟩
          obtain ⟨LH, hLH⟩ : ∃ LH, (subI s row).length = LH := ⟨_, rfl⟩
          have HL := Lib.hid hL
          have HLH2 := Lib.hid hLH
          rw [hL] at G2
          rw [hLH] at H2
          have HRC' : Hid (∀ j, j < LH → w12.cell? ⟨rhb, rho + j, none⟩ = some (.int .i64 ((subI s row).getD j 0))) := by rw [← hLH]; exact HRC.out
          have GRC' : Hid (∀ j, j < L → w12.cell? ⟨rgb, rgo + j, none⟩ = some (.int .i64 (row.getD j 0))) := by rw [← hL]; exact GRC.out
          have HRA' : Hid (0 < LH → ah = some ⟨rhb, rho, none⟩) := by rw [← hLH]; exact HRA.out
          have GRA' : Hid (0 < L → ar = some ⟨rgb, rgo, none⟩) := by rw [← hL]; exact GRA.out
          clear hL hLH HRC GRC HRA GRA
          go_wp2
          go_loopg [16, 17] L (fun gh r16 r17 wx => ∃ j m3 : Nat, gh = L - j ∧ r17 = .int .i64 j ∧ r16 = .int .i64 ((subI s (row.take j)).length : Int) ∧ j ≤ L ∧ w12.drewN m3 = wx)
          case atStart => exact ⟨0, m2, by omega, rfl, rfl, by omega, rfl⟩
          case round =>
            obtain ⟨j, m3, hgj, rfl, rfl, hj, rfl⟩ := hrel
            have HGJ := Lib.hid hgj
            clear hgj
            have hL1 : L ≤ 1000 := by
              have h2 := HLEN.out
              rw [HL.out] at h2
              exact h2
            by_cases hltj : j < L
            · obtain rfl := GRA'.out (by omega)
              have gc := GRC'.out j hltj
              have hjr : j < row.length := by rw [HL.out]; exact hltj
              obtain ⟨hx0, hx1⟩ := HRV.out (row.getD j 0) (by rw [getD_lt _ _ _ hjr]; exact List.getElem_mem hjr)
              obtain ⟨u, hu⟩ := Int.eq_ofNat_of_zero_le hx0
              rw [hu] at gc
              have huN : u < N := by omega
              have sc := HSC.out u huN
              have hAt : atB s (row.getD j 0) = s.getD u false := by unfold atB; rw [hu, Int.toNat_natCast]
              cases hsu : s.getD u false
              · rw [hsu] at sc hAt
                have HSK := Lib.hid (subI_skip s row j hjr hAt)
                clear hjr hx0 hx1 hu hAt hsu
                go_wp2
                go_roundg (L - (j + 1))
                case measure => have := HGJ.out; omega
                case rel => exact ⟨j + 1, m3, rfl, by go_num, by rw [HSK.out], by omega, rfl⟩
              · rw [hsu] at sc hAt
                obtain ⟨t1, t2, t3⟩ := subI_at s row j hjr hAt
                rw [hu, Int.toNat_natCast] at t2 t3
                obtain ⟨y1, y2⟩ := HREN.out (by omega) u huN hsu
                rw [HLH2.out] at t1
                have HT3 : Hid ((subI s (row.take (j + 1))).length = (subI s (row.take j)).length + 1) := by
                  show _ = _
                  rw [t3, List.length_append, List.length_singleton]
                have hLH1 : LH ≤ 1000 := by
                  have h1 := subI_len s row
                  have h2 := HLEN.out
                  rw [HLH2.out] at h1
                  omega
                generalize (subI s (row.take j)).length = cc at *
                generalize (keptI s u).length = tt at *
                have hc := HRC'.out cc t1
                rw [t2] at hc
                have kc2 := HKC.out tt y1
                rw [y2] at kc2
                obtain rfl := HRA'.out (by omega)
                have s1 : decide ((LH : Int) ≤ (cc : Int)) = false := decide_eq_false (by omega)
                have s1b : decide (LH ≤ cc) = false := decide_eq_false (by omega)
                have s2 : ((u : Int) != (u : Int)) = false := by simp
                clear hjr hx0 hx1 hu hAt hsu t2 t3 y2
                go_wp2
                refine wp_region_quiet_lit (by kernel_rfl) (by kernel_rfl) ?_
                ((repeat (go_big_quiet_step (fail))); refine wpQuiet_nil ?_; rintro _ ⟨nq, rfl⟩)
                rw [World.drewN_drewN]
                generalize m3 + nq = m4
                go_wp2
                go_roundg (L - (j + 1))
                case measure => have := HGJ.out; omega
                case rel => exact ⟨j + 1, m4, rfl, by go_num, by rw [HT3.out]; go_num, by omega, rfl⟩
            · obtain rfl : L = j := by omega
              have hfull : (subI s (row.take L)).length = LH := by rw [← HL.out, List.take_length]; exact HLH2.out
              rw [hfull]
              clear hfull
              have hne : ((LH : Int) != (LH : Int)) = false := by simp
              have hkK : K ≤ 100 := by have := HKN.out; have := HN.out; omega
              go_wp2
              go_roundg (K - (k + 1))
              case measure => have := HGK.out; omega
              case rel => exact ⟨k + 1, m3, rfl, by go_num, by omega, rfl⟩
      case neg => as_aux_lemma =>
        obtain rfl : K = k := by omega
        clear c0 c1 c2 f0 f1 f2 hlt hk HGK
        have hb3 : Below w12.heap.size w12 (w12.drewN m) := below_draws _ _ _
        have hg := HGm.out
        have hH := HHm.out
        have hi := HIm.out
        have hV := HVm.out
        have hx := HXm.out
        have yh := HYm.out
        have hb := HBm.out
        replace hx := (hb3.block _ (Array.getElem?_eq_some_iff.1 hx).1).trans hx
        replace yh := (hb3.block _ (Array.getElem?_eq_some_iff.1 yh).1).trans yh
        replace hg := hg.below hb3
        replace hH := hH.below hb3
        replace hi := hi.below hb3
        replace hV := hV.below hb3
        replace hb := hb.trans (hb3.mono hb.size)
        clear hb3 HGm HHm HSm HIm HVm HXm HYm HBm HGA HGC HHA HHC HSA HSC HKA HKC HRNG
        generalize w12.drewN m = w13 at *
        by_cases hK0 : K = 0
        · have e0 : ((K : Int) == 0) = true := by simp [hK0]
          clear hK0
          go_wp2
          go_ret
          exact HE.out _ hb
        have e0 : ((K : Int) == 0) = false := by simpa using hK0
        by_cases hMK : M < K
        · have e1 : decide ((M : Int) < (K : Int)) = true := decide_eq_true (by omega)
          go_wp2
          go_ret
          exact HE.out _ hb
        have e1 : decide ((M : Int) < (K : Int)) = false := decide_eq_false (by omega)
        have HPX := Lib.hid (HPP.out (by omega) (by omega))
        have HMK : Hid (K ≤ M) := by show _ ≤ _; omega
        have HK0 : Hid (0 < K) := by show _ < _; omega
        clear hK0
        have hNm : N ≤ 140737488355328 := by have := HN.out; omega
        have hKm : K ≤ 100 := by have := HKN.out; have := HN.out; omega
        go_wp2_with (at_make; refine mk_bool rfl _ _ _ Tryd.underlying29 rfl w13.heap.size _ N rfl rfl rfl hNm (Nat.le_refl _) ?_; intro w14 hown hg1)
        have hB1 : Below w13.heap.size w13 w14 := (Below.refl _ _).grown hg1 (Nat.le_refl _) (fun k hk => by cases hk)
        obtain ⟨kb, ko, hka, -, hkc⟩ := hV.data
        obtain ⟨ib, io, hia, -, hic⟩ := hi.data
        have HKC := Lib.hid hkc
        have HIC := Lib.hid hic
        obtain rfl := hka HK0.out
        obtain rfl := hia (by have := HK0.out; omega)
        have hg' := Lib.hid hg
        have hH' := Lib.hid hH
        have hi' := Lib.hid hi
        have hV' := Lib.hid hV
        have hx' := Lib.hid hx
        have yh' := Lib.hid yh
        have hb' := Lib.hid hb
        clear hg hH hi hV hx yh hb hka hia hkc hic e0 e1
        go_loopg [19] K (fun gh i wr => ∃ k : Nat, gh = K - k ∧ i = .int .i64 k ∧ k ≤ K ∧ OB wr w13.heap.size (.slice (some ⟨w13.heap.size, 0, none⟩) N N) (bothK s inn k) ∧ Below w13.heap.size w13 wr)
        case atStart => exact ⟨0, by omega, rfl, by omega, by rw [bothK_zero, HSL.out]; exact hown, hB1⟩
        case round =>
          obtain ⟨k, hgk, rfl, hk, hown, hB1⟩ := hrel
          have HGK := Lib.hid hgk
          clear hgk
          by_cases hlt : k < K
          case pos => as_aux_lemma =>
            obtain ⟨v, q1, q2, q3, q4, -⟩ := HAT.out k hlt
            have hBD : Below w13.heap.size w13 wr.drew := hB1.trans (Below.drew (Below.refl _ _))
            have kc := cellB hBD (HKC.out k hlt)
            rw [q1] at kc
            have ic := cellB hBD (HIC.out k (by omega))
            have hownD : OB wr.drew w13.heap.size (.slice (some ⟨w13.heap.size, 0, none⟩) N N) (bothK s inn k) := hown.below (Below.drew (Below.refl _ _))
            have hlen : N = (bothK s inn k).length := by rw [bothK_len, HSL.out]
            obtain ⟨old, c2⟩ : ∃ x, wr.drew.cell? ⟨w13.heap.size, v, none⟩ = some (.bool x) := ⟨_, hownD.at' hlen v (by omega)⟩
            have f2 := hownD.fz hlen v
            have HSET : Hid (OB (wr.drew.setCell ⟨w13.heap.size, v, none⟩ (.bool (inn.getD k false))) w13.heap.size (.slice (some ⟨w13.heap.size, 0, none⟩) N N) (bothK s inn (k + 1))) := by
              rw [← bothK_set s inn k v q3 q4]
              exact hownD.set hlen v _
            have HBS := Lib.hid (hBD.setCell (Nat.le_refl _) (p := ⟨w13.heap.size, v, none⟩) (.bool (inn.getD k false)))
            clear hown hownD hlen hB1 hBD q1 q3 q4
            generalize inn.getD k false = bb at *
            have hkM : k < M := by omega
            go_wp2
            go_still_tail 10, (by kernel_rfl)
            change wpList _ _ _ _ _ wr.drew
            generalize wr.drew = w2 at *
            go_wp2
            go_roundg (K - (k + 1))
            case measure => have := HGK.out; omega
            case rel => exact ⟨k + 1, rfl, by go_num, by omega, HSET.out, HBS.out⟩
          case neg => as_aux_lemma =>
            obtain rfl : K = k := by omega
            have hboth : IsBools wr (.slice (some ⟨w13.heap.size, 0, none⟩) N N) (bothK s inn K) := by
              have h1 := hown.is (by rw [bothK_len, HSL.out]; have := HN.out; simp only [maxN]; omega)
              have h2 : hown = hown := rfl
              exact h1
            have hg := hg'.out
            have hH := hH'.out
            have hi := hi'.out
            have hV := hV'.out
            have hx := hx'.out
            have yh := yh'.out
            have hb := hb'.out
            replace hx := (hB1.block _ (Array.getElem?_eq_some_iff.1 hx).1).trans hx
            replace yh := (hB1.block _ (Array.getElem?_eq_some_iff.1 yh).1).trans yh
            replace hg := hg.below hB1
            replace hH := hH.below hB1
            replace hi := hi.below hB1
            replace hV := hV.below hB1
            replace hb := hb.trans (hB1.mono hb.size)
            clear hg' hH' hi' hV' hx' yh' hb' hown hB1 HKC HIC hlt hk HGK
            generalize w13.heap.size = z13 at *
            obtain ⟨w15, rfl⟩ : ∃ w15 : World, w15 = wr := ⟨_, rfl⟩
            have hit := hi.take (m := K) (by rw [HML.out]; exact HMK.out)
            have hKM : K ≤ M := HMK.out
            have hcap : K ≤ ci := by
              obtain ⟨a', c', b', o', hv', ha'⟩ := hi
              injection hv' with h1 h2 h3
              subst h1 h2 h3
              have := ha'.lc
              omega
            have hcapI : (K : Int) ≤ (ci : Int) := by omega
            have hK0I : (0 : Int) ≤ (K : Int) := Int.natCast_nonneg _
            obtain ⟨hpx1, hpx2, hpx3⟩ := HPX.out
            have HX3 := Lib.hid hpx3
            have HX2 := Lib.hid hpx2
            have HX1 := Lib.hid hpx1
            clear hpx1 hpx2 hpx3 HPX
            obtain ⟨X, hX0⟩ : ∃ X, partR h (inn.take K) = X := ⟨_, rfl⟩
            obtain ⟨Y, hY0⟩ : ∃ Y, partR g (bothK s inn K) = Y := ⟨_, rfl⟩
            rw [hX0, hY0] at HX1 HX2 HX3
            have HX0 := Lib.hid hX0
            have HY0 := Lib.hid hY0
            clear hX0 hY0
            have f0 := cell_of_row _ _ 0 _ _ _ yh
            have f1 := cell_of_row _ _ 1 _ _ _ yh
            have f2 := cell_of_row _ _ 2 _ _ _ yh
            have hz10 := (Array.getElem?_eq_some_iff.1 yh).1
            have HPI : Hid (∀ W, Below w15.heap.size w15 W → Calls Tryd.prog 15 #[.agg #[.slice p0 K x0, .slice p1 K x1, .slice p2 K x2], .slice (some ⟨ib, io, none⟩) K ci] W (GameIntsF X.1 X.2 W)) := fun W hW => by
              rw [← HX0.out]
              exact PartF_c W _ _ h (inn.take K) (hH.below hW) (hit.below hW) HROWH.out
            go_upto_region 36 with (fail)
            go_cut [20, 21] (fun s20 s21 wx => ∃ zx a3 n3 k3 a4 n4 k4 a5 n5 k5 ax cx, s20 = .pointer (some ⟨zx, 0, none⟩) ∧ s21 = .slice ax X.2.length cx ∧ wx.heap[zx]? = some (.cells #[.slice a3 n3 k3, .slice a4 n4 k4, .slice a5 n5 k5] 28 (0, 0)) ∧ IsGame wx (.agg #[.slice a3 n3 k3, .slice a4 n4 k4, .slice a5 n5 k5]) X.1 ∧ IsInts wx (.slice ax X.2.length cx) X.2 ∧ Below w15.heap.size w15 wx)
            case first => as_aux_lemma =>
              go_region_with (go_at_call 15; refine (HPI.out _ (by repeat (first | exact Below.refl _ _ | assumption | (refine belA ?_ _) | (refine belD ?_ _) | (refine Below.drew ?_)))).mono ?_; rintro e w16 ⟨vx, vxn, rfl, hX, hXn, hb16, hF16⟩; obtain ⟨a3, n3, k3, a4, n4, k4, a5, n5, k5, rfl⟩ := hX.shape; obtain ⟨ax, cx, rfl⟩ := hXn.shape; have HX := Lib.hid hX; have HXn := Lib.hid hXn; have HF16 := Lib.hid hF16; have hbD : Hid (Below w15.heap.size w15 w16) := Below.trans (by repeat (first | exact Below.refl _ _ | assumption | (refine belA ?_ _) | (refine belD ?_ _) | (refine Below.drew ?_))) (hb16.mono (by simp)); clear hX hXn hF16; (first | have qq := qq_of (w := w15) (cs := #[.slice none 0 0, .slice none 0 0, .slice none 0 0]) (t := 28) hb16 | have qq := qq_of' (w := w15) (cs := #[.slice none 0 0, .slice none 0 0, .slice none 0 0]) (t := 28) hb16 | skip); (try (have q0 := cell_of_row _ _ 0 _ _ _ qq)); (try (have q1 := cell_of_row _ _ 1 _ _ _ qq)); (try (have q2 := cell_of_row _ _ 2 _ _ _ qq)); (try (have r0 := frozen_of_row _ _ 0 _ _ qq)); (try (have r1 := frozen_of_row _ _ 1 _ _ qq)); (try (have r2 := frozen_of_row _ _ 2 _ _ qq)); clear hb16)
              all_goals
                go_wp2_with fail
                go_meet
                case rel =>
                  first
                  | exact ⟨_, _, _, _, _, _, _, _, _, _, _, _, rfl, rfl, heap_alloc_new _ _, HX.out.below (bel_box _), HXn.out.below (bel_box _), hbD.out.trans ((bel_box _).mono hbD.out.size)⟩
                  | exact ⟨_, _, _, _, _, _, _, _, _, _, _, _, rfl, rfl, three_set qq, (HF16.out _ (by simp) (fun k h1 h2 => by simp at h1; rw [heap_set_ne _ _ _ _ _ (by omega), heap_set_ne _ _ _ _ _ (by omega), heap_set_ne _ _ _ _ _ (by omega)])).1, (HF16.out _ (by simp) (fun k h1 h2 => by simp at h1; rw [heap_set_ne _ _ _ _ _ (by omega), heap_set_ne _ _ _ _ _ (by omega), heap_set_ne _ _ _ _ _ (by omega)])).2, below_three hbD.out (Nat.le_refl _)⟩
            case rest => as_aux_lemma =>
              obtain ⟨zx, a3, n3, k3, a4, n4, k4, a5, n5, k5, ax, cx, rfl, rfl, xx, hX, hXn, hb3⟩ := hcut
              clear f0 f1 f2 hit HPI hz10
              replace hx := (hb3.block _ (Array.getElem?_eq_some_iff.1 hx).1).trans hx
              replace hg := hg.below hb3
              replace hV := hV.below hb3
              replace hboth := hboth.below hb3
              replace hb := hb.trans (hb3.mono hb.size)
              clear hb3 yh hH hi
              have c0 := cell_of_row _ _ 0 _ _ _ hx
              have c1 := cell_of_row _ _ 1 _ _ _ hx
              have c2 := cell_of_row _ _ 2 _ _ _ hx
              obtain ⟨w17, rfl⟩ : ∃ w17 : World, w17 = wc := ⟨_, rfl⟩
              go_wp2_with fail
              refine (Part_c _ _ _ g (bothK s inn K) hg hboth HROW.out).mono ?_
              rw [HY0.out]
              rintro e w18 ⟨vy, vyn, rfl, hY, hYn, hb3⟩
              obtain ⟨a6, n6, k6, a7, n7, k7, a8, n8, k8, rfl⟩ := hY.shape
              obtain ⟨ay, cy, rfl⟩ := hYn.shape
              replace xx := (hb3.block _ (Array.getElem?_eq_some_iff.1 xx).1).trans xx
              replace hX := hX.below hb3
              replace hXn := hXn.below hb3
              replace hV := hV.below hb3
              replace hb := hb.trans (hb3.mono hb.size)
              clear c0 c1 c2 hb3 hx hg hboth
              go_upto_region 38 with (fail)
              obtain ⟨yy, hb3, -⟩ := box_new hb hb.size #[.slice a6 n6 k6, .slice a7 n7 k7, .slice a8 n8 k8] 28
              replace xx := (hb3.block _ (Array.getElem?_eq_some_iff.1 xx).1).trans xx
              replace hX := hX.below hb3
              replace hXn := hXn.below hb3
              replace hV := hV.below hb3
              replace hY := hY.below hb3
              replace hYn := hYn.below hb3
              replace hb := hb.trans (hb3.mono hb.size)
              clear hb3
              generalize w18.alloc (.cells #[.slice a6 n6 k6, .slice a7 n7 k7, .slice a8 n8 k8] 28) = w19 at *
              generalize w18.heap.size = zy at *
              have e0 := cell_of_row _ _ 0 _ _ _ xx
              have e1 := cell_of_row _ _ 1 _ _ _ xx
              have e2 := cell_of_row _ _ 2 _ _ _ xx
              have f0 := cell_of_row _ _ 0 _ _ _ yy
              have f1 := cell_of_row _ _ 1 _ _ _ yy
              have f2 := cell_of_row _ _ 2 _ _ _ yy
              go_wp2_with fail
              refine (Same_c _ _ _ X.1 Y.1 hX hY).mono ?_
              rw [decide_eq_true HX1.out]
              rintro e w20 ⟨rfl, hb3⟩
              replace hXn := hXn.below hb3
              replace hV := hV.below hb3
              replace hYn := hYn.below hb3
              replace hb := hb.trans (hb3.mono hb.size)
              clear hb3 e0 e1 e2 f0 f1 f2 xx yy hX hY
              have hne : ((X.2.length : Int) != (Y.2.length : Int)) = false := by rw [HX2.out]; simp
              obtain ⟨xb, xo, hxa, hxn, hxc⟩ := hXn.data
              obtain ⟨yb, yo, hya, -, hyc⟩ := hYn.data
              obtain ⟨kb', ko', hka, -, hkc⟩ := hV.data
              have HXA := Lib.hid hxa
              have HXC := Lib.hid hxc
              have HYA := Lib.hid hya
              have HYC := Lib.hid hyc
              obtain ⟨rfl, rfl⟩ : kb = kb' ∧ ko = ko' := by simpa using hka HK0.out
              have HKC := Lib.hid hkc
              have HB := Lib.hid hb
              have HXL : Hid (Y.2.length = X.2.length) := HX2.out.symm
              generalize Y.2.length = LY at *
              generalize X.2.length = LX at *
              have HLX : Hid (LX ≤ 140737488351232) := hxn
              clear hxa hxc hya hyc hka hkc hb hxn hXn hYn hV
              go_wp2
              clear hne
              go_loopg [24] LX (fun gh i wr => ∃ k m : Nat, gh = LX - k ∧ i = .int .i64 k ∧ k ≤ LX ∧ w20.drewN m = wr)
              case atStart => exact ⟨0, 0, by omega, rfl, by omega, rfl⟩
              case round => as_aux_lemma =>
                obtain ⟨k, m, hgk, rfl, hk, rfl⟩ := hrel
                have HGK := Lib.hid hgk
                clear hgk
                by_cases hlt : k < LX
                case neg =>
                  obtain rfl : LX = k := by omega
                  go_wp2
                  go_ret
                  exact HE.out _ (HB.out.trans (below_draws _ _ _))
                obtain ⟨u, y1, y2, y3⟩ := HX3.out k hlt
                have xc := HXC.out k hlt
                rw [y1] at xc
                have hkY : k < LY := by rw [HXL.out]; exact hlt
                have yc := HYC.out k hkY
                rw [← y3] at yc
                have kc := HKC.out u y2
                obtain rfl := HXA.out (by omega)
                obtain rfl := HYA.out (by omega)
                generalize ks.getD u 0 = yv at *
                have s1 : decide ((u : Int) < 0) = false := decide_eq_false (by omega)
                have s2 : decide ((K : Int) ≤ (u : Int)) = false := decide_eq_false (by omega)
                have s2b : decide (K ≤ u) = false := decide_eq_false (by omega)
                have s3 : (yv != yv) = false := by simp
                have hLXm := HLX.out
                clear y1 y3
                go_wp2
                refine wp_region_quiet_lit (by kernel_rfl) (by kernel_rfl) ?_
                ((repeat (go_big_quiet_step (fail))); refine wpQuiet_nil ?_; rintro _ ⟨nq, rfl⟩)
                rw [World.drewN_drewN]
                generalize m + nq = m2
                go_wp2
                go_roundg (LX - (k + 1))
                case measure => have := HGK.out; omega
                case rel => exact ⟨k + 1, m2, rfl, by go_num, by omega, rfl⟩

end Go.Proofs.YtjadeffdcbchnaaDoor
