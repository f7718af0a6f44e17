/- The law ArenaStates: its walk. -/
import Derived.Test.YtjadeffdcbchnaaDoorAr43
namespace Go.Proofs.YtjadeffdcbchnaaDoor
open Go.RowKit

section
variable {a : Au} {l : List Sig} {r : List Pl}
theorem badB_no (hs : validS l = true) (hv : validA a = true) (he : a.letters = lettersI l) {m : Int} (h1 : 1 ≤ m) (h2 : m ≤ 3000) : badB a l m = false := by
  unfold badB
  rw [hs, hv, he]
  simp; omega
theorem buildE_some (hs : validS l = true) (hv : validA a = true) (he : a.letters = lettersI l) {m : Int} (h1 : 1 ≤ m) (h2 : m ≤ 3000) (h : buildP a l m.toNat = some r) : buildE a l m = (plGm (succPl a (joinT l)) (topA a) r r.length, r, 0) := by
  unfold buildE
  rw [badB_no hs hv he h1 h2, if_neg (by simp), h]
theorem buildE_none (hs : validS l = true) (hv : validA a = true) (he : a.letters = lettersI l) {m : Int} (h1 : 1 ≤ m) (h2 : m ≤ 3000) (h : buildP a l m.toNat = none) : buildE a l m = (⟨[], [], []⟩, [], 2) := by
  unfold buildE
  rw [badB_no hs hv he h1 h2, if_neg (by simp), h]
theorem buildE_low {m : Int} (h1 : m < 1) : buildE a l m = (⟨[], [], []⟩, [], 1) := by
  unfold buildE
  rw [if_pos]
  unfold badB
  simp [h1]
end
theorem IsPls.shape {w : World} {v : Value} {l : List Pl} (h : IsPls w v l) : ∃ ao cap, v = .slice ao l.length cap := by
  obtain ⟨ao, cap, b, off, rfl, -⟩ := h
  exact ⟨ao, cap, rfl⟩
theorem IsPls.data {w : World} {a : Option Addr} {n c : Nat} {l : List Pl} (h : IsPls w (.slice a n c) l) : ∃ b o, (0 < n → a = some ⟨b, o, none⟩) ∧ n ≤ 140737488351232 ∧ ∀ j, (hj : j < l.length) → w.cell? ⟨b, o + j * 3, none⟩ = some (.int .i64 l[j].st) ∧ w.cell? ⟨b, o + j * 3 + 1, none⟩ = some (.int .i64 l[j].inn) ∧ w.cell? ⟨b, o + j * 3 + 2, none⟩ = some (.int .i64 l[j].pr) := by
  obtain ⟨a', c', b, o, hv, ha, -⟩ := h
  injection hv with h1 h2 h3
  subst h1 h2 h3
  exact ⟨b, o, fun h => ha.ad h, by have := ha.nm; unfold maxN at this; omega, fun j hj => ⟨ha.e0 j hj, ha.e1 j hj, ha.e2 j hj⟩⟩

def RS20 (l : List Sig) (vl : Value) (ib io ci cb N i : Nat) (ix : Nat) (u : Value) (_ : World) : Prop :=
  match ix with
  | 0 => u = .slice (some ⟨ib, io, none⟩) N ci
  | 1 => u = .int .i64 (i : Int)
  | 2 => u = .pointer (some ⟨ib, io + i, none⟩)
  | 3 => u = .bool true
  | 4 => u = .bool true
  | 5 => u = .slice (some ⟨cb, 0, none⟩) N N
  | 6 => u = .int .i64 (i : Int)
  | 7 => u = .pointer (some ⟨cb, i, none⟩)
  | 8 => u = .int .i64 (inputsI l)
  | 9 => u = vl
  | 10 => u = .int .i64 (inputsI l)
  | 11 => u = .bool false
  | 12 => u = .bool false
  | 13 => u = .bool false
  | 14 => u = .slice (some ⟨ib, io, none⟩) N ci
  | 15 => u = .int .i64 (i : Int)
  | 16 => u = .pointer (some ⟨ib, io + i, none⟩)
  | 17 => u = .bool true
  | 18 => u = .bool false
  | 19 => u = .bool false
  | 20 => u = undef
  | 21 => u = undef
  | 22 => u = undef
  | 23 => u = undef
  | 24 => u = undef
  | 25 => u = .bool false
  | 26 => u = .bool false
  | _ => True

set_option maxRecDepth 100000 in
set_option maxHeartbeats 8000000 in
theorem States_walk (w : World) (vl va : Value) (l : List Sig) (a : Au) (n : Int) (hK : Keys w) (hl : IsSigs w vl l) (ha : IsAuto w va a) (hn : 0 ≤ n ∧ n ≤ 255) :
    Calls Tryd.prog 7 #[vl, va, .int .u8 n] w (Calm (.bool true) w) := by
  have hmx : Tryd.prog.follows .mixedOrders = true := by kernel_rfl
  obtain ⟨p2, n2, k2, p3, n3, k3, rfl⟩ := ha.shape
  go_enter Tryd.func7, Tryd.ntmps7
  go_upto_region 1 with (fail)
  obtain ⟨hx, hB⟩ : (w.alloc (.cells #[.int .i64 a.letters, .int .i64 a.start, .slice p2 n2 k2, .slice p3 n3 k3] 25)).heap[w.heap.size]? = some (.cells #[.int .i64 a.letters, .int .i64 a.start, .slice p2 n2 k2, .slice p3 n3 k3] 25 (0, 0)) ∧ Below w.heap.size w (w.alloc (.cells #[.int .i64 a.letters, .int .i64 a.start, .slice p2 n2 k2, .slice p3 n3 k3] 25)) := ⟨heap_alloc_new _ _, bel_box _⟩
  replace hl := hl.below hB
  replace ha := ha.below hB
  replace hK := hK.below hB
  generalize w.alloc (.cells #[.int .i64 a.letters, .int .i64 a.start, .slice p2 n2 k2, .slice p3 n3 k3] 25) = w1 at *
  have HE : Hid (∀ W, Below w1.heap.size w1 W → Calm (.bool true) w (.returned (.bool true)) W) := fun W h => ⟨rfl, hB.trans (h.mono hB.size)⟩
  clear hB
  generalize w.heap.size = za at *
  go_wp2_with fail
  refine (head_c _ hK).mono ?_
  rintro e w2 ⟨rfl, hb⟩
  replace hx := (hb.block _ (Array.getElem?_eq_some_iff.1 hx).1).trans hx
  replace hl := hl.below hb
  replace ha := ha.below hb
  replace hK := hK.below hb
  have c0 := cell_of_row _ _ 0 _ _ _ hx
  have c1 := cell_of_row _ _ 1 _ _ _ hx
  have c2 := cell_of_row _ _ 2 _ _ _ hx
  have c3 := cell_of_row _ _ 3 _ _ _ hx
  go_wp2_with fail
  refine (fine_c _ _ _ l a hl ha).mono ?_
  rintro e w3 ⟨rfl, hb3⟩
  replace hx := (hb3.block _ (Array.getElem?_eq_some_iff.1 hx).1).trans hx
  replace hl := hl.below hb3
  replace ha := ha.below hb3
  replace hK := hK.below hb3
  replace hb := hb.trans (hb3.mono hb.size)
  clear c0 c1 c2 c3 hb3
  cases hf : fineB l a
  · go_wp2_with fail
    go_ret
    exact HE.out _ hb
  obtain ⟨hs, hsm, hv, he⟩ : validS l = true ∧ smallA a = true ∧ validA a = true ∧ a.letters = lettersI l := by
    simp only [fineB, Bool.and_eq_true, beq_iff_eq] at hf
    exact ⟨hf.1.1.1, hf.1.1.2, hf.1.2, hf.2⟩
  have HSV := Lib.hid (And.intro hs (And.intro hv he))
  obtain ⟨ob, hob⟩ : ∃ ob, buildP a l 3000 = ob := ⟨_, rfl⟩
  have hNx : Hid (a.next.length ≤ 60) := by
    simp only [smallA, Bool.and_eq_true, decide_eq_true_eq] at hsm
    exact hsm.1.1.1
  clear hs hsm hv he hf
  have c0 := cell_of_row _ _ 0 _ _ _ hx
  have c1 := cell_of_row _ _ 1 _ _ _ hx
  have c2 := cell_of_row _ _ 2 _ _ _ hx
  have c3 := cell_of_row _ _ 3 _ _ _ hx
  cases ob with
  | none =>
    have hE : buildE a l 3000 = (⟨[], [], []⟩, [], 2) := buildE_none HSV.out.1 HSV.out.2.1 HSV.out.2.2 (by omega) (by omega) hob
    have HEE := Lib.hid hE
    clear hE hob
    go_wp2_with fail
    refine (Build_c _ _ _ l a 3000 hK hl ha).mono ?_
    rw [HEE.out]
    rintro e w4 ⟨vg, vp, rfl, hG, -, hb3⟩
    obtain ⟨g0, m0, j0, g1, m1, j1, g2, m2, j2, rfl⟩ := hG.shape
    replace hb := hb.trans (hb3.mono hb.size)
    clear c0 c1 c2 c3 hb3
    go_upto_region 5 with (fail)
    obtain ⟨-, hb3, -⟩ := box_new hb hb.size #[.slice g0 m0 j0, .slice g1 m1 j1, .slice g2 m2 j2] 28
    replace hb := hb.trans (hb3.mono hb.size)
    generalize w4.alloc (.cells #[.slice g0 m0 j0, .slice g1 m1 j1, .slice g2 m2 j2] 28) = w5 at *
    go_wp2_with fail
    go_ret
    exact HE.out _ hb
  | some r =>
    have hE : buildE a l 3000 = (plGm (succPl a (joinT l)) (topA a) r r.length, r, 0) := buildE_some HSV.out.1 HSV.out.2.1 HSV.out.2.2 (by omega) (by omega) hob
    have hrl : r.length ≤ 3000 := bfs_len _ _ _ _ hob (by simp)
    have hr1 := (found_of hob).pos
    have hE2 : ∀ m : Int, 1 ≤ m → m ≤ 3000 → (r.length : Int) ≤ m → buildE a l m = (plGm (succPl a (joinT l)) (topA a) r r.length, r, 0) := fun m h1 h2 h3 => buildE_some HSV.out.1 HSV.out.2.1 HSV.out.2.2 h1 h2 (build_same (most := 3000) hob (by omega))
    obtain ⟨e3, hE3, he3⟩ : ∃ e3 : Int, buildE a l ((r.length : Int) - 1) = (⟨[], [], []⟩, [], e3) ∧ (e3 != 0) = true := by
      by_cases h1 : (r.length : Int) - 1 < 1
      · exact ⟨1, buildE_low h1, rfl⟩
      · exact ⟨2, buildE_none HSV.out.1 HSV.out.2.1 HSV.out.2.2 (by omega) (by omega) (build_less hob (by omega) (by omega)), rfl⟩
    have HST : Hid (∀ L, ReachL a L → ∀ y ∈ r, y.st ∈ L) := fun L hL => places_st HSV.out.1 HSV.out.2.1 HSV.out.2.2 hob hL
    have HCN : Hid (∀ L, ReachL a L → ∀ q, (cntP r q : Int) = if q ∈ L then inputsI l else 0) := fun L hL q => places_cnt HSV.out.1 HSV.out.2.1 HSV.out.2.2 hob hL q
    obtain ⟨gm, hgm⟩ : ∃ gm, plGm (succPl a (joinT l)) (topA a) r r.length = gm := ⟨_, rfl⟩
    rw [hgm] at hE
    simp only [hgm] at hE2
    have HE1 := Lib.hid hE
    obtain ⟨R, hR⟩ : ∃ R, r.length = R := ⟨_, rfl⟩
    rw [hR] at hE2 hE3
    have HE2 := Lib.hid hE2
    have HE3 := Lib.hid hE3
    have HR := Lib.hid hR
    have HRL : Hid (R ≤ 3000 ∧ 1 ≤ R) := by rw [← hR]; exact ⟨hrl, hr1⟩
    clear hE hE2 hE3 hgm hob hrl hr1 hR
    go_wp2_with fail
    refine (Build_c _ _ _ l a 3000 hK hl ha).mono ?_
    rw [HE1.out]
    rintro e w4 ⟨vg, vp, rfl, hG, hP, hb3⟩
    obtain ⟨g0, m0, j0, g1, m1, j1, g2, m2, j2, rfl⟩ := hG.shape
    obtain ⟨ap, cp, rfl⟩ := hP.shape
    rw [HR.out] at hP ⊢
    replace hx := (hb3.block _ (Array.getElem?_eq_some_iff.1 hx).1).trans hx
    replace hl := hl.below hb3
    replace ha := ha.below hb3
    replace hK := hK.below hb3
    replace hb := hb.trans (hb3.mono hb.size)
    clear c0 c1 c2 c3 hb3
    go_upto_region 5 with (fail)
    obtain ⟨y8, hb3, -⟩ := box_new hb hb.size #[.slice g0 m0 j0, .slice g1 m1 j1, .slice g2 m2 j2] 28
    replace hx := (hb3.block _ (Array.getElem?_eq_some_iff.1 hx).1).trans hx
    replace hl := hl.below hb3
    replace ha := ha.below hb3
    replace hK := hK.below hb3
    replace hG := hG.below hb3
    replace hP := hP.below hb3
    replace hb := hb.trans (hb3.mono hb.size)
    clear hb3
    generalize w4.alloc (.cells #[.slice g0 m0 j0, .slice g1 m1 j1, .slice g2 m2 j2] 28) = w5 at *
    generalize w4.heap.size = z8 at *
    have c0 := cell_of_row _ _ 0 _ _ _ hx
    have c1 := cell_of_row _ _ 1 _ _ _ hx
    have c2 := cell_of_row _ _ 2 _ _ _ hx
    have c3 := cell_of_row _ _ 3 _ _ _ hx
    go_wp2_with fail
    refine (reached_c _ _ a ha HSV.out.2.1).mono ?_
    rintro e w6 ⟨vi, L, rfl, hI, hRL, hb3⟩
    obtain ⟨ai, ci, rfl⟩ := hI.shape
    rw [inL_len] at hI ⊢
    replace hx := (hb3.block _ (Array.getElem?_eq_some_iff.1 hx).1).trans hx
    replace y8 := (hb3.block _ (Array.getElem?_eq_some_iff.1 y8).1).trans y8
    replace hl := hl.below hb3
    replace ha := ha.below hb3
    replace hK := hK.below hb3
    replace hG := hG.below hb3
    replace hP := hP.below hb3
    replace hb := hb.trans (hb3.mono hb.size)
    clear c0 c1 c2 c3 hb3
    have HNP : Hid (0 < a.next.length) := by
      have := hRL.rg _ hRL.st
      show _ < _
      omega
    obtain ⟨N, hN⟩ : ∃ N, a.next.length = N := ⟨_, rfl⟩
    have HN := Lib.hid hN
    have hN60 : N ≤ 60 := by rw [← hN]; exact hNx.out
    have hN0 : 0 < N := by rw [← hN]; exact HNP.out
    rw [hN] at hI ⊢
    clear hN
    have HLS : Hid (∀ k (hk : k < r.length), ∃ v : Nat, r[k].st = (v : Int) ∧ v < N ∧ (inL N L).getD v false = true) := fun k hk => by
      have h1 := HST.out L hRL _ (List.getElem_mem hk)
      have h2 := hRL.rg _ h1
      obtain ⟨v, hv⟩ := Int.eq_ofNat_of_zero_le h2.1
      have hvN : v < N := by rw [← HN.out]; omega
      exact ⟨v, hv, hvN, by rw [inL_get _ _ _ hvN, decide_eq_true_eq, ← hv]; exact h1⟩
    have HCT : Hid (∀ v, v < N → ((inL N L).getD v false = true ∧ (cntL N r r.length).getD v 0 = inputsI l) ∨ ((inL N L).getD v false = false ∧ (cntL N r r.length).getD v 0 = 0)) := fun v hv => by
      have h1 := HCN.out L hRL (v : Int)
      rw [inL_get _ _ _ hv, cntL_get _ _ _ _ hv, List.take_length, h1]
      by_cases hm : (v : Int) ∈ L
      · exact .inl ⟨decide_eq_true hm, if_pos hm⟩
      · exact .inr ⟨decide_eq_false hm, if_neg hm⟩
    clear HST HCN hNx HNP hRL
    go_wp2_with (at_make; refine mk_int rfl _ _ _ Tryd.underlying26 rfl w6.heap.size _ N rfl rfl rfl (by omega) (Nat.le_refl _) ?_; intro w7 hown hg1)
    have hB1 : Below w6.heap.size w6 w7 := (Below.refl _ _).grown hg1 (Nat.le_refl _) (fun k hk => by cases hk)
    obtain ⟨ib, io, hia, -, hic⟩ := hI.data
    obtain ⟨pb, po, hpa, -, hpc⟩ := hP.data
    obtain rfl := hia hN0
    obtain rfl := hpa HRL.out.2
    have HIC := Lib.hid hic
    have HPC : Hid (∀ j (hj : j < r.length), w6.cell? ⟨pb, po + j * 3, none⟩ = some (.int .i64 r[j].st) ∧ w6.cell? ⟨pb, po + j * 3 + 1, none⟩ = some (.int .i64 r[j].inn)) := fun j hj => ⟨(hpc j hj).1, (hpc j hj).2.1⟩
    have hl' := Lib.hid hl
    have ha' := Lib.hid ha
    have hK' := Lib.hid hK
    have hG' := Lib.hid hG
    have hP' := Lib.hid hP
    have hx' := Lib.hid hx
    have y8' := Lib.hid y8
    have hb' := Lib.hid hb
    clear hl ha hK hG hP hx y8 hb hI hia hpa hic hpc
    go_loopg [13] R (fun gh i wr => ∃ k : Nat, gh = R - k ∧ i = .int .i64 k ∧ k ≤ R ∧ OI wr w6.heap.size (.slice (some ⟨w6.heap.size, 0, none⟩) N N) (cntL N r k) ∧ Below w6.heap.size w6 wr)
    case atStart => exact ⟨0, by omega, rfl, by omega, by rw [cntL_zero]; exact hown, hB1⟩
    case round =>
      obtain ⟨k, hgk, rfl, hk, hO, hB⟩ := hrel
      have HGK := Lib.hid hgk
      clear hgk hown hg1 hB1
      by_cases hlt : k < R
      case pos => as_aux_lemma =>
        have hkr : k < r.length := by rw [HR.out]; exact hlt
        obtain ⟨v, e1, e2, e3'⟩ := HLS.out k hkr
        obtain ⟨c0, c1⟩ := HPC.out k hkr
        have ic := HIC.out v e2
        rw [e1] at c0
        rw [e3'] at ic
        replace c0 := cellB hB c0
        replace c1 := cellB hB c1
        replace ic := cellB hB ic
        have hR3 := HRL.out.1
        have s1 : decide ((v : Int) < 0) = false := decide_eq_false (by omega)
        have s2 : decide ((N : Int) ≤ (v : Int)) = false := decide_eq_false (by omega)
        have s2b : decide (N ≤ v) = false := decide_eq_false (by omega)
        have hv0 : (0 : Int) ≤ (v : Int) := Int.natCast_nonneg _
        have hvl : v < (cntL N r k).length := by rw [cntL_len]; exact e2
        have hc := hO.at' (cntL_len N r k).symm v hvl
        have hf := hO.fz (cntL_len N r k).symm v
        have hcv : (cntL N r k)[v] = ((cntP (r.take k) (v : Int)) : Int) := by rw [← getD_lt _ 0 _ hvl]; exact cntL_get _ _ _ _ e2
        rw [hcv] at hc
        have hcl := cntP_le r k (v : Int)
        have hw1 : IntKind.i64.wrap ((cntP (r.take k) (v : Int) : Int) + 1) = (cntP (r.take k) (v : Int) : Int) + 1 := IntWalk.i64_in _ ⟨by omega, by have := HR.out; omega⟩
        have HSET : Hid (0 ≤ r[k].inn → OI (wr.setCell ⟨w6.heap.size, v, none⟩ (.int .i64 ((cntP (r.take k) (v : Int) : Int) + 1))) w6.heap.size (.slice (some ⟨w6.heap.size, 0, none⟩) N N) (cntL N r (k + 1))) := fun h => by
          rw [← cntL_set N r k v hkr e1 h]
          exact hO.set (cntL_len N r k).symm v _
        have HKP : Hid (r[k].inn < 0 → OI wr w6.heap.size (.slice (some ⟨w6.heap.size, 0, none⟩) N N) (cntL N r (k + 1))) := fun h => by
          rw [cntL_keep N r k hkr h]
          exact hO
        have HBS := Lib.hid (hB.setCell (Nat.le_refl _) (p := ⟨w6.heap.size, v, none⟩) (.int .i64 ((cntP (r.take k) (v : Int) : Int) + 1)))
        have HB := Lib.hid hB
        clear e1 e3' hcv hcl hO hB hvl
        generalize ((cntP (r.take k) (v : Int)) : Int) = cv at *
        generalize r[k].inn = yi at *
        by_cases hyi : 0 ≤ yi
        · have hyd : decide (0 ≤ yi) = true := decide_eq_true hyi
          have HS2 := Lib.hid (HSET.out hyi)
          clear HSET HKP
          go_wp2
          go_roundg (R - (k + 1))
          case measure => have := HGK.out; omega
          case rel => exact ⟨k + 1, rfl, by go_num, by omega, HS2.out, HBS.out⟩
        · have hyd : decide (0 ≤ yi) = false := decide_eq_false hyi
          have HS2 := Lib.hid (HKP.out (by omega))
          clear HSET HKP
          go_wp2
          go_roundg (R - (k + 1))
          case measure => have := HGK.out; omega
          case rel => exact ⟨k + 1, rfl, by go_num, by omega, HS2.out, HB.out⟩
      case neg => as_aux_lemma =>
        obtain rfl : R = k := by omega
        have hO2 := hO
        rw [show cntL N r R = cntL N r r.length by rw [HR.out]] at hO2
        have hl := hl'.out
        have ha := ha'.out
        have hK := hK'.out
        have hG := hG'.out
        have hP := hP'.out
        have hx := hx'.out
        have y8 := y8'.out
        have hb := hb'.out
        replace hx := (hB.block _ (Array.getElem?_eq_some_iff.1 hx).1).trans hx
        replace y8 := (hB.block _ (Array.getElem?_eq_some_iff.1 y8).1).trans y8
        replace hl := hl.below hB
        replace ha := ha.below hB
        replace hK := hK.below hB
        replace hG := hG.below hB
        replace hP := hP.below hB
        replace hb := hb.trans (hB.mono hb.size)
        have HIC2 : Hid (∀ v, v < N → wr.cell? ⟨ib, io + v, none⟩ = some (.bool ((inL N L).getD v false))) := fun v hv => cellB hB (HIC.out v hv)
        have HCC : Hid (∀ v, v < N → wr.cell? ⟨w6.heap.size, v, none⟩ = some (.int .i64 ((cntL N r r.length).getD v 0))) := fun v hv => by
          have hvl : v < (cntL N r r.length).length := by rw [cntL_len]; exact hv
          rw [getD_lt _ _ _ hvl]
          exact hO2.at' (cntL_len N r r.length).symm v hvl
        clear hl' ha' hK' hG' hP' hx' y8' hb' hO hO2 HIC HPC HLS hlt hk HGK hB
        generalize w6.heap.size = cb at *
        obtain ⟨wB, rfl⟩ : ∃ wB : World, wB = wr := ⟨_, rfl⟩
        have HIN0 : Hid (∀ W, Below wB.heap.size wB W → Calls Tryd.prog 26 #[vl] W (Calm (.int .i64 (inputsI l)) W)) := fun W h => RInputs_c W vl l (hl.below h)
        have hl' := Lib.hid hl
        have ha' := Lib.hid ha
        have hK' := Lib.hid hK
        have hG' := Lib.hid hG
        have hP' := Lib.hid hP
        have hx' := Lib.hid hx
        have y8' := Lib.hid y8
        have hb' := Lib.hid hb
        clear hl ha hK hG hP hx y8 hb
        go_wp2
        go_loopg [15] N (fun gh i wr => ∃ k : Nat, gh = N - k ∧ i = .int .i64 k ∧ k ≤ N ∧ Below wB.heap.size wB wr)
        case atStart => exact ⟨0, by omega, rfl, by omega, Below.refl _ _⟩
        case round =>
          obtain ⟨i, hgi, rfl, hi, hB⟩ := hrel
          have HGI := Lib.hid hgi
          clear hgi
          by_cases hlt : i < N
          case pos => as_aux_lemma =>
            have q0 := cellB hB (HIC2.out i hlt)
            have q1 := cellB hB (HCC.out i hlt)
            have hi0 : (0 : Int) ≤ (i : Int) := Int.natCast_nonneg _
            rcases HCT.out i hlt with ⟨h1, h2⟩ | ⟨h1, h2⟩
            · rw [h1] at q0
              rw [h2] at q1
              clear h1 h2
              have hne : (inputsI l != inputsI l) = false := by simp
              have HB0 : Hid (∀ W, Below wr.drew.heap.size wr.drew W → Below wr.heap.size wr W) := fun W h => (Below.drew (B := wr.heap.size) (Below.refl _ _)).trans h
              have HB1 : Hid (∀ W, Below wr.drew.heap.size wr.drew W → Below wB.heap.size wB W) := fun W h => hB.trans ((HB0.out W h).mono hB.size)
              have HQ : Hid (∀ W, Below wr.drew.heap.size wr.drew W → W.cell? ⟨ib, io + i, none⟩ = some (.bool true) ∧ W.cell? ⟨cb, i, none⟩ = some (.int .i64 (inputsI l))) := fun W h => ⟨cellB (HB0.out W h) q0, cellB (HB0.out W h) q1⟩
              have HIN := HIN0
              clear hB q0 q1
              go_wp2
              refine region_stable hmx (RS20 l vl ib io ci cb N i) (fun vs => { tmps := (_ :: _ :: _ :: _ :: _ :: _ :: _ :: _ :: _ :: _ :: _ :: _ :: _ :: _ :: _ :: _ :: _ :: _ :: _ :: _ :: _ :: _ :: _ :: _ :: _ :: _ :: _ :: _ :: _ :: _ :: _ :: _ :: _ :: _ :: _ :: _ :: _ :: _ :: _ :: _ :: _ :: _ :: _ :: _ :: _ :: _ :: _ :: _ :: _ :: _ :: _ :: _ :: _ :: _ :: _ :: _ :: _ :: _ :: _ :: _ :: _ :: _ :: _ :: _ :: _ :: _ :: _ :: _ :: _ :: _ :: _ :: _ :: _ :: _ :: _ :: _ :: _ :: _ :: _ :: _ :: _ :: _ :: _ :: _ :: _ :: _ :: _ :: _ :: _ :: _ :: _ :: vs 0 :: vs 1 :: vs 2 :: vs 3 :: vs 4 :: vs 5 :: vs 6 :: vs 7 :: vs 8 :: vs 9 :: vs 10 :: vs 11 :: vs 12 :: vs 13 :: vs 14 :: vs 15 :: vs 16 :: vs 17 :: vs 18 :: vs 19 :: vs 20 :: vs 21 :: vs 22 :: vs 23 :: vs 24 :: vs 25 :: vs 26 :: _ :: _ :: _ :: _ :: _ :: _ :: _ :: _ :: _ :: _ :: _ :: _ :: _ :: _ :: _ :: _ :: _ :: _ :: _ :: _ :: _ :: _ :: _ :: _ :: _ :: _ :: _ :: _ :: _ :: _ :: _ :: _ :: _ :: _ :: _ :: _ :: _ :: _ :: _ :: _ :: _ :: _ :: []).toArray, defers := _ }) (fun n => [u91, u92, u93, u94, u95, u96, u97, u98, u99, u100, u101, u102, u103, u104, u105, u106, u107, u108, u109, u110, u111, u112, u113, u114, u115, u116, u117].getD n undef) rfl (by kernel_rfl) (fun _ _ _ _ h _ => h) ?step ?fin
              case step =>
                intro ix o ho
                match ix, ho with
                | 0, ho =>
                  obtain rfl := Option.some.inj ho
                  intro vs W K hB hD hK
                  have HK := Lib.hid hK
                  clear hK hD ho
                  dsimp only
                  go_simp
                  have h := HK.out _ _ (Below.refl _ _) rfl
                  simp only [upd, Nat.reduceEqDiff, reduceIte] at h
                  exact h
                | 1, ho =>
                  obtain rfl := Option.some.inj ho
                  intro vs W K hB hD hK
                  have HK := Lib.hid hK
                  clear hK hD ho
                  dsimp only
                  go_simp
                  have h := HK.out _ _ (Below.refl _ _) rfl
                  simp only [upd, Nat.reduceEqDiff, reduceIte] at h
                  exact h
                | 2, ho =>
                  obtain rfl := Option.some.inj ho
                  intro vs W K hB hD hK
                  have HK := Lib.hid hK
                  have e0 : vs 0 = .slice (some ⟨ib, io, none⟩) N ci := dep_of hD 0 (by rfl)
                  have e1 : vs 1 = .int .i64 (i : Int) := dep_of hD 1 (by rfl)
                  clear hK hD ho
                  dsimp only
                  go_simp
                  have h := HK.out _ _ (Below.refl _ _) rfl
                  simp only [upd, Nat.reduceEqDiff, reduceIte, e0, e1] at h
                  exact h
                | 3, ho =>
                  obtain rfl := Option.some.inj ho
                  intro vs W K hB hD hK
                  have HK := Lib.hid hK
                  have e2 : vs 2 = .pointer (some ⟨ib, io + i, none⟩) := dep_of hD 2 (by rfl)
                  obtain ⟨q0, q1⟩ := HQ.out W hB
                  clear hK hD ho
                  dsimp only
                  go_simp
                  have h := HK.out _ _ (Below.refl _ _) rfl
                  simp only [upd, Nat.reduceEqDiff, reduceIte, e2] at h
                  exact h
                | 4, ho =>
                  obtain rfl := Option.some.inj ho
                  intro vs W K hB hD hK
                  have HK := Lib.hid hK
                  have e3 : vs 3 = .bool true := dep_of hD 3 (by rfl)
                  clear hK hD ho
                  dsimp only
                  go_simp
                  have h := HK.out _ _ (Below.refl _ _) rfl
                  simp only [upd, Nat.reduceEqDiff, reduceIte, e3] at h
                  exact h
                | 5, ho =>
                  obtain rfl := Option.some.inj ho
                  intro vs W K hB hD hK
                  have HK := Lib.hid hK
                  have e4 : vs 4 = .bool true := dep_of hD 4 (by rfl)
                  clear hK hD ho
                  dsimp only
                  go_simp
                  have h := HK.out _ _ (Below.refl _ _) rfl
                  simp only [upd, Nat.reduceEqDiff, reduceIte, e4] at h
                  exact h
                | 6, ho =>
                  obtain rfl := Option.some.inj ho
                  intro vs W K hB hD hK
                  have HK := Lib.hid hK
                  have e4 : vs 4 = .bool true := dep_of hD 4 (by rfl)
                  clear hK hD ho
                  dsimp only
                  go_simp
                  have h := HK.out _ _ (Below.refl _ _) rfl
                  simp only [upd, Nat.reduceEqDiff, reduceIte, e4] at h
                  exact h
                | 7, ho =>
                  obtain rfl := Option.some.inj ho
                  intro vs W K hB hD hK
                  have HK := Lib.hid hK
                  have e4 : vs 4 = .bool true := dep_of hD 4 (by rfl)
                  have e5 : vs 5 = .slice (some ⟨cb, 0, none⟩) N N := dep_of hD 5 (by rfl)
                  have e6 : vs 6 = .int .i64 (i : Int) := dep_of hD 6 (by rfl)
                  clear hK hD ho
                  dsimp only
                  go_simp
                  have h := HK.out _ _ (Below.refl _ _) rfl
                  simp only [upd, Nat.reduceEqDiff, reduceIte, e4, e5, e6] at h
                  exact h
                | 8, ho =>
                  obtain rfl := Option.some.inj ho
                  intro vs W K hB hD hK
                  have HK := Lib.hid hK
                  have e4 : vs 4 = .bool true := dep_of hD 4 (by rfl)
                  have e7 : vs 7 = .pointer (some ⟨cb, i, none⟩) := dep_of hD 7 (by rfl)
                  obtain ⟨q0, q1⟩ := HQ.out W hB
                  clear hK hD ho
                  dsimp only
                  go_simp
                  have h := HK.out _ _ (Below.refl _ _) rfl
                  simp only [upd, Nat.reduceEqDiff, reduceIte, e4, e7] at h
                  exact h
                | 9, ho =>
                  obtain rfl := Option.some.inj ho
                  intro vs W K hB hD hK
                  have HK := Lib.hid hK
                  have e4 : vs 4 = .bool true := dep_of hD 4 (by rfl)
                  clear hK hD ho
                  dsimp only
                  go_simp
                  have h := HK.out _ _ (Below.refl _ _) rfl
                  simp only [upd, Nat.reduceEqDiff, reduceIte, e4] at h
                  exact h
                | 10, ho =>
                  obtain rfl := Option.some.inj ho
                  intro vs W K hB hD hK
                  have HK := Lib.hid hK
                  have e4 : vs 4 = .bool true := dep_of hD 4 (by rfl)
                  have e9 : vs 9 = vl := dep_of hD 9 (by rfl)
                  clear hK hD ho
                  dsimp only
                  go_simp
                  refine (HIN.out W (HB1.out W hB)).mono ?_
                  rintro e W' ⟨rfl, hb⟩
                  have h := HK.out _ _ hb rfl
                  simp only [upd, Nat.reduceEqDiff, reduceIte, e4, e9] at h
                  exact h
                | 11, ho =>
                  obtain rfl := Option.some.inj ho
                  intro vs W K hB hD hK
                  have HK := Lib.hid hK
                  have e4 : vs 4 = .bool true := dep_of hD 4 (by rfl)
                  have e8 : vs 8 = .int .i64 (inputsI l) := dep_of hD 8 (by rfl)
                  have e10 : vs 10 = .int .i64 (inputsI l) := dep_of hD 10 (by rfl)
                  clear hK hD ho
                  dsimp only
                  go_simp
                  have h := HK.out _ _ (Below.refl _ _) rfl
                  simp only [upd, Nat.reduceEqDiff, reduceIte, e4, e8, e10] at h
                  exact h
                | 12, ho =>
                  obtain rfl := Option.some.inj ho
                  intro vs W K hB hD hK
                  have HK := Lib.hid hK
                  have e4 : vs 4 = .bool true := dep_of hD 4 (by rfl)
                  have e11 : vs 11 = .bool false := dep_of hD 11 (by rfl)
                  clear hK hD ho
                  dsimp only
                  go_simp
                  have h := HK.out _ _ (Below.refl _ _) rfl
                  simp only [upd, Nat.reduceEqDiff, reduceIte, e4, e11] at h
                  exact h
                | 13, ho =>
                  obtain rfl := Option.some.inj ho
                  intro vs W K hB hD hK
                  have HK := Lib.hid hK
                  have e12 : vs 12 = .bool false := dep_of hD 12 (by rfl)
                  clear hK hD ho
                  dsimp only
                  go_simp
                  have h := HK.out _ _ (Below.refl _ _) rfl
                  simp only [upd, Nat.reduceEqDiff, reduceIte, e12] at h
                  exact h
                | 14, ho =>
                  obtain rfl := Option.some.inj ho
                  intro vs W K hB hD hK
                  have HK := Lib.hid hK
                  have e13 : vs 13 = .bool false := dep_of hD 13 (by rfl)
                  clear hK hD ho
                  dsimp only
                  go_simp
                  have h := HK.out _ _ (Below.refl _ _) rfl
                  simp only [upd, Nat.reduceEqDiff, reduceIte, e13] at h
                  exact h
                | 15, ho =>
                  obtain rfl := Option.some.inj ho
                  intro vs W K hB hD hK
                  have HK := Lib.hid hK
                  have e13 : vs 13 = .bool false := dep_of hD 13 (by rfl)
                  clear hK hD ho
                  dsimp only
                  go_simp
                  have h := HK.out _ _ (Below.refl _ _) rfl
                  simp only [upd, Nat.reduceEqDiff, reduceIte, e13] at h
                  exact h
                | 16, ho =>
                  obtain rfl := Option.some.inj ho
                  intro vs W K hB hD hK
                  have HK := Lib.hid hK
                  have e13 : vs 13 = .bool false := dep_of hD 13 (by rfl)
                  have e14 : vs 14 = .slice (some ⟨ib, io, none⟩) N ci := dep_of hD 14 (by rfl)
                  have e15 : vs 15 = .int .i64 (i : Int) := dep_of hD 15 (by rfl)
                  clear hK hD ho
                  dsimp only
                  go_simp
                  have h := HK.out _ _ (Below.refl _ _) rfl
                  simp only [upd, Nat.reduceEqDiff, reduceIte, e13, e14, e15] at h
                  exact h
                | 17, ho =>
                  obtain rfl := Option.some.inj ho
                  intro vs W K hB hD hK
                  have HK := Lib.hid hK
                  have e13 : vs 13 = .bool false := dep_of hD 13 (by rfl)
                  have e16 : vs 16 = .pointer (some ⟨ib, io + i, none⟩) := dep_of hD 16 (by rfl)
                  obtain ⟨q0, q1⟩ := HQ.out W hB
                  clear hK hD ho
                  dsimp only
                  go_simp
                  have h := HK.out _ _ (Below.refl _ _) rfl
                  simp only [upd, Nat.reduceEqDiff, reduceIte, e13, e16] at h
                  exact h
                | 18, ho =>
                  obtain rfl := Option.some.inj ho
                  intro vs W K hB hD hK
                  have HK := Lib.hid hK
                  have e13 : vs 13 = .bool false := dep_of hD 13 (by rfl)
                  have e17 : vs 17 = .bool true := dep_of hD 17 (by rfl)
                  clear hK hD ho
                  dsimp only
                  go_simp
                  have h := HK.out _ _ (Below.refl _ _) rfl
                  simp only [upd, Nat.reduceEqDiff, reduceIte, e13, e17] at h
                  exact h
                | 19, ho =>
                  obtain rfl := Option.some.inj ho
                  intro vs W K hB hD hK
                  have HK := Lib.hid hK
                  have e13 : vs 13 = .bool false := dep_of hD 13 (by rfl)
                  have e18 : vs 18 = .bool false := dep_of hD 18 (by rfl)
                  clear hK hD ho
                  dsimp only
                  go_simp
                  have h := HK.out _ _ (Below.refl _ _) rfl
                  simp only [upd, Nat.reduceEqDiff, reduceIte, e13, e18] at h
                  exact h
                | 20, ho =>
                  obtain rfl := Option.some.inj ho
                  intro vs W K hB hD hK
                  have HK := Lib.hid hK
                  have e19 : vs 19 = .bool false := dep_of hD 19 (by rfl)
                  clear hK hD ho
                  dsimp only
                  go_simp
                  have h := HK.out _ _ (Below.refl _ _) rfl
                  simp only [upd, Nat.reduceEqDiff, reduceIte, e19] at h
                  exact h
                | 21, ho =>
                  obtain rfl := Option.some.inj ho
                  intro vs W K hB hD hK
                  have HK := Lib.hid hK
                  have e19 : vs 19 = .bool false := dep_of hD 19 (by rfl)
                  clear hK hD ho
                  dsimp only
                  go_simp
                  have h := HK.out _ _ (Below.refl _ _) rfl
                  simp only [upd, Nat.reduceEqDiff, reduceIte, e19] at h
                  exact h
                | 22, ho =>
                  obtain rfl := Option.some.inj ho
                  intro vs W K hB hD hK
                  have HK := Lib.hid hK
                  have e19 : vs 19 = .bool false := dep_of hD 19 (by rfl)
                  clear hK hD ho
                  dsimp only
                  go_simp
                  have h := HK.out _ _ (Below.refl _ _) rfl
                  simp only [upd, Nat.reduceEqDiff, reduceIte, e19] at h
                  exact h
                | 23, ho =>
                  obtain rfl := Option.some.inj ho
                  intro vs W K hB hD hK
                  have HK := Lib.hid hK
                  have e19 : vs 19 = .bool false := dep_of hD 19 (by rfl)
                  clear hK hD ho
                  dsimp only
                  go_simp
                  have h := HK.out _ _ (Below.refl _ _) rfl
                  simp only [upd, Nat.reduceEqDiff, reduceIte, e19] at h
                  exact h
                | 24, ho =>
                  obtain rfl := Option.some.inj ho
                  intro vs W K hB hD hK
                  have HK := Lib.hid hK
                  have e19 : vs 19 = .bool false := dep_of hD 19 (by rfl)
                  clear hK hD ho
                  dsimp only
                  go_simp
                  have h := HK.out _ _ (Below.refl _ _) rfl
                  simp only [upd, Nat.reduceEqDiff, reduceIte, e19] at h
                  exact h
                | 25, ho =>
                  obtain rfl := Option.some.inj ho
                  intro vs W K hB hD hK
                  have HK := Lib.hid hK
                  have e13 : vs 13 = .bool false := dep_of hD 13 (by rfl)
                  have e19 : vs 19 = .bool false := dep_of hD 19 (by rfl)
                  clear hK hD ho
                  dsimp only
                  go_simp
                  have h := HK.out _ _ (Below.refl _ _) rfl
                  simp only [upd, Nat.reduceEqDiff, reduceIte, e13, e19] at h
                  exact h
                | 26, ho =>
                  obtain rfl := Option.some.inj ho
                  intro vs W K hB hD hK
                  have HK := Lib.hid hK
                  have e13 : vs 13 = .bool false := dep_of hD 13 (by rfl)
                  have e25 : vs 25 = .bool false := dep_of hD 25 (by rfl)
                  clear hK hD ho
                  dsimp only
                  go_simp
                  have h := HK.out _ _ (Below.refl _ _) rfl
                  simp only [upd, Nat.reduceEqDiff, reduceIte, e13, e25] at h
                  exact h
                | q + 27, ho => exact absurd ho (by simp)
              case fin =>
                intro vs W hB hall
                have e26 : vs 26 = .bool false := hall 26 (by decide)
                have HB5 := Lib.hid (HB1.out W hB)
                clear hall hB
                rw [e26]
                clear e26
                generalize vs 0 = q0
                generalize vs 1 = q1
                generalize vs 2 = q2
                generalize vs 3 = q3
                generalize vs 4 = q4
                generalize vs 5 = q5
                generalize vs 6 = q6
                generalize vs 7 = q7
                generalize vs 8 = q8
                generalize vs 9 = q9
                generalize vs 10 = q10
                generalize vs 11 = q11
                generalize vs 12 = q12
                generalize vs 13 = q13
                generalize vs 14 = q14
                generalize vs 15 = q15
                generalize vs 16 = q16
                generalize vs 17 = q17
                generalize vs 18 = q18
                generalize vs 19 = q19
                generalize vs 20 = q20
                generalize vs 21 = q21
                generalize vs 22 = q22
                generalize vs 23 = q23
                generalize vs 24 = q24
                generalize vs 25 = q25
                clear vs
                go_wp2
                go_roundg (N - (i + 1))
                case measure => have := HGI.out; omega
                case rel => exact ⟨i + 1, rfl, by go_num, by omega, HB5.out⟩
            · rw [h1] at q0
              rw [h2] at q1
              clear h1 h2
              have HB := Lib.hid hB
              clear hB
              have h00 : ((0 : Int) != 0) = false := rfl
              go_wp2
              refine wp_region_quiet_lit (by kernel_rfl) (by kernel_rfl) ?_
              ((repeat (go_big_quiet_step (fail))); refine wpQuiet_nil ?_; rintro _ ⟨nq, rfl⟩)
              have HB5 := Lib.hid (HB.out.trans (below_draws _ _ nq))
              generalize wr.drewN nq = w9 at *
              go_wp2
              go_roundg (N - (i + 1))
              case measure => have := HGI.out; omega
              case rel => exact ⟨i + 1, rfl, by go_num, by omega, HB5.out⟩
          case neg => as_aux_lemma =>
            obtain rfl : N = i := by omega
            have hl := hl'.out
            have ha := ha'.out
            have hK := hK'.out
            have hG := hG'.out
            have hP := hP'.out
            have hx := hx'.out
            have y8 := y8'.out
            have hb := hb'.out
            replace hx := (hB.block _ (Array.getElem?_eq_some_iff.1 hx).1).trans hx
            replace y8 := (hB.block _ (Array.getElem?_eq_some_iff.1 y8).1).trans y8
            replace hl := hl.below hB
            replace ha := ha.below hB
            replace hK := hK.below hB
            replace hG := hG.below hB
            replace hP := hP.below hB
            replace hb := hb.trans (hB.mono hb.size)
            clear hl' ha' hK' hG' hP' hx' y8' hb' hlt hi HGI hB HIC2 HCC HCT HIN0
            have hR3 := HRL.out.1
            have hR1 := HRL.out.2
            have hw1 : IntKind.i64.wrap n = n := IntWalk.i64_in _ ⟨by omega, by omega⟩
            have hw2 : IntKind.i64.wrap ((R : Int) + n) = (R : Int) + n := IntWalk.i64_in _ ⟨by omega, by omega⟩
            have hw3 : IntKind.i64.wrap ((R : Int) - 1) = (R : Int) - 1 := IntWalk.i64_in _ ⟨by omega, by omega⟩
            have c0 := cell_of_row _ _ 0 _ _ _ hx
            have c1 := cell_of_row _ _ 1 _ _ _ hx
            have c2 := cell_of_row _ _ 2 _ _ _ hx
            have c3 := cell_of_row _ _ 3 _ _ _ hx
            go_wp2_with fail
            all_goals
              refine (Build_c _ _ _ l a _ hK hl ha).mono ?_
              rw [HE2.out _ (by omega) (by omega) (by omega)]
              rintro e w20 ⟨vh, vp2, rfl, hH, hP2, hb3⟩
              obtain ⟨h0, u0, x0, h1, u1, x1, h2, u2, x2, rfl⟩ := hH.shape
              replace hx := (hb3.block _ (Array.getElem?_eq_some_iff.1 hx).1).trans hx
              replace y8 := (hb3.block _ (Array.getElem?_eq_some_iff.1 y8).1).trans y8
              replace hl := hl.below hb3
              replace ha := ha.below hb3
              replace hK := hK.below hb3
              replace hG := hG.below hb3
              replace hP := hP.below hb3
              replace hb := hb.trans (hb3.mono hb.size)
              clear c0 c1 c2 c3 hb3
              go_upto_region 23 with (fail)
              obtain ⟨y16, hb3, -⟩ := box_new hb hb.size #[.slice h0 u0 x0, .slice h1 u1 x1, .slice h2 u2 x2] 28
              replace hx := (hb3.block _ (Array.getElem?_eq_some_iff.1 hx).1).trans hx
              replace y8 := (hb3.block _ (Array.getElem?_eq_some_iff.1 y8).1).trans y8
              replace hl := hl.below hb3
              replace ha := ha.below hb3
              replace hK := hK.below hb3
              replace hG := hG.below hb3
              replace hP := hP.below hb3
              replace hH := hH.below hb3
              replace hP2 := hP2.below hb3
              replace hb := hb.trans (hb3.mono hb.size)
              clear hb3
              generalize w20.alloc (.cells #[.slice h0 u0 x0, .slice h1 u1 x1, .slice h2 u2 x2] 28) = w21 at *
              generalize w20.heap.size = z16 at *
              have c0 := cell_of_row _ _ 0 _ _ _ hx
              have c1 := cell_of_row _ _ 1 _ _ _ hx
              have c2 := cell_of_row _ _ 2 _ _ _ hx
              have c3 := cell_of_row _ _ 3 _ _ _ hx
              go_wp2_with fail
              refine (Build_c _ _ _ l a ((R : Int) - 1) hK hl ha).mono ?_
              rw [HE3.out]
              rintro e w22 ⟨vk, vp3, rfl, hKg, -, hb3⟩
              obtain ⟨i0, v0, y0, i1, v1, y1, i2, v2, y2, rfl⟩ := hKg.shape
              replace y8 := (hb3.block _ (Array.getElem?_eq_some_iff.1 y8).1).trans y8
              replace y16 := (hb3.block _ (Array.getElem?_eq_some_iff.1 y16).1).trans y16
              replace hG := hG.below hb3
              replace hP := hP.below hb3
              replace hH := hH.below hb3
              replace hP2 := hP2.below hb3
              replace hb := hb.trans (hb3.mono hb.size)
              clear c0 c1 c2 c3 hb3 hx hl ha hK
              go_upto_region 24 with (fail)
              obtain ⟨-, hb3, -⟩ := box_new hb hb.size #[.slice i0 v0 y0, .slice i1 v1 y1, .slice i2 v2 y2] 28
              replace y8 := (hb3.block _ (Array.getElem?_eq_some_iff.1 y8).1).trans y8
              replace y16 := (hb3.block _ (Array.getElem?_eq_some_iff.1 y16).1).trans y16
              replace hG := hG.below hb3
              replace hP := hP.below hb3
              replace hH := hH.below hb3
              replace hP2 := hP2.below hb3
              replace hb := hb.trans (hb3.mono hb.size)
              clear hb3
              generalize w22.alloc (.cells #[.slice i0 v0 y0, .slice i1 v1 y1, .slice i2 v2 y2] 28) = w23 at *
              generalize w22.heap.size = z19 at *
              have d0 := cell_of_row _ _ 0 _ _ _ y8
              have d1 := cell_of_row _ _ 1 _ _ _ y8
              have d2 := cell_of_row _ _ 2 _ _ _ y8
              have f0 := cell_of_row _ _ 0 _ _ _ y16
              have f1 := cell_of_row _ _ 1 _ _ _ y16
              have f2 := cell_of_row _ _ 2 _ _ _ y16
              go_wp2_with fail
              refine (Same_c _ _ _ gm gm hG hH).mono ?_
              rw [decide_eq_true (rfl : gm = gm)]
              rintro e w24 ⟨rfl, hb3⟩
              replace hP := hP.below hb3
              replace hP2 := hP2.below hb3
              replace hb := hb.trans (hb3.mono hb.size)
              clear hb3 d0 d1 d2 f0 f1 f2 y8 y16 hG hH
              go_wp2_with fail
              refine (SamePl_c _ _ _ r r hP hP2).mono ?_
              rw [decide_eq_true (rfl : r = r)]
              rintro e w25 ⟨rfl, hb3⟩
              replace hb := hb.trans (hb3.mono hb.size)
              clear hb3 hP hP2
              go_wp2_with fail
              go_ret
              exact HE.out _ hb

end Go.Proofs.YtjadeffdcbchnaaDoor
