/- The law RankStrategies: its walk. -/
import Derived.Test.YtijkjhcigdfdgaaQRkA12
namespace Go.Proofs.Ytijkjhcigdfdgaa
open Go.RowKit
def RSf (bS oS cS n0 k ZB _zg _b0 _o0 _c0 _b2 _o2 _c2 _rl _cR : Nat) (_aR : Option Addr) (_p sv _ow : Int) (ix : Nat) (u : Value) (_ : World) : Prop :=
  match ix with
  | 0 => u = .slice (some ⟨bS, oS, none⟩) n0 cS
  | 1 => u = .int .i64 (k : Int)
  | 2 => u = .pointer (some ⟨bS, oS + k, none⟩)
  | 3 => u = .int .i64 sv
  | 4 => u = .bool false
  | 5 => u = .slice (some ⟨ZB, 0, none⟩) n0 n0
  | 6 => u = .int .i64 (k : Int)
  | 7 => u = .pointer (some ⟨ZB, k, none⟩)
  | 8 => u = .bool false
  | 9 => u = .bool false
  | 10 => u = undef
  | 11 => u = undef
  | 12 => u = undef
  | 13 => u = undef
  | 14 => u = undef
  | 15 => u = undef
  | 16 => u = undef
  | 17 => u = .bool false
  | 18 => u = .bool false
  | 19 => u = .bool false
  | 20 => u = .slice (some ⟨bS, oS, none⟩) n0 cS
  | 21 => u = .int .i64 (k : Int)
  | 22 => u = .pointer (some ⟨bS, oS + k, none⟩)
  | 23 => u = .int .i64 sv
  | 24 => u = .slice (some ⟨bS, oS, none⟩) n0 cS
  | 25 => u = .int .i64 (n0 : Int)
  | 26 => u = .bool false
  | 27 => u = .bool false
  | 28 => u = .bool false
  | 29 => u = .slice (some ⟨bS, oS, none⟩) n0 cS
  | 30 => u = .int .i64 (k : Int)
  | 31 => u = .pointer (some ⟨bS, oS + k, none⟩)
  | 32 => u = .int .i64 sv
  | 33 => u = .bool false
  | 34 => u = .bool false
  | 35 => u = undef
  | 36 => u = undef
  | 37 => u = undef
  | 38 => u = undef
  | 39 => u = undef
  | 40 => u = undef
  | 41 => u = undef
  | 42 => u = undef
  | 43 => u = undef
  | 44 => u = undef
  | 45 => u = undef
  | 46 => u = .bool false
  | 47 => u = .bool false
  | _ => True
theorem RSf.below {ix : Nat} {u : Value} {W W' : World} {bS oS cS n0 k ZB zg b0 o0 c0 b2 o2 c2 rl cR : Nat} {aR : Option Addr} {p sv ow : Int} (h : RSf bS oS cS n0 k ZB zg b0 o0 c0 b2 o2 c2 rl cR aR p sv ow ix u W) (_ : Below W.heap.size W W') : RSf bS oS cS n0 k ZB zg b0 o0 c0 b2 o2 c2 rl cR aR p sv ow ix u W' := by
  unfold RSf at *
  split at h <;> first | exact h | trivial
def RSn (bS oS cS n0 k ZB zg b0 o0 c0 _b2 _o2 _c2 _rl _cR : Nat) (_aR : Option Addr) (p sv ow : Int) (ix : Nat) (u : Value) (_ : World) : Prop :=
  match ix with
  | 0 => u = .slice (some ⟨bS, oS, none⟩) n0 cS
  | 1 => u = .int .i64 (k : Int)
  | 2 => u = .pointer (some ⟨bS, oS + k, none⟩)
  | 3 => u = .int .i64 sv
  | 4 => u = .bool false
  | 5 => u = .slice (some ⟨ZB, 0, none⟩) n0 n0
  | 6 => u = .int .i64 (k : Int)
  | 7 => u = .pointer (some ⟨ZB, k, none⟩)
  | 8 => u = .bool true
  | 9 => u = .bool true
  | 10 => u = .pointer (some ⟨zg, 0, none⟩)
  | 11 => u = .slice (some ⟨b0, o0, none⟩) n0 c0
  | 12 => u = .int .i64 (k : Int)
  | 13 => u = .pointer (some ⟨b0, o0 + k, none⟩)
  | 14 => u = .int .i64 ow
  | 15 => u = .int .i64 p
  | 16 => u = .bool false
  | 17 => u = .bool false
  | 18 => u = .bool false
  | 19 => u = .bool false
  | 20 => u = .slice (some ⟨bS, oS, none⟩) n0 cS
  | 21 => u = .int .i64 (k : Int)
  | 22 => u = .pointer (some ⟨bS, oS + k, none⟩)
  | 23 => u = .int .i64 sv
  | 24 => u = .slice (some ⟨bS, oS, none⟩) n0 cS
  | 25 => u = .int .i64 (n0 : Int)
  | 26 => u = .bool false
  | 27 => u = .bool false
  | 28 => u = .bool false
  | 29 => u = .slice (some ⟨bS, oS, none⟩) n0 cS
  | 30 => u = .int .i64 (k : Int)
  | 31 => u = .pointer (some ⟨bS, oS + k, none⟩)
  | 32 => u = .int .i64 sv
  | 33 => u = .bool false
  | 34 => u = .bool false
  | 35 => u = undef
  | 36 => u = undef
  | 37 => u = undef
  | 38 => u = undef
  | 39 => u = undef
  | 40 => u = undef
  | 41 => u = undef
  | 42 => u = undef
  | 43 => u = undef
  | 44 => u = undef
  | 45 => u = undef
  | 46 => u = .bool false
  | 47 => u = .bool false
  | _ => True
theorem RSn.below {ix : Nat} {u : Value} {W W' : World} {bS oS cS n0 k ZB zg b0 o0 c0 b2 o2 c2 rl cR : Nat} {aR : Option Addr} {p sv ow : Int} (h : RSn bS oS cS n0 k ZB zg b0 o0 c0 b2 o2 c2 rl cR aR p sv ow ix u W) (_ : Below W.heap.size W W') : RSn bS oS cS n0 k ZB zg b0 o0 c0 b2 o2 c2 rl cR aR p sv ow ix u W' := by
  unfold RSn at *
  split at h <;> first | exact h | trivial
def RSp (bS oS cS n0 k ZB zg b0 o0 c0 b2 o2 c2 rl cR : Nat) (aR : Option Addr) (p sv ow : Int) (ix : Nat) (u : Value) (_ : World) : Prop :=
  match ix with
  | 0 => u = .slice (some ⟨bS, oS, none⟩) n0 cS
  | 1 => u = .int .i64 (k : Int)
  | 2 => u = .pointer (some ⟨bS, oS + k, none⟩)
  | 3 => u = .int .i64 sv
  | 4 => u = .bool true
  | 5 => u = .slice (some ⟨ZB, 0, none⟩) n0 n0
  | 6 => u = .int .i64 (k : Int)
  | 7 => u = .pointer (some ⟨ZB, k, none⟩)
  | 8 => u = .bool true
  | 9 => u = .bool true
  | 10 => u = .pointer (some ⟨zg, 0, none⟩)
  | 11 => u = .slice (some ⟨b0, o0, none⟩) n0 c0
  | 12 => u = .int .i64 (k : Int)
  | 13 => u = .pointer (some ⟨b0, o0 + k, none⟩)
  | 14 => u = .int .i64 ow
  | 15 => u = .int .i64 p
  | 16 => u = .bool true
  | 17 => u = .bool true
  | 18 => u = .bool false
  | 19 => u = .bool false
  | 20 => u = .slice (some ⟨bS, oS, none⟩) n0 cS
  | 21 => u = .int .i64 (k : Int)
  | 22 => u = .pointer (some ⟨bS, oS + k, none⟩)
  | 23 => u = .int .i64 sv
  | 24 => u = .slice (some ⟨bS, oS, none⟩) n0 cS
  | 25 => u = .int .i64 (n0 : Int)
  | 26 => u = .bool false
  | 27 => u = .bool false
  | 28 => u = .bool false
  | 29 => u = .slice (some ⟨bS, oS, none⟩) n0 cS
  | 30 => u = .int .i64 (k : Int)
  | 31 => u = .pointer (some ⟨bS, oS + k, none⟩)
  | 32 => u = .int .i64 sv
  | 33 => u = .bool true
  | 34 => u = .bool true
  | 35 => u = .pointer (some ⟨zg, 2, none⟩)
  | 36 => u = .slice (some ⟨b2, o2, none⟩) n0 c2
  | 37 => u = .int .i64 (k : Int)
  | 38 => u = .pointer (some ⟨b2, o2 + k, none⟩)
  | 39 => u = .slice aR rl cR
  | 40 => u = .slice (some ⟨bS, oS, none⟩) n0 cS
  | 41 => u = .int .i64 (k : Int)
  | 42 => u = .pointer (some ⟨bS, oS + k, none⟩)
  | 43 => u = .int .i64 sv
  | 44 => u = .bool true
  | 45 => u = .bool false
  | 46 => u = .bool false
  | 47 => u = .bool false
  | _ => True
theorem RSp.below {ix : Nat} {u : Value} {W W' : World} {bS oS cS n0 k ZB zg b0 o0 c0 b2 o2 c2 rl cR : Nat} {aR : Option Addr} {p sv ow : Int} (h : RSp bS oS cS n0 k ZB zg b0 o0 c0 b2 o2 c2 rl cR aR p sv ow ix u W) (_ : Below W.heap.size W W') : RSp bS oS cS n0 k ZB zg b0 o0 c0 b2 o2 c2 rl cR aR p sv ow ix u W' := by
  unfold RSp at *
  split at h <;> first | exact h | trivial

set_option maxRecDepth 100000 in
set_option maxHeartbeats 8000000 in
theorem Strat_walk (w : World) (vg vm : Value) (g : Gm) (x : Int) (m : List (List Int)) (hg : IsGame w vg g) (hx8 : 0 ≤ x ∧ x ≤ 255) (hm : IsRows w vm m) : Calls Try.prog 6 #[vg, .int .u8 x, vm] w (Calm (.bool true) w) := by
  have hmx : Try.prog.follows .mixedOrders = true := by kernel_rfl
  obtain ⟨hx0, hx1⟩ := hx8
  have HPP : Hid (x % 2 = 0 ∨ x % 2 = 1) := by show _ ∨ _; omega
  obtain ⟨am, cm, rfl⟩ : ∃ a c, vm = .slice a m.length c := by
    obtain ⟨a, c, b, o, V, rfl, -⟩ := hm.data
    exact ⟨a, c, rfl⟩
  generalize hlm : m.length = lm at *
  have HLM := Lib.hid hlm
  clear hlm
  obtain ⟨a0, c0, a1, c1, a2, c2, rfl⟩ := hg.shape
  generalize hn0 : g.owner.length = n0 at *
  generalize hn1 : g.prio.length = n1 at *
  generalize hn2 : g.succ.length = n2 at *
  have HN0 := Lib.hid hn0
  have HN1 := Lib.hid hn1
  have HN2 := Lib.hid hn2
  clear hn0 hn1 hn2
  go_enter Try.func6, Try.ntmps6
  go_upto_region 1 with (fail)
  obtain ⟨hx, hb, hB⟩ := box_new (w0 := w) (Below.refl _ _) (Nat.le_refl _) #[.slice a0 n0 c0, .slice a1 n1 c1, .slice a2 n2 c2] 25
  replace hg := hg.below hb
  replace hm := hm.below hb
  generalize w.alloc (.cells #[.slice a0 n0 c0, .slice a1 n1 c1, .slice a2 n2 c2] 25) = w1 at *
  clear hb
  go_wp2_with fail
  refine (head_c _).mono ?_
  rintro e w2 ⟨rfl, hb⟩
  replace hx := (hb.block _ (Array.getElem?_eq_some_iff.1 hx).1).trans hx
  replace hg := hg.below hb
  replace hm := hm.below hb
  replace hB := hB.trans (hb.mono hB.size)
  clear hb 
  have k0 := cell_of_row _ _ 0 _ _ _ hx
  have k1 := cell_of_row _ _ 1 _ _ _ hx
  have k2 := cell_of_row _ _ 2 _ _ _ hx
  go_wp2_with fail
  refine (fine_c _ _ g hg).mono ?_
  rintro e w3 ⟨rfl, hb⟩
  replace hx := (hb.block _ (Array.getElem?_eq_some_iff.1 hx).1).trans hx
  replace hg := hg.below hb
  replace hm := hm.below hb
  replace hB := hB.trans (hb.mono hB.size)
  clear hb k0 k1 k2
  cases hf : fineB g with
  | false =>
    clear hf
    go_wp2_with fail
    go_ret
    exact ⟨rfl, hB⟩
  | true =>
  have HF := Lib.hid (fine_h hf)
  clear hf
  by_cases h20 : (20 : Int) < (lm : Int)
  · go_wp2_with fail
    go_ret
    exact ⟨rfl, hB⟩
  go_upto_region 5 with (fail)
  obtain ⟨p, hp⟩ : ∃ p, p = x % 2 := ⟨_, rfl⟩
  rw [← hp] at HPP ⊢
  clear hp hx0 hx1 h20
  have k0 := cell_of_row _ _ 0 _ _ _ hx
  have k1 := cell_of_row _ _ 1 _ _ _ hx
  have k2 := cell_of_row _ _ 2 _ _ _ hx
  go_wp2_with fail
  refine (Valid_c _ _ _ g p m hg hm HF.out.look).mono ?_
  rintro e w4 ⟨rfl, hb⟩
  replace hx := (hb.block _ (Array.getElem?_eq_some_iff.1 hx).1).trans hx
  replace hg := hg.below hb
  replace hm := hm.below hb
  replace hB := hB.trans (hb.mono hB.size)
  clear hb k0 k1 k2
  go_upto_if 34 with (fail)
  go_cut [2] (fun v wx => ∃ (M : List (List Int)) (aM : Option Addr) (cM : Nat), v = .slice aM n0 cM ∧ IsRows wx (.slice aM n0 cM) M ∧ Hid (validV g p M = true) ∧ Below w4.heap.size w4 wx)
  case first =>
    cases hvm : validV g p m with
    | true =>
      go_wp2
      go_meet
      case rel =>
        have hl := (HF.out.less HPP.out hvm).1
        rw [HLM.out, HN0.out] at hl
        subst hl
        exact ⟨m, _, _, rfl, hm, hvm, Below.refl _ _⟩
    | false =>
      have k0 := cell_of_row _ _ 0 _ _ _ hx
      have k1 := cell_of_row _ _ 1 _ _ _ hx
      have k2 := cell_of_row _ _ 2 _ _ _ hx
      go_wp2_with fail
      refine (Measure_c _ _ g p hg HF.out.look fun h e hw => top_work e hw).mono ?_
      intro e wq h
      obtain ⟨a3, c3, rfl, hm0, hb⟩ : ∃ a c, e = .returned (.tuple #[.slice a n0 c, .int .i64 0]) ∧ IsRows wq (.slice a n0 c) (lstG g p) ∧ Below w4.heap.size w4 wq := by have := h.ex (HF.out.meas HPP.out); rw [lst_len, HN0.out] at this; exact this
      clear h
      go_wp2_with fail
      go_meet
      case rel => exact ⟨lstG g p, _, _, rfl, hm0, HF.out.valid HPP.out, hb⟩
  case rest =>
    obtain ⟨M, aM, cM, rfl, hM, HVM, hb⟩ := hcut
    replace hx := (hb.block _ (Array.getElem?_eq_some_iff.1 hx).1).trans hx
    replace hg := hg.below hb
    replace hB := hB.trans (hb.mono hB.size)
    clear hb hm
    have HCH := Lib.hid (HF.out.cho HPP.out HVM.out)
    have k0 := cell_of_row _ _ 0 _ _ _ hx
    have k1 := cell_of_row _ _ 1 _ _ _ hx
    have k2 := cell_of_row _ _ 2 _ _ _ hx
    go_wp2_with fail
    refine (Choose_c _ _ _ g p M hg hM HF.out.look).mono ?_
    intro e w8 h
    obtain ⟨aS, cS, rfl, hs, hb⟩ : ∃ a c, e = .returned (.slice a n0 c) ∧ IsInts w8 (.slice a n0 c) (choG g p M) ∧ Below wc.heap.size wc w8 := by
      have := h.ex rfl (cho_fit g p M).1 (cho_fit g p M).2
      rw [HCH.out.2.1, HN0.out] at this
      exact this
    clear h k0 k1 k2
    replace hx := (hb.block _ (Array.getElem?_eq_some_iff.1 hx).1).trans hx
    replace hg := hg.below hb
    replace hM := hM.below hb
    replace hB := hB.trans (hb.mono hB.size)
    clear hb
    have k0 := cell_of_row _ _ 0 _ _ _ hx
    have k1 := cell_of_row _ _ 1 _ _ _ hx
    have k2 := cell_of_row _ _ 2 _ _ _ hx
    have hn12 : n0 ≤ 12 := by rw [← HN0.out]; exact HF.out.n
    go_upto_region 11 with (fail)
    clear k0 k1 k2
    have HBB := Lib.hid hB
    have HGG := Lib.hid hg
    have HXX := Lib.hid hx
    have HMM := Lib.hid hM
    have HSS := Lib.hid hs
    clear hB hg hx hM hs
    go_upto_region 12 with (at_make; refine mk_bool rfl _ _ _ Try.underlying39 rfl w8.heap.size (n0 : Int) n0 rfl rfl rfl (by omega) (Nat.le_refl _) ?_; intro wm hown hgr)
    have hbm : Below w8.heap.size w8 wm := (Below.refl _ _).grown hgr (Nat.le_refl _) (fun k hk => by cases hk)
    obtain ⟨ZB, hZB⟩ : ∃ z, z = w8.heap.size := ⟨_, rfl⟩
    rw [← hZB] at hown hbm ⊢
    have HZB := Lib.hid hZB
    clear hgr hZB
    obtain ⟨hv1, hv2⟩ : n1 = n0 ∧ n2 = n0 := by have := valid_lens HF.out.v; rw [HN0.out, HN1.out, HN2.out] at this; exact this.2
    subst hv1
    subst hv2
    generalize hnz : n2 = n0 at *
    clear hnz
    obtain ⟨i0, i1, i2⟩ := HGG.out.three
    obtain ⟨bM, oM, dM, nM, fM⟩ := HMM.out.dat2
    obtain ⟨bS, oS, dS, nS, fS⟩ := HSS.out.data
    obtain ⟨b0, o0, d0, m0, f0⟩ := i0.data
    obtain ⟨b2, o2, d2, m2, f2⟩ := i2.dat2
    have HFM := Lib.hid fM
    have HFS := Lib.hid fS
    have HF0 := Lib.hid f0
    have HF2 := Lib.hid f2
    clear fM fS f0 f2 i0 i1 i2
    go_wp2_with fail
    go_loopg [13] n0 (fun gh i wr => ∃ (k : Nat) (L : List Bool), gh = n0 - k ∧ i = .int .i64 (k : Int) ∧ k ≤ n0 ∧ Hid (L.length = n0) ∧ Hid (∀ j, j < k → L.getD j false = !decide (M.getD j [] = [])) ∧ Hid (OB wr ZB (.slice (some ⟨ZB, 0, none⟩) n0 n0) L) ∧ Hid (Below ZB w8 wr))
    case atStart => exact ⟨0, _, rfl, rfl, by omega, by show _ = _; simp, fun j hj => absurd hj (by omega), hown, hbm⟩
    case round =>
      obtain ⟨k, L, hgk, rfl, hk, HL, HLS, HO, HBx⟩ := hrel
      have HGK := Lib.hid hgk
      clear hgk hown hbm
      by_cases hlt : k < n0
      · obtain rfl := dM (by omega)
        obtain rfl := dS (by omega)
        obtain rfl := d0 (by omega)
        obtain rfl := d2 (by omega)
        have i1 : (k : Int) < (n0 : Int) := by omega
        have hi0 : (0 : Int) ≤ (k : Int) := by omega
        have hbx : Below w8.heap.size w8 wr := by have := HBx.out; rwa [HZB.out] at this
        obtain ⟨a1', e1, cM, -⟩ := HFM.out k hlt
        replace cM := cellB hbx cM
        have e2 := HO.out.at' HL.out.symm k (by rw [HL.out]; exact hlt)
        have f2 := HO.out.fz HL.out.symm k
        have HCK := Lib.hid (HCH.out.2.2 k (by rw [HN0.out]; exact hlt))
        have HNX : Hid (∀ b : Bool, (!decide (M.getD k [] = [])) = b → (L.set k b).length = n0 ∧ ∀ j, j < k + 1 → (L.set k b).getD j false = !decide (M.getD j [] = [])) := fun b hb => by
          refine ⟨by rw [List.length_set]; exact HL.out, fun j hj => ?_⟩
          by_cases hjk : j = k
          · subst hjk
            rw [hb]
            have : j < L.length := by rw [HL.out]; exact hlt
            simp [List.getD, this]
          · have := HLS.out j (by omega)
            rw [← this]
            simp [List.getD, List.getElem?_set_ne (Ne.symm hjk)]
        have HBX := Lib.hid hbx
        clear hbx
        by_cases hmt : M.getD k [] = []
        · have tA : (((M.getD k []).length : Int) == 0) = true := by rw [hmt]; rfl
          have HN2 := Lib.hid (HNX.out false (by rw [decide_eq_true hmt]; rfl))
          have HSV : Hid ((choG g p M).getD k 0 = -1) := HCK.out.1 fun h => h.2 hmt
          have HO2 := Lib.hid (HO.out.set HL.out.symm k false)
          have HB2 : Hid (Below ZB w8 (wr.setCell ⟨ZB, k, none⟩ (.bool false))) := by
            show Below _ _ _
            have := HBX.out
            rw [HZB.out]
            exact below_set this (Nat.le_refl _)
          clear HNX HO HBx HLS HBX
          generalize (M.getD k []).length = y at *
          have HTA : Hid (∀ W a e, Calls Try.prog 24 #[.slice a y e] W (fun r w' => r = .returned (.bool true) ∧ W = w')) := fun W a e => Top_c W a y e _ tA
          clear tA
          go_upto_region 16 with (go_at_call 24; refine (HTA.out _ _ _).mono ?_; rintro e w' ⟨rfl, rfl⟩)
          clear e2 f2 cM HTA
          have e2 : (wr.setCell ⟨ZB, k, none⟩ (.bool false)).cell? ⟨ZB, k, none⟩ = some (.bool false) := by
            have := HO2.out.at' HN2.out.1.symm k (by rw [HN2.out.1]; exact hlt)
            simpa using this
          generalize wr.setCell ⟨ZB, k, none⟩ (.bool false) = wx at *
          have HBY : Hid (Below w8.heap.size w8 wx) := by
            show Below _ _ _
            have := HB2.out
            rwa [HZB.out] at this
          have HBD : Hid (∀ W, Below wx.drew.heap.size wx.drew W → Below wx.heap.size wx W) := fun W h => (Below.drew (B := wx.heap.size) (Below.refl _ _)).trans h
          obtain ⟨aR, cR, c5, hrow⟩ := HF2.out k hlt
          have c1 := cell_of_row _ _ 0 _ _ _ HXX.out
          have c3 := cell_of_row _ _ 2 _ _ _ HXX.out
          have c0' := HFS.out k hlt
          have c4 := HF0.out k hlt
          replace c0' := cellB HBY.out c0'
          replace c1 := cellB HBY.out c1
          replace c3 := cellB HBY.out c3
          replace c4 := cellB HBY.out c4
          replace c5 := cellB HBY.out c5
          have hsv := HSV.out
          rw [hsv] at c0'
          clear hsv hrow HCK HSV
          have hs1 : ¬ (0 : Int) ≤ (-1 : Int) := by omega
          have hs2 : ¬ (n0 : Int) ≤ (-1 : Int) := by omega
          generalize g.owner.getD k 0 = ow at *
          generalize (g.succ.getD k []).length = rl at *
          generalize (-1 : Int) = sv at *
          have HCl : Hid (∀ W, Below wx.drew.heap.size wx.drew W → W.cell? ⟨bS, oS + k, none⟩ = some (.int .i64 sv) ∧ W.cell? ⟨ZB, k, none⟩ = some (.bool false) ∧ W.cell? ⟨w.heap.size, 0, none⟩ = some (.slice (some ⟨b0, o0, none⟩) n0 c0) ∧ W.cell? ⟨b0, o0 + k, none⟩ = some (.int .i64 ow) ∧ W.cell? ⟨w.heap.size, 2, none⟩ = some (.slice (some ⟨b2, o2, none⟩) n0 c2) ∧ W.cell? ⟨b2, o2 + k, none⟩ = some (.slice aR rl cR) ∧ True) := fun W h => ⟨cellB (HBD.out W h) c0', cellB (HBD.out W h) e2, cellB (HBD.out W h) c1, cellB (HBD.out W h) c4, cellB (HBD.out W h) c3, cellB (HBD.out W h) c5, trivial⟩
          clear c0' c1 c3 c4 c5 e2
          refine region_stable hmx (RSf bS oS cS n0 k ZB w.heap.size b0 o0 c0 b2 o2 c2 rl cR aR p sv ow) (fun vs => { tmps := (_ :: _ :: _ :: _ :: _ :: _ :: _ :: _ :: _ :: _ :: _ :: _ :: _ :: _ :: _ :: _ :: _ :: _ :: _ :: _ :: _ :: _ :: _ :: _ :: _ :: _ :: _ :: _ :: _ :: _ :: _ :: _ :: _ :: _ :: _ :: _ :: _ :: _ :: _ :: _ :: _ :: _ :: _ :: _ :: _ :: _ :: _ :: _ :: _ :: _ :: _ :: _ :: _ :: _ :: _ :: _ :: _ :: _ :: _ :: _ :: _ :: _ :: _ :: _ :: _ :: _ :: _ :: _ :: _ :: _ :: _ :: _ :: _ :: _ :: _ :: _ :: _ :: vs 0 :: vs 1 :: vs 2 :: vs 3 :: vs 4 :: vs 5 :: vs 6 :: vs 7 :: vs 8 :: vs 9 :: vs 10 :: vs 11 :: vs 12 :: vs 13 :: vs 14 :: vs 15 :: vs 16 :: vs 17 :: vs 18 :: vs 19 :: vs 20 :: vs 21 :: vs 22 :: vs 23 :: vs 24 :: vs 25 :: vs 26 :: vs 27 :: vs 28 :: vs 29 :: vs 30 :: vs 31 :: vs 32 :: vs 33 :: vs 34 :: vs 35 :: vs 36 :: vs 37 :: vs 38 :: vs 39 :: vs 40 :: vs 41 :: vs 42 :: vs 43 :: vs 44 :: vs 45 :: vs 46 :: vs 47 :: _ :: _ :: _ :: _ :: _ :: _ :: _ :: _ :: _ :: _ :: _ :: _ :: _ :: _ :: _ :: _ :: _ :: _ :: _ :: _ :: _ :: _ :: _ :: _ :: _ :: _ :: _ :: _ :: _ :: _ :: _ :: _ :: _ :: _ :: _ :: _ :: _ :: _ :: _ :: _ :: _ :: _ :: _ :: _ :: _ :: _ :: _ :: []).toArray, defers := _ }) (fun n => [u77, u78, u79, u80, u81, u82, u83, u84, u85, u86, u87, u88, u89, u90, u91, u92, u93, u94, u95, u96, u97, u98, u99, u100, u101, u102, u103, u104, u105, u106, u107, u108, u109, u110, u111, u112, u113, u114, u115, u116, u117, u118, u119, u120, u121, u122, u123, u124].getD n undef) rfl (by kernel_rfl) (fun _ _ _ _ h hb => h.below hb) ?step ?fin
          case step =>
            intro ix o ho
            match ix, ho with
            | 0, ho =>
              obtain rfl := Option.some.inj ho
              intro vs W K hB hD hK
              have HK := Lib.hid hK
              clear hK hD ho
              dsimp only
              go_simp
              have h := HK.out _ _ (Below.refl _ _) rfl
              simp only [upd, Nat.reduceEqDiff, reduceIte] at h
              exact h
            | 1, ho =>
              obtain rfl := Option.some.inj ho
              intro vs W K hB hD hK
              have HK := Lib.hid hK
              clear hK hD ho
              dsimp only
              go_simp
              have h := HK.out _ _ (Below.refl _ _) rfl
              simp only [upd, Nat.reduceEqDiff, reduceIte] at h
              exact h
            | 2, ho =>
              obtain rfl := Option.some.inj ho
              intro vs W K hB hD hK
              have HK := Lib.hid hK
              have e0 : vs 0 = .slice (some ⟨bS, oS, none⟩) n0 cS := dep_of hD 0 (by rfl)
              have e1 : vs 1 = .int .i64 (k : Int) := dep_of hD 1 (by rfl)
              clear hK hD ho
              dsimp only
              go_simp
              have h := HK.out _ _ (Below.refl _ _) rfl
              simp only [upd, Nat.reduceEqDiff, reduceIte, e0, e1] at h
              exact h
            | 3, ho =>
              obtain rfl := Option.some.inj ho
              intro vs W K hB hD hK
              have HK := Lib.hid hK
              have e2 : vs 2 = .pointer (some ⟨bS, oS + k, none⟩) := dep_of hD 2 (by rfl)
              obtain ⟨d0, d1, d2, d3, d4, d5, d6⟩ := HCl.out W hB
              clear hK hD ho
              dsimp only
              go_simp
              have h := HK.out _ _ (Below.refl _ _) rfl
              simp only [upd, Nat.reduceEqDiff, reduceIte, e2] at h
              exact h
            | 4, ho =>
              obtain rfl := Option.some.inj ho
              intro vs W K hB hD hK
              have HK := Lib.hid hK
              have e3 : vs 3 = .int .i64 sv := dep_of hD 3 (by rfl)
              clear hK hD ho
              dsimp only
              go_simp
              have h := HK.out _ _ (Below.refl _ _) rfl
              simp only [upd, Nat.reduceEqDiff, reduceIte, e3] at h
              exact h
            | 5, ho =>
              obtain rfl := Option.some.inj ho
              intro vs W K hB hD hK
              have HK := Lib.hid hK
              clear hK hD ho
              dsimp only
              go_simp
              have h := HK.out _ _ (Below.refl _ _) rfl
              simp only [upd, Nat.reduceEqDiff, reduceIte] at h
              exact h
            | 6, ho =>
              obtain rfl := Option.some.inj ho
              intro vs W K hB hD hK
              have HK := Lib.hid hK
              clear hK hD ho
              dsimp only
              go_simp
              have h := HK.out _ _ (Below.refl _ _) rfl
              simp only [upd, Nat.reduceEqDiff, reduceIte] at h
              exact h
            | 7, ho =>
              obtain rfl := Option.some.inj ho
              intro vs W K hB hD hK
              have HK := Lib.hid hK
              have e5 : vs 5 = .slice (some ⟨ZB, 0, none⟩) n0 n0 := dep_of hD 5 (by rfl)
              have e6 : vs 6 = .int .i64 (k : Int) := dep_of hD 6 (by rfl)
              clear hK hD ho
              dsimp only
              go_simp
              have h := HK.out _ _ (Below.refl _ _) rfl
              simp only [upd, Nat.reduceEqDiff, reduceIte, e5, e6] at h
              exact h
            | 8, ho =>
              obtain rfl := Option.some.inj ho
              intro vs W K hB hD hK
              have HK := Lib.hid hK
              have e7 : vs 7 = .pointer (some ⟨ZB, k, none⟩) := dep_of hD 7 (by rfl)
              obtain ⟨d0, d1, d2, d3, d4, d5, d6⟩ := HCl.out W hB
              clear hK hD ho
              dsimp only
              go_simp
              have h := HK.out _ _ (Below.refl _ _) rfl
              simp only [upd, Nat.reduceEqDiff, reduceIte, e7] at h
              exact h
            | 9, ho =>
              obtain rfl := Option.some.inj ho
              intro vs W K hB hD hK
              have HK := Lib.hid hK
              have e8 : vs 8 = .bool false := dep_of hD 8 (by rfl)
              clear hK hD ho
              dsimp only
              go_simp
              have h := HK.out _ _ (Below.refl _ _) rfl
              simp only [upd, Nat.reduceEqDiff, reduceIte, e8] at h
              exact h
            | 10, ho =>
              obtain rfl := Option.some.inj ho
              intro vs W K hB hD hK
              have HK := Lib.hid hK
              have e9 : vs 9 = .bool false := dep_of hD 9 (by rfl)
              clear hK hD ho
              dsimp only
              go_simp
              have h := HK.out _ _ (Below.refl _ _) rfl
              simp only [upd, Nat.reduceEqDiff, reduceIte, e9] at h
              exact h
            | 11, ho =>
              obtain rfl := Option.some.inj ho
              intro vs W K hB hD hK
              have HK := Lib.hid hK
              have e9 : vs 9 = .bool false := dep_of hD 9 (by rfl)
              clear hK hD ho
              dsimp only
              go_simp
              have h := HK.out _ _ (Below.refl _ _) rfl
              simp only [upd, Nat.reduceEqDiff, reduceIte, e9] at h
              exact h
            | 12, ho =>
              obtain rfl := Option.some.inj ho
              intro vs W K hB hD hK
              have HK := Lib.hid hK
              have e9 : vs 9 = .bool false := dep_of hD 9 (by rfl)
              clear hK hD ho
              dsimp only
              go_simp
              have h := HK.out _ _ (Below.refl _ _) rfl
              simp only [upd, Nat.reduceEqDiff, reduceIte, e9] at h
              exact h
            | 13, ho =>
              obtain rfl := Option.some.inj ho
              intro vs W K hB hD hK
              have HK := Lib.hid hK
              have e9 : vs 9 = .bool false := dep_of hD 9 (by rfl)
              clear hK hD ho
              dsimp only
              go_simp
              have h := HK.out _ _ (Below.refl _ _) rfl
              simp only [upd, Nat.reduceEqDiff, reduceIte, e9] at h
              exact h
            | 14, ho =>
              obtain rfl := Option.some.inj ho
              intro vs W K hB hD hK
              have HK := Lib.hid hK
              have e9 : vs 9 = .bool false := dep_of hD 9 (by rfl)
              clear hK hD ho
              dsimp only
              go_simp
              have h := HK.out _ _ (Below.refl _ _) rfl
              simp only [upd, Nat.reduceEqDiff, reduceIte, e9] at h
              exact h
            | 15, ho =>
              obtain rfl := Option.some.inj ho
              intro vs W K hB hD hK
              have HK := Lib.hid hK
              have e9 : vs 9 = .bool false := dep_of hD 9 (by rfl)
              clear hK hD ho
              dsimp only
              go_simp
              have h := HK.out _ _ (Below.refl _ _) rfl
              simp only [upd, Nat.reduceEqDiff, reduceIte, e9] at h
              exact h
            | 16, ho =>
              obtain rfl := Option.some.inj ho
              intro vs W K hB hD hK
              have HK := Lib.hid hK
              have e9 : vs 9 = .bool false := dep_of hD 9 (by rfl)
              clear hK hD ho
              dsimp only
              go_simp
              have h := HK.out _ _ (Below.refl _ _) rfl
              simp only [upd, Nat.reduceEqDiff, reduceIte, e9] at h
              exact h
            | 17, ho =>
              obtain rfl := Option.some.inj ho
              intro vs W K hB hD hK
              have HK := Lib.hid hK
              have e9 : vs 9 = .bool false := dep_of hD 9 (by rfl)
              have e16 : vs 16 = undef := dep_of hD 16 (by rfl)
              clear hK hD ho
              dsimp only
              go_simp
              have h := HK.out _ _ (Below.refl _ _) rfl
              simp only [upd, Nat.reduceEqDiff, reduceIte, e9, e16] at h
              exact h
            | 18, ho =>
              obtain rfl := Option.some.inj ho
              intro vs W K hB hD hK
              have HK := Lib.hid hK
              have e4 : vs 4 = .bool false := dep_of hD 4 (by rfl)
              have e17 : vs 17 = .bool false := dep_of hD 17 (by rfl)
              clear hK hD ho
              dsimp only
              go_simp
              have h := HK.out _ _ (Below.refl _ _) rfl
              simp only [upd, Nat.reduceEqDiff, reduceIte, e4, e17] at h
              exact h
            | 19, ho =>
              obtain rfl := Option.some.inj ho
              intro vs W K hB hD hK
              have HK := Lib.hid hK
              have e18 : vs 18 = .bool false := dep_of hD 18 (by rfl)
              clear hK hD ho
              dsimp only
              go_simp
              have h := HK.out _ _ (Below.refl _ _) rfl
              simp only [upd, Nat.reduceEqDiff, reduceIte, e18] at h
              exact h
            | 20, ho =>
              obtain rfl := Option.some.inj ho
              intro vs W K hB hD hK
              have HK := Lib.hid hK
              have e19 : vs 19 = .bool false := dep_of hD 19 (by rfl)
              clear hK hD ho
              dsimp only
              go_simp
              have h := HK.out _ _ (Below.refl _ _) rfl
              simp only [upd, Nat.reduceEqDiff, reduceIte, e19] at h
              exact h
            | 21, ho =>
              obtain rfl := Option.some.inj ho
              intro vs W K hB hD hK
              have HK := Lib.hid hK
              have e19 : vs 19 = .bool false := dep_of hD 19 (by rfl)
              clear hK hD ho
              dsimp only
              go_simp
              have h := HK.out _ _ (Below.refl _ _) rfl
              simp only [upd, Nat.reduceEqDiff, reduceIte, e19] at h
              exact h
            | 22, ho =>
              obtain rfl := Option.some.inj ho
              intro vs W K hB hD hK
              have HK := Lib.hid hK
              have e19 : vs 19 = .bool false := dep_of hD 19 (by rfl)
              have e20 : vs 20 = .slice (some ⟨bS, oS, none⟩) n0 cS := dep_of hD 20 (by rfl)
              have e21 : vs 21 = .int .i64 (k : Int) := dep_of hD 21 (by rfl)
              clear hK hD ho
              dsimp only
              go_simp
              have h := HK.out _ _ (Below.refl _ _) rfl
              simp only [upd, Nat.reduceEqDiff, reduceIte, e19, e20, e21] at h
              exact h
            | 23, ho =>
              obtain rfl := Option.some.inj ho
              intro vs W K hB hD hK
              have HK := Lib.hid hK
              have e19 : vs 19 = .bool false := dep_of hD 19 (by rfl)
              have e22 : vs 22 = .pointer (some ⟨bS, oS + k, none⟩) := dep_of hD 22 (by rfl)
              obtain ⟨d0, d1, d2, d3, d4, d5, d6⟩ := HCl.out W hB
              clear hK hD ho
              dsimp only
              go_simp
              have h := HK.out _ _ (Below.refl _ _) rfl
              simp only [upd, Nat.reduceEqDiff, reduceIte, e19, e22] at h
              exact h
            | 24, ho =>
              obtain rfl := Option.some.inj ho
              intro vs W K hB hD hK
              have HK := Lib.hid hK
              have e19 : vs 19 = .bool false := dep_of hD 19 (by rfl)
              clear hK hD ho
              dsimp only
              go_simp
              have h := HK.out _ _ (Below.refl _ _) rfl
              simp only [upd, Nat.reduceEqDiff, reduceIte, e19] at h
              exact h
            | 25, ho =>
              obtain rfl := Option.some.inj ho
              intro vs W K hB hD hK
              have HK := Lib.hid hK
              have e19 : vs 19 = .bool false := dep_of hD 19 (by rfl)
              have e24 : vs 24 = .slice (some ⟨bS, oS, none⟩) n0 cS := dep_of hD 24 (by rfl)
              clear hK hD ho
              dsimp only
              go_simp
              have h := HK.out _ _ (Below.refl _ _) rfl
              simp only [upd, Nat.reduceEqDiff, reduceIte, e19, e24] at h
              exact h
            | 26, ho =>
              obtain rfl := Option.some.inj ho
              intro vs W K hB hD hK
              have HK := Lib.hid hK
              have e19 : vs 19 = .bool false := dep_of hD 19 (by rfl)
              have e23 : vs 23 = .int .i64 sv := dep_of hD 23 (by rfl)
              have e25 : vs 25 = .int .i64 (n0 : Int) := dep_of hD 25 (by rfl)
              clear hK hD ho
              dsimp only
              go_simp
              have h := HK.out _ _ (Below.refl _ _) rfl
              simp only [upd, Nat.reduceEqDiff, reduceIte, e19, e23, e25] at h
              exact h
            | 27, ho =>
              obtain rfl := Option.some.inj ho
              intro vs W K hB hD hK
              have HK := Lib.hid hK
              have e19 : vs 19 = .bool false := dep_of hD 19 (by rfl)
              have e26 : vs 26 = .bool false := dep_of hD 26 (by rfl)
              clear hK hD ho
              dsimp only
              go_simp
              have h := HK.out _ _ (Below.refl _ _) rfl
              simp only [upd, Nat.reduceEqDiff, reduceIte, e19, e26] at h
              exact h
            | 28, ho =>
              obtain rfl := Option.some.inj ho
              intro vs W K hB hD hK
              have HK := Lib.hid hK
              have e27 : vs 27 = .bool false := dep_of hD 27 (by rfl)
              clear hK hD ho
              dsimp only
              go_simp
              have h := HK.out _ _ (Below.refl _ _) rfl
              simp only [upd, Nat.reduceEqDiff, reduceIte, e27] at h
              exact h
            | 29, ho =>
              obtain rfl := Option.some.inj ho
              intro vs W K hB hD hK
              have HK := Lib.hid hK
              have e28 : vs 28 = .bool false := dep_of hD 28 (by rfl)
              clear hK hD ho
              dsimp only
              go_simp
              have h := HK.out _ _ (Below.refl _ _) rfl
              simp only [upd, Nat.reduceEqDiff, reduceIte, e28] at h
              exact h
            | 30, ho =>
              obtain rfl := Option.some.inj ho
              intro vs W K hB hD hK
              have HK := Lib.hid hK
              have e28 : vs 28 = .bool false := dep_of hD 28 (by rfl)
              clear hK hD ho
              dsimp only
              go_simp
              have h := HK.out _ _ (Below.refl _ _) rfl
              simp only [upd, Nat.reduceEqDiff, reduceIte, e28] at h
              exact h
            | 31, ho =>
              obtain rfl := Option.some.inj ho
              intro vs W K hB hD hK
              have HK := Lib.hid hK
              have e28 : vs 28 = .bool false := dep_of hD 28 (by rfl)
              have e29 : vs 29 = .slice (some ⟨bS, oS, none⟩) n0 cS := dep_of hD 29 (by rfl)
              have e30 : vs 30 = .int .i64 (k : Int) := dep_of hD 30 (by rfl)
              clear hK hD ho
              dsimp only
              go_simp
              have h := HK.out _ _ (Below.refl _ _) rfl
              simp only [upd, Nat.reduceEqDiff, reduceIte, e28, e29, e30] at h
              exact h
            | 32, ho =>
              obtain rfl := Option.some.inj ho
              intro vs W K hB hD hK
              have HK := Lib.hid hK
              have e28 : vs 28 = .bool false := dep_of hD 28 (by rfl)
              have e31 : vs 31 = .pointer (some ⟨bS, oS + k, none⟩) := dep_of hD 31 (by rfl)
              obtain ⟨d0, d1, d2, d3, d4, d5, d6⟩ := HCl.out W hB
              clear hK hD ho
              dsimp only
              go_simp
              have h := HK.out _ _ (Below.refl _ _) rfl
              simp only [upd, Nat.reduceEqDiff, reduceIte, e28, e31] at h
              exact h
            | 33, ho =>
              obtain rfl := Option.some.inj ho
              intro vs W K hB hD hK
              have HK := Lib.hid hK
              have e28 : vs 28 = .bool false := dep_of hD 28 (by rfl)
              have e32 : vs 32 = .int .i64 sv := dep_of hD 32 (by rfl)
              clear hK hD ho
              dsimp only
              go_simp
              have h := HK.out _ _ (Below.refl _ _) rfl
              simp only [upd, Nat.reduceEqDiff, reduceIte, e28, e32] at h
              exact h
            | 34, ho =>
              obtain rfl := Option.some.inj ho
              intro vs W K hB hD hK
              have HK := Lib.hid hK
              have e28 : vs 28 = .bool false := dep_of hD 28 (by rfl)
              have e33 : vs 33 = .bool false := dep_of hD 33 (by rfl)
              clear hK hD ho
              dsimp only
              go_simp
              have h := HK.out _ _ (Below.refl _ _) rfl
              simp only [upd, Nat.reduceEqDiff, reduceIte, e28, e33] at h
              exact h
            | 35, ho =>
              obtain rfl := Option.some.inj ho
              intro vs W K hB hD hK
              have HK := Lib.hid hK
              have e34 : vs 34 = .bool false := dep_of hD 34 (by rfl)
              clear hK hD ho
              dsimp only
              go_simp
              have h := HK.out _ _ (Below.refl _ _) rfl
              simp only [upd, Nat.reduceEqDiff, reduceIte, e34] at h
              exact h
            | 36, ho =>
              obtain rfl := Option.some.inj ho
              intro vs W K hB hD hK
              have HK := Lib.hid hK
              have e34 : vs 34 = .bool false := dep_of hD 34 (by rfl)
              clear hK hD ho
              dsimp only
              go_simp
              have h := HK.out _ _ (Below.refl _ _) rfl
              simp only [upd, Nat.reduceEqDiff, reduceIte, e34] at h
              exact h
            | 37, ho =>
              obtain rfl := Option.some.inj ho
              intro vs W K hB hD hK
              have HK := Lib.hid hK
              have e34 : vs 34 = .bool false := dep_of hD 34 (by rfl)
              clear hK hD ho
              dsimp only
              go_simp
              have h := HK.out _ _ (Below.refl _ _) rfl
              simp only [upd, Nat.reduceEqDiff, reduceIte, e34] at h
              exact h
            | 38, ho =>
              obtain rfl := Option.some.inj ho
              intro vs W K hB hD hK
              have HK := Lib.hid hK
              have e34 : vs 34 = .bool false := dep_of hD 34 (by rfl)
              clear hK hD ho
              dsimp only
              go_simp
              have h := HK.out _ _ (Below.refl _ _) rfl
              simp only [upd, Nat.reduceEqDiff, reduceIte, e34] at h
              exact h
            | 39, ho =>
              obtain rfl := Option.some.inj ho
              intro vs W K hB hD hK
              have HK := Lib.hid hK
              have e34 : vs 34 = .bool false := dep_of hD 34 (by rfl)
              clear hK hD ho
              dsimp only
              go_simp
              have h := HK.out _ _ (Below.refl _ _) rfl
              simp only [upd, Nat.reduceEqDiff, reduceIte, e34] at h
              exact h
            | 40, ho =>
              obtain rfl := Option.some.inj ho
              intro vs W K hB hD hK
              have HK := Lib.hid hK
              have e34 : vs 34 = .bool false := dep_of hD 34 (by rfl)
              clear hK hD ho
              dsimp only
              go_simp
              have h := HK.out _ _ (Below.refl _ _) rfl
              simp only [upd, Nat.reduceEqDiff, reduceIte, e34] at h
              exact h
            | 41, ho =>
              obtain rfl := Option.some.inj ho
              intro vs W K hB hD hK
              have HK := Lib.hid hK
              have e34 : vs 34 = .bool false := dep_of hD 34 (by rfl)
              clear hK hD ho
              dsimp only
              go_simp
              have h := HK.out _ _ (Below.refl _ _) rfl
              simp only [upd, Nat.reduceEqDiff, reduceIte, e34] at h
              exact h
            | 42, ho =>
              obtain rfl := Option.some.inj ho
              intro vs W K hB hD hK
              have HK := Lib.hid hK
              have e34 : vs 34 = .bool false := dep_of hD 34 (by rfl)
              clear hK hD ho
              dsimp only
              go_simp
              have h := HK.out _ _ (Below.refl _ _) rfl
              simp only [upd, Nat.reduceEqDiff, reduceIte, e34] at h
              exact h
            | 43, ho =>
              obtain rfl := Option.some.inj ho
              intro vs W K hB hD hK
              have HK := Lib.hid hK
              have e34 : vs 34 = .bool false := dep_of hD 34 (by rfl)
              clear hK hD ho
              dsimp only
              go_simp
              have h := HK.out _ _ (Below.refl _ _) rfl
              simp only [upd, Nat.reduceEqDiff, reduceIte, e34] at h
              exact h
            | 44, ho =>
              obtain rfl := Option.some.inj ho
              intro vs W K hB hD hK
              have HK := Lib.hid hK
              have e34 : vs 34 = .bool false := dep_of hD 34 (by rfl)
              clear hK hD ho
              dsimp only
              go_simp
              have h := HK.out _ _ (Below.refl _ _) rfl
              simp only [upd, Nat.reduceEqDiff, reduceIte, e34] at h
              exact h
            | 45, ho =>
              obtain rfl := Option.some.inj ho
              intro vs W K hB hD hK
              have HK := Lib.hid hK
              have e34 : vs 34 = .bool false := dep_of hD 34 (by rfl)
              clear hK hD ho
              dsimp only
              go_simp
              have h := HK.out _ _ (Below.refl _ _) rfl
              simp only [upd, Nat.reduceEqDiff, reduceIte, e34] at h
              exact h
            | 46, ho =>
              obtain rfl := Option.some.inj ho
              intro vs W K hB hD hK
              have HK := Lib.hid hK
              have e28 : vs 28 = .bool false := dep_of hD 28 (by rfl)
              have e34 : vs 34 = .bool false := dep_of hD 34 (by rfl)
              have e45 : vs 45 = undef := dep_of hD 45 (by rfl)
              clear hK hD ho
              dsimp only
              go_simp
              have h := HK.out _ _ (Below.refl _ _) rfl
              simp only [upd, Nat.reduceEqDiff, reduceIte, e28, e34, e45] at h
              exact h
            | 47, ho =>
              obtain rfl := Option.some.inj ho
              intro vs W K hB hD hK
              have HK := Lib.hid hK
              have e28 : vs 28 = .bool false := dep_of hD 28 (by rfl)
              have e46 : vs 46 = .bool false := dep_of hD 46 (by rfl)
              clear hK hD ho
              dsimp only
              go_simp
              have h := HK.out _ _ (Below.refl _ _) rfl
              simp only [upd, Nat.reduceEqDiff, reduceIte, e28, e46] at h
              exact h
            | q + 48, ho => exact absurd ho (by simp)
          case fin =>
            intro vs wz hB hall
            have el : vs 47 = .bool false := hall 47 (by decide)
            have hbz := HBD.out wz hB
            have HO3 := Lib.hid (HO2.out.below hbz)
            have HB3 : Hid (Below ZB w8 wz) := by
              show Below _ _ _
              have := HBY.out.trans (hbz.mono HBY.out.size)
              rwa [← HZB.out] at this
            clear hall hB HCl hbz HBD
            rw [el]
            clear el
            generalize vs 0 = z0q
            generalize vs 1 = z1q
            generalize vs 2 = z2q
            generalize vs 3 = z3q
            generalize vs 4 = z4q
            generalize vs 5 = z5q
            generalize vs 6 = z6q
            generalize vs 7 = z7q
            generalize vs 8 = z8q
            generalize vs 9 = z9q
            generalize vs 10 = z10q
            generalize vs 11 = z11q
            generalize vs 12 = z12q
            generalize vs 13 = z13q
            generalize vs 14 = z14q
            generalize vs 15 = z15q
            generalize vs 16 = z16q
            generalize vs 17 = z17q
            generalize vs 18 = z18q
            generalize vs 19 = z19q
            generalize vs 20 = z20q
            generalize vs 21 = z21q
            generalize vs 22 = z22q
            generalize vs 23 = z23q
            generalize vs 24 = z24q
            generalize vs 25 = z25q
            generalize vs 26 = z26q
            generalize vs 27 = z27q
            generalize vs 28 = z28q
            generalize vs 29 = z29q
            generalize vs 30 = z30q
            generalize vs 31 = z31q
            generalize vs 32 = z32q
            generalize vs 33 = z33q
            generalize vs 34 = z34q
            generalize vs 35 = z35q
            generalize vs 36 = z36q
            generalize vs 37 = z37q
            generalize vs 38 = z38q
            generalize vs 39 = z39q
            generalize vs 40 = z40q
            generalize vs 41 = z41q
            generalize vs 42 = z42q
            generalize vs 43 = z43q
            generalize vs 44 = z44q
            generalize vs 45 = z45q
            generalize vs 46 = z46q
            clear vs
            go_wp2
            go_roundg (n0 - (k + 1))
            case measure => have := HGK.out; omega
            case rel => exact ⟨k + 1, _, rfl, by go_num, by omega, HN2.out.1, HN2.out.2, HO3, HB3⟩
        · have tA : (((M.getD k []).length : Int) == 0) = false := by
            rw [beq_eq_false_iff_ne]
            intro e
            exact hmt (List.length_eq_zero_iff.1 (by omega))
          have HN2 := Lib.hid (HNX.out true (by rw [decide_eq_false hmt]; rfl))
          have HO2 := Lib.hid (HO.out.set HL.out.symm k true)
          have HB2 : Hid (Below ZB w8 (wr.setCell ⟨ZB, k, none⟩ (.bool true))) := by
            show Below _ _ _
            have := HBX.out
            rw [HZB.out]
            exact below_set this (Nat.le_refl _)
          clear HNX HO HBx HLS HBX
          generalize (M.getD k []).length = y at *
          have HTA : Hid (∀ W a e, Calls Try.prog 24 #[.slice a y e] W (fun r w' => r = .returned (.bool false) ∧ W = w')) := fun W a e => Top_c W a y e _ tA
          clear tA
          go_upto_region 16 with (go_at_call 24; refine (HTA.out _ _ _).mono ?_; rintro e w' ⟨rfl, rfl⟩)
          clear e2 f2 cM HTA
          have e2 : (wr.setCell ⟨ZB, k, none⟩ (.bool true)).cell? ⟨ZB, k, none⟩ = some (.bool true) := by
            have := HO2.out.at' HN2.out.1.symm k (by rw [HN2.out.1]; exact hlt)
            simpa using this
          generalize wr.setCell ⟨ZB, k, none⟩ (.bool true) = wx at *
          have HBY : Hid (Below w8.heap.size w8 wx) := by
            show Below _ _ _
            have := HB2.out
            rwa [HZB.out] at this
          have HBD : Hid (∀ W, Below wx.drew.heap.size wx.drew W → Below wx.heap.size wx W) := fun W h => (Below.drew (B := wx.heap.size) (Below.refl _ _)).trans h
          obtain ⟨aR, cR, c5, hrow⟩ := HF2.out k hlt
          have c1 := cell_of_row _ _ 0 _ _ _ HXX.out
          have c3 := cell_of_row _ _ 2 _ _ _ HXX.out
          have c0' := HFS.out k hlt
          have c4 := HF0.out k hlt
          replace c0' := cellB HBY.out c0'
          replace c1 := cellB HBY.out c1
          replace c3 := cellB HBY.out c3
          replace c4 := cellB HBY.out c4
          replace c5 := cellB HBY.out c5
          by_cases how : g.owner.getD k 0 = p
          · obtain ⟨jj, hj1, hj2, hj3, -⟩ := HCK.out.2 how hmt
            have HMB : Hid (∀ W, Below wx.drew.heap.size wx.drew W → Calls Try.prog 25 #[.slice aR (g.succ.getD k []).length cR, .int .i64 (jj : Int)] W (Calm (.bool true) W)) := fun W h => by
              have := member_c W _ _ (jj : Int) ((hrow.below HBY.out).below (HBD.out W h))
              rwa [decide_eq_true hj3] at this
            rw [HN0.out] at hj2
            have hs1 : (0 : Int) ≤ (jj : Int) := by omega
            have hs2 : ¬ (n0 : Int) ≤ (jj : Int) := by omega
            have how' : (g.owner.getD k 0 == p) = true := by rw [how]; exact beq_self_eq_true _
            rw [hj1] at c0'
            clear hj1 hj2 hj3 hrow how HCK
            generalize g.owner.getD k 0 = ow at *
            generalize (g.succ.getD k []).length = rl at *
            generalize (jj : Int) = sv at *
            have HCl : Hid (∀ W, Below wx.drew.heap.size wx.drew W → W.cell? ⟨bS, oS + k, none⟩ = some (.int .i64 sv) ∧ W.cell? ⟨ZB, k, none⟩ = some (.bool true) ∧ W.cell? ⟨w.heap.size, 0, none⟩ = some (.slice (some ⟨b0, o0, none⟩) n0 c0) ∧ W.cell? ⟨b0, o0 + k, none⟩ = some (.int .i64 ow) ∧ W.cell? ⟨w.heap.size, 2, none⟩ = some (.slice (some ⟨b2, o2, none⟩) n0 c2) ∧ W.cell? ⟨b2, o2 + k, none⟩ = some (.slice aR rl cR) ∧ True) := fun W h => ⟨cellB (HBD.out W h) c0', cellB (HBD.out W h) e2, cellB (HBD.out W h) c1, cellB (HBD.out W h) c4, cellB (HBD.out W h) c3, cellB (HBD.out W h) c5, trivial⟩
            clear c0' c1 c3 c4 c5 e2
            refine region_stable hmx (RSp bS oS cS n0 k ZB w.heap.size b0 o0 c0 b2 o2 c2 rl cR aR p sv ow) (fun vs => { tmps := (_ :: _ :: _ :: _ :: _ :: _ :: _ :: _ :: _ :: _ :: _ :: _ :: _ :: _ :: _ :: _ :: _ :: _ :: _ :: _ :: _ :: _ :: _ :: _ :: _ :: _ :: _ :: _ :: _ :: _ :: _ :: _ :: _ :: _ :: _ :: _ :: _ :: _ :: _ :: _ :: _ :: _ :: _ :: _ :: _ :: _ :: _ :: _ :: _ :: _ :: _ :: _ :: _ :: _ :: _ :: _ :: _ :: _ :: _ :: _ :: _ :: _ :: _ :: _ :: _ :: _ :: _ :: _ :: _ :: _ :: _ :: _ :: _ :: _ :: _ :: _ :: _ :: vs 0 :: vs 1 :: vs 2 :: vs 3 :: vs 4 :: vs 5 :: vs 6 :: vs 7 :: vs 8 :: vs 9 :: vs 10 :: vs 11 :: vs 12 :: vs 13 :: vs 14 :: vs 15 :: vs 16 :: vs 17 :: vs 18 :: vs 19 :: vs 20 :: vs 21 :: vs 22 :: vs 23 :: vs 24 :: vs 25 :: vs 26 :: vs 27 :: vs 28 :: vs 29 :: vs 30 :: vs 31 :: vs 32 :: vs 33 :: vs 34 :: vs 35 :: vs 36 :: vs 37 :: vs 38 :: vs 39 :: vs 40 :: vs 41 :: vs 42 :: vs 43 :: vs 44 :: vs 45 :: vs 46 :: vs 47 :: _ :: _ :: _ :: _ :: _ :: _ :: _ :: _ :: _ :: _ :: _ :: _ :: _ :: _ :: _ :: _ :: _ :: _ :: _ :: _ :: _ :: _ :: _ :: _ :: _ :: _ :: _ :: _ :: _ :: _ :: _ :: _ :: _ :: _ :: _ :: _ :: _ :: _ :: _ :: _ :: _ :: _ :: _ :: _ :: _ :: _ :: _ :: []).toArray, defers := _ }) (fun n => [u77, u78, u79, u80, u81, u82, u83, u84, u85, u86, u87, u88, u89, u90, u91, u92, u93, u94, u95, u96, u97, u98, u99, u100, u101, u102, u103, u104, u105, u106, u107, u108, u109, u110, u111, u112, u113, u114, u115, u116, u117, u118, u119, u120, u121, u122, u123, u124].getD n undef) rfl (by kernel_rfl) (fun _ _ _ _ h hb => h.below hb) ?step ?fin
            case step =>
              intro ix o ho
              match ix, ho with
              | 0, ho =>
                obtain rfl := Option.some.inj ho
                intro vs W K hB hD hK
                have HK := Lib.hid hK
                clear hK hD ho
                dsimp only
                go_simp
                have h := HK.out _ _ (Below.refl _ _) rfl
                simp only [upd, Nat.reduceEqDiff, reduceIte] at h
                exact h
              | 1, ho =>
                obtain rfl := Option.some.inj ho
                intro vs W K hB hD hK
                have HK := Lib.hid hK
                clear hK hD ho
                dsimp only
                go_simp
                have h := HK.out _ _ (Below.refl _ _) rfl
                simp only [upd, Nat.reduceEqDiff, reduceIte] at h
                exact h
              | 2, ho =>
                obtain rfl := Option.some.inj ho
                intro vs W K hB hD hK
                have HK := Lib.hid hK
                have e0 : vs 0 = .slice (some ⟨bS, oS, none⟩) n0 cS := dep_of hD 0 (by rfl)
                have e1 : vs 1 = .int .i64 (k : Int) := dep_of hD 1 (by rfl)
                clear hK hD ho
                dsimp only
                go_simp
                have h := HK.out _ _ (Below.refl _ _) rfl
                simp only [upd, Nat.reduceEqDiff, reduceIte, e0, e1] at h
                exact h
              | 3, ho =>
                obtain rfl := Option.some.inj ho
                intro vs W K hB hD hK
                have HK := Lib.hid hK
                have e2 : vs 2 = .pointer (some ⟨bS, oS + k, none⟩) := dep_of hD 2 (by rfl)
                obtain ⟨d0, d1, d2, d3, d4, d5, d6⟩ := HCl.out W hB
                clear hK hD ho
                dsimp only
                go_simp
                have h := HK.out _ _ (Below.refl _ _) rfl
                simp only [upd, Nat.reduceEqDiff, reduceIte, e2] at h
                exact h
              | 4, ho =>
                obtain rfl := Option.some.inj ho
                intro vs W K hB hD hK
                have HK := Lib.hid hK
                have e3 : vs 3 = .int .i64 sv := dep_of hD 3 (by rfl)
                clear hK hD ho
                dsimp only
                go_simp
                have h := HK.out _ _ (Below.refl _ _) rfl
                simp only [upd, Nat.reduceEqDiff, reduceIte, e3] at h
                exact h
              | 5, ho =>
                obtain rfl := Option.some.inj ho
                intro vs W K hB hD hK
                have HK := Lib.hid hK
                clear hK hD ho
                dsimp only
                go_simp
                have h := HK.out _ _ (Below.refl _ _) rfl
                simp only [upd, Nat.reduceEqDiff, reduceIte] at h
                exact h
              | 6, ho =>
                obtain rfl := Option.some.inj ho
                intro vs W K hB hD hK
                have HK := Lib.hid hK
                clear hK hD ho
                dsimp only
                go_simp
                have h := HK.out _ _ (Below.refl _ _) rfl
                simp only [upd, Nat.reduceEqDiff, reduceIte] at h
                exact h
              | 7, ho =>
                obtain rfl := Option.some.inj ho
                intro vs W K hB hD hK
                have HK := Lib.hid hK
                have e5 : vs 5 = .slice (some ⟨ZB, 0, none⟩) n0 n0 := dep_of hD 5 (by rfl)
                have e6 : vs 6 = .int .i64 (k : Int) := dep_of hD 6 (by rfl)
                clear hK hD ho
                dsimp only
                go_simp
                have h := HK.out _ _ (Below.refl _ _) rfl
                simp only [upd, Nat.reduceEqDiff, reduceIte, e5, e6] at h
                exact h
              | 8, ho =>
                obtain rfl := Option.some.inj ho
                intro vs W K hB hD hK
                have HK := Lib.hid hK
                have e7 : vs 7 = .pointer (some ⟨ZB, k, none⟩) := dep_of hD 7 (by rfl)
                obtain ⟨d0, d1, d2, d3, d4, d5, d6⟩ := HCl.out W hB
                clear hK hD ho
                dsimp only
                go_simp
                have h := HK.out _ _ (Below.refl _ _) rfl
                simp only [upd, Nat.reduceEqDiff, reduceIte, e7] at h
                exact h
              | 9, ho =>
                obtain rfl := Option.some.inj ho
                intro vs W K hB hD hK
                have HK := Lib.hid hK
                have e8 : vs 8 = .bool true := dep_of hD 8 (by rfl)
                clear hK hD ho
                dsimp only
                go_simp
                have h := HK.out _ _ (Below.refl _ _) rfl
                simp only [upd, Nat.reduceEqDiff, reduceIte, e8] at h
                exact h
              | 10, ho =>
                obtain rfl := Option.some.inj ho
                intro vs W K hB hD hK
                have HK := Lib.hid hK
                have e9 : vs 9 = .bool true := dep_of hD 9 (by rfl)
                clear hK hD ho
                dsimp only
                go_simp
                have h := HK.out _ _ (Below.refl _ _) rfl
                simp only [upd, Nat.reduceEqDiff, reduceIte, e9] at h
                exact h
              | 11, ho =>
                obtain rfl := Option.some.inj ho
                intro vs W K hB hD hK
                have HK := Lib.hid hK
                have e9 : vs 9 = .bool true := dep_of hD 9 (by rfl)
                have e10 : vs 10 = .pointer (some ⟨w.heap.size, 0, none⟩) := dep_of hD 10 (by rfl)
                obtain ⟨d0, d1, d2, d3, d4, d5, d6⟩ := HCl.out W hB
                clear hK hD ho
                dsimp only
                go_simp
                have h := HK.out _ _ (Below.refl _ _) rfl
                simp only [upd, Nat.reduceEqDiff, reduceIte, e9, e10] at h
                exact h
              | 12, ho =>
                obtain rfl := Option.some.inj ho
                intro vs W K hB hD hK
                have HK := Lib.hid hK
                have e9 : vs 9 = .bool true := dep_of hD 9 (by rfl)
                clear hK hD ho
                dsimp only
                go_simp
                have h := HK.out _ _ (Below.refl _ _) rfl
                simp only [upd, Nat.reduceEqDiff, reduceIte, e9] at h
                exact h
              | 13, ho =>
                obtain rfl := Option.some.inj ho
                intro vs W K hB hD hK
                have HK := Lib.hid hK
                have e9 : vs 9 = .bool true := dep_of hD 9 (by rfl)
                have e11 : vs 11 = .slice (some ⟨b0, o0, none⟩) n0 c0 := dep_of hD 11 (by rfl)
                have e12 : vs 12 = .int .i64 (k : Int) := dep_of hD 12 (by rfl)
                clear hK hD ho
                dsimp only
                go_simp
                have h := HK.out _ _ (Below.refl _ _) rfl
                simp only [upd, Nat.reduceEqDiff, reduceIte, e9, e11, e12] at h
                exact h
              | 14, ho =>
                obtain rfl := Option.some.inj ho
                intro vs W K hB hD hK
                have HK := Lib.hid hK
                have e9 : vs 9 = .bool true := dep_of hD 9 (by rfl)
                have e13 : vs 13 = .pointer (some ⟨b0, o0 + k, none⟩) := dep_of hD 13 (by rfl)
                obtain ⟨d0, d1, d2, d3, d4, d5, d6⟩ := HCl.out W hB
                clear hK hD ho
                dsimp only
                go_simp
                have h := HK.out _ _ (Below.refl _ _) rfl
                simp only [upd, Nat.reduceEqDiff, reduceIte, e9, e13] at h
                exact h
              | 15, ho =>
                obtain rfl := Option.some.inj ho
                intro vs W K hB hD hK
                have HK := Lib.hid hK
                have e9 : vs 9 = .bool true := dep_of hD 9 (by rfl)
                clear hK hD ho
                dsimp only
                go_simp
                have h := HK.out _ _ (Below.refl _ _) rfl
                simp only [upd, Nat.reduceEqDiff, reduceIte, e9] at h
                exact h
              | 16, ho =>
                obtain rfl := Option.some.inj ho
                intro vs W K hB hD hK
                have HK := Lib.hid hK
                have e9 : vs 9 = .bool true := dep_of hD 9 (by rfl)
                have e14 : vs 14 = .int .i64 ow := dep_of hD 14 (by rfl)
                have e15 : vs 15 = .int .i64 p := dep_of hD 15 (by rfl)
                clear hK hD ho
                dsimp only
                go_simp
                have h := HK.out _ _ (Below.refl _ _) rfl
                simp only [upd, Nat.reduceEqDiff, reduceIte, e9, e14, e15] at h
                exact h
              | 17, ho =>
                obtain rfl := Option.some.inj ho
                intro vs W K hB hD hK
                have HK := Lib.hid hK
                have e9 : vs 9 = .bool true := dep_of hD 9 (by rfl)
                have e16 : vs 16 = .bool true := dep_of hD 16 (by rfl)
                clear hK hD ho
                dsimp only
                go_simp
                have h := HK.out _ _ (Below.refl _ _) rfl
                simp only [upd, Nat.reduceEqDiff, reduceIte, e9, e16] at h
                exact h
              | 18, ho =>
                obtain rfl := Option.some.inj ho
                intro vs W K hB hD hK
                have HK := Lib.hid hK
                have e4 : vs 4 = .bool true := dep_of hD 4 (by rfl)
                have e17 : vs 17 = .bool true := dep_of hD 17 (by rfl)
                clear hK hD ho
                dsimp only
                go_simp
                have h := HK.out _ _ (Below.refl _ _) rfl
                simp only [upd, Nat.reduceEqDiff, reduceIte, e4, e17] at h
                exact h
              | 19, ho =>
                obtain rfl := Option.some.inj ho
                intro vs W K hB hD hK
                have HK := Lib.hid hK
                have e18 : vs 18 = .bool false := dep_of hD 18 (by rfl)
                clear hK hD ho
                dsimp only
                go_simp
                have h := HK.out _ _ (Below.refl _ _) rfl
                simp only [upd, Nat.reduceEqDiff, reduceIte, e18] at h
                exact h
              | 20, ho =>
                obtain rfl := Option.some.inj ho
                intro vs W K hB hD hK
                have HK := Lib.hid hK
                have e19 : vs 19 = .bool false := dep_of hD 19 (by rfl)
                clear hK hD ho
                dsimp only
                go_simp
                have h := HK.out _ _ (Below.refl _ _) rfl
                simp only [upd, Nat.reduceEqDiff, reduceIte, e19] at h
                exact h
              | 21, ho =>
                obtain rfl := Option.some.inj ho
                intro vs W K hB hD hK
                have HK := Lib.hid hK
                have e19 : vs 19 = .bool false := dep_of hD 19 (by rfl)
                clear hK hD ho
                dsimp only
                go_simp
                have h := HK.out _ _ (Below.refl _ _) rfl
                simp only [upd, Nat.reduceEqDiff, reduceIte, e19] at h
                exact h
              | 22, ho =>
                obtain rfl := Option.some.inj ho
                intro vs W K hB hD hK
                have HK := Lib.hid hK
                have e19 : vs 19 = .bool false := dep_of hD 19 (by rfl)
                have e20 : vs 20 = .slice (some ⟨bS, oS, none⟩) n0 cS := dep_of hD 20 (by rfl)
                have e21 : vs 21 = .int .i64 (k : Int) := dep_of hD 21 (by rfl)
                clear hK hD ho
                dsimp only
                go_simp
                have h := HK.out _ _ (Below.refl _ _) rfl
                simp only [upd, Nat.reduceEqDiff, reduceIte, e19, e20, e21] at h
                exact h
              | 23, ho =>
                obtain rfl := Option.some.inj ho
                intro vs W K hB hD hK
                have HK := Lib.hid hK
                have e19 : vs 19 = .bool false := dep_of hD 19 (by rfl)
                have e22 : vs 22 = .pointer (some ⟨bS, oS + k, none⟩) := dep_of hD 22 (by rfl)
                obtain ⟨d0, d1, d2, d3, d4, d5, d6⟩ := HCl.out W hB
                clear hK hD ho
                dsimp only
                go_simp
                have h := HK.out _ _ (Below.refl _ _) rfl
                simp only [upd, Nat.reduceEqDiff, reduceIte, e19, e22] at h
                exact h
              | 24, ho =>
                obtain rfl := Option.some.inj ho
                intro vs W K hB hD hK
                have HK := Lib.hid hK
                have e19 : vs 19 = .bool false := dep_of hD 19 (by rfl)
                clear hK hD ho
                dsimp only
                go_simp
                have h := HK.out _ _ (Below.refl _ _) rfl
                simp only [upd, Nat.reduceEqDiff, reduceIte, e19] at h
                exact h
              | 25, ho =>
                obtain rfl := Option.some.inj ho
                intro vs W K hB hD hK
                have HK := Lib.hid hK
                have e19 : vs 19 = .bool false := dep_of hD 19 (by rfl)
                have e24 : vs 24 = .slice (some ⟨bS, oS, none⟩) n0 cS := dep_of hD 24 (by rfl)
                clear hK hD ho
                dsimp only
                go_simp
                have h := HK.out _ _ (Below.refl _ _) rfl
                simp only [upd, Nat.reduceEqDiff, reduceIte, e19, e24] at h
                exact h
              | 26, ho =>
                obtain rfl := Option.some.inj ho
                intro vs W K hB hD hK
                have HK := Lib.hid hK
                have e19 : vs 19 = .bool false := dep_of hD 19 (by rfl)
                have e23 : vs 23 = .int .i64 sv := dep_of hD 23 (by rfl)
                have e25 : vs 25 = .int .i64 (n0 : Int) := dep_of hD 25 (by rfl)
                clear hK hD ho
                dsimp only
                go_simp
                have h := HK.out _ _ (Below.refl _ _) rfl
                simp only [upd, Nat.reduceEqDiff, reduceIte, e19, e23, e25] at h
                exact h
              | 27, ho =>
                obtain rfl := Option.some.inj ho
                intro vs W K hB hD hK
                have HK := Lib.hid hK
                have e19 : vs 19 = .bool false := dep_of hD 19 (by rfl)
                have e26 : vs 26 = .bool false := dep_of hD 26 (by rfl)
                clear hK hD ho
                dsimp only
                go_simp
                have h := HK.out _ _ (Below.refl _ _) rfl
                simp only [upd, Nat.reduceEqDiff, reduceIte, e19, e26] at h
                exact h
              | 28, ho =>
                obtain rfl := Option.some.inj ho
                intro vs W K hB hD hK
                have HK := Lib.hid hK
                have e27 : vs 27 = .bool false := dep_of hD 27 (by rfl)
                clear hK hD ho
                dsimp only
                go_simp
                have h := HK.out _ _ (Below.refl _ _) rfl
                simp only [upd, Nat.reduceEqDiff, reduceIte, e27] at h
                exact h
              | 29, ho =>
                obtain rfl := Option.some.inj ho
                intro vs W K hB hD hK
                have HK := Lib.hid hK
                have e28 : vs 28 = .bool false := dep_of hD 28 (by rfl)
                clear hK hD ho
                dsimp only
                go_simp
                have h := HK.out _ _ (Below.refl _ _) rfl
                simp only [upd, Nat.reduceEqDiff, reduceIte, e28] at h
                exact h
              | 30, ho =>
                obtain rfl := Option.some.inj ho
                intro vs W K hB hD hK
                have HK := Lib.hid hK
                have e28 : vs 28 = .bool false := dep_of hD 28 (by rfl)
                clear hK hD ho
                dsimp only
                go_simp
                have h := HK.out _ _ (Below.refl _ _) rfl
                simp only [upd, Nat.reduceEqDiff, reduceIte, e28] at h
                exact h
              | 31, ho =>
                obtain rfl := Option.some.inj ho
                intro vs W K hB hD hK
                have HK := Lib.hid hK
                have e28 : vs 28 = .bool false := dep_of hD 28 (by rfl)
                have e29 : vs 29 = .slice (some ⟨bS, oS, none⟩) n0 cS := dep_of hD 29 (by rfl)
                have e30 : vs 30 = .int .i64 (k : Int) := dep_of hD 30 (by rfl)
                clear hK hD ho
                dsimp only
                go_simp
                have h := HK.out _ _ (Below.refl _ _) rfl
                simp only [upd, Nat.reduceEqDiff, reduceIte, e28, e29, e30] at h
                exact h
              | 32, ho =>
                obtain rfl := Option.some.inj ho
                intro vs W K hB hD hK
                have HK := Lib.hid hK
                have e28 : vs 28 = .bool false := dep_of hD 28 (by rfl)
                have e31 : vs 31 = .pointer (some ⟨bS, oS + k, none⟩) := dep_of hD 31 (by rfl)
                obtain ⟨d0, d1, d2, d3, d4, d5, d6⟩ := HCl.out W hB
                clear hK hD ho
                dsimp only
                go_simp
                have h := HK.out _ _ (Below.refl _ _) rfl
                simp only [upd, Nat.reduceEqDiff, reduceIte, e28, e31] at h
                exact h
              | 33, ho =>
                obtain rfl := Option.some.inj ho
                intro vs W K hB hD hK
                have HK := Lib.hid hK
                have e28 : vs 28 = .bool false := dep_of hD 28 (by rfl)
                have e32 : vs 32 = .int .i64 sv := dep_of hD 32 (by rfl)
                clear hK hD ho
                dsimp only
                go_simp
                have h := HK.out _ _ (Below.refl _ _) rfl
                simp only [upd, Nat.reduceEqDiff, reduceIte, e28, e32] at h
                exact h
              | 34, ho =>
                obtain rfl := Option.some.inj ho
                intro vs W K hB hD hK
                have HK := Lib.hid hK
                have e28 : vs 28 = .bool false := dep_of hD 28 (by rfl)
                have e33 : vs 33 = .bool true := dep_of hD 33 (by rfl)
                clear hK hD ho
                dsimp only
                go_simp
                have h := HK.out _ _ (Below.refl _ _) rfl
                simp only [upd, Nat.reduceEqDiff, reduceIte, e28, e33] at h
                exact h
              | 35, ho =>
                obtain rfl := Option.some.inj ho
                intro vs W K hB hD hK
                have HK := Lib.hid hK
                have e34 : vs 34 = .bool true := dep_of hD 34 (by rfl)
                clear hK hD ho
                dsimp only
                go_simp
                have h := HK.out _ _ (Below.refl _ _) rfl
                simp only [upd, Nat.reduceEqDiff, reduceIte, e34] at h
                exact h
              | 36, ho =>
                obtain rfl := Option.some.inj ho
                intro vs W K hB hD hK
                have HK := Lib.hid hK
                have e34 : vs 34 = .bool true := dep_of hD 34 (by rfl)
                have e35 : vs 35 = .pointer (some ⟨w.heap.size, 2, none⟩) := dep_of hD 35 (by rfl)
                obtain ⟨d0, d1, d2, d3, d4, d5, d6⟩ := HCl.out W hB
                clear hK hD ho
                dsimp only
                go_simp
                have h := HK.out _ _ (Below.refl _ _) rfl
                simp only [upd, Nat.reduceEqDiff, reduceIte, e34, e35] at h
                exact h
              | 37, ho =>
                obtain rfl := Option.some.inj ho
                intro vs W K hB hD hK
                have HK := Lib.hid hK
                have e34 : vs 34 = .bool true := dep_of hD 34 (by rfl)
                clear hK hD ho
                dsimp only
                go_simp
                have h := HK.out _ _ (Below.refl _ _) rfl
                simp only [upd, Nat.reduceEqDiff, reduceIte, e34] at h
                exact h
              | 38, ho =>
                obtain rfl := Option.some.inj ho
                intro vs W K hB hD hK
                have HK := Lib.hid hK
                have e34 : vs 34 = .bool true := dep_of hD 34 (by rfl)
                have e36 : vs 36 = .slice (some ⟨b2, o2, none⟩) n0 c2 := dep_of hD 36 (by rfl)
                have e37 : vs 37 = .int .i64 (k : Int) := dep_of hD 37 (by rfl)
                clear hK hD ho
                dsimp only
                go_simp
                have h := HK.out _ _ (Below.refl _ _) rfl
                simp only [upd, Nat.reduceEqDiff, reduceIte, e34, e36, e37] at h
                exact h
              | 39, ho =>
                obtain rfl := Option.some.inj ho
                intro vs W K hB hD hK
                have HK := Lib.hid hK
                have e34 : vs 34 = .bool true := dep_of hD 34 (by rfl)
                have e38 : vs 38 = .pointer (some ⟨b2, o2 + k, none⟩) := dep_of hD 38 (by rfl)
                obtain ⟨d0, d1, d2, d3, d4, d5, d6⟩ := HCl.out W hB
                clear hK hD ho
                dsimp only
                go_simp
                have h := HK.out _ _ (Below.refl _ _) rfl
                simp only [upd, Nat.reduceEqDiff, reduceIte, e34, e38] at h
                exact h
              | 40, ho =>
                obtain rfl := Option.some.inj ho
                intro vs W K hB hD hK
                have HK := Lib.hid hK
                have e34 : vs 34 = .bool true := dep_of hD 34 (by rfl)
                clear hK hD ho
                dsimp only
                go_simp
                have h := HK.out _ _ (Below.refl _ _) rfl
                simp only [upd, Nat.reduceEqDiff, reduceIte, e34] at h
                exact h
              | 41, ho =>
                obtain rfl := Option.some.inj ho
                intro vs W K hB hD hK
                have HK := Lib.hid hK
                have e34 : vs 34 = .bool true := dep_of hD 34 (by rfl)
                clear hK hD ho
                dsimp only
                go_simp
                have h := HK.out _ _ (Below.refl _ _) rfl
                simp only [upd, Nat.reduceEqDiff, reduceIte, e34] at h
                exact h
              | 42, ho =>
                obtain rfl := Option.some.inj ho
                intro vs W K hB hD hK
                have HK := Lib.hid hK
                have e34 : vs 34 = .bool true := dep_of hD 34 (by rfl)
                have e40 : vs 40 = .slice (some ⟨bS, oS, none⟩) n0 cS := dep_of hD 40 (by rfl)
                have e41 : vs 41 = .int .i64 (k : Int) := dep_of hD 41 (by rfl)
                clear hK hD ho
                dsimp only
                go_simp
                have h := HK.out _ _ (Below.refl _ _) rfl
                simp only [upd, Nat.reduceEqDiff, reduceIte, e34, e40, e41] at h
                exact h
              | 43, ho =>
                obtain rfl := Option.some.inj ho
                intro vs W K hB hD hK
                have HK := Lib.hid hK
                have e34 : vs 34 = .bool true := dep_of hD 34 (by rfl)
                have e42 : vs 42 = .pointer (some ⟨bS, oS + k, none⟩) := dep_of hD 42 (by rfl)
                obtain ⟨d0, d1, d2, d3, d4, d5, d6⟩ := HCl.out W hB
                clear hK hD ho
                dsimp only
                go_simp
                have h := HK.out _ _ (Below.refl _ _) rfl
                simp only [upd, Nat.reduceEqDiff, reduceIte, e34, e42] at h
                exact h
              | 44, ho =>
                obtain rfl := Option.some.inj ho
                intro vs W K hB hD hK
                have HK := Lib.hid hK
                have e34 : vs 34 = .bool true := dep_of hD 34 (by rfl)
                have e39 : vs 39 = .slice aR rl cR := dep_of hD 39 (by rfl)
                have e43 : vs 43 = .int .i64 sv := dep_of hD 43 (by rfl)
                clear hK hD ho
                dsimp only
                go_simp
                refine (HMB.out W hB).mono ?_
                rintro e W' ⟨rfl, hb⟩
                have h := HK.out _ _ hb rfl
                simp only [upd, Nat.reduceEqDiff, reduceIte, e34, e39, e43] at h
                exact h
              | 45, ho =>
                obtain rfl := Option.some.inj ho
                intro vs W K hB hD hK
                have HK := Lib.hid hK
                have e34 : vs 34 = .bool true := dep_of hD 34 (by rfl)
                have e44 : vs 44 = .bool true := dep_of hD 44 (by rfl)
                clear hK hD ho
                dsimp only
                go_simp
                have h := HK.out _ _ (Below.refl _ _) rfl
                simp only [upd, Nat.reduceEqDiff, reduceIte, e34, e44] at h
                exact h
              | 46, ho =>
                obtain rfl := Option.some.inj ho
                intro vs W K hB hD hK
                have HK := Lib.hid hK
                have e28 : vs 28 = .bool false := dep_of hD 28 (by rfl)
                have e34 : vs 34 = .bool true := dep_of hD 34 (by rfl)
                have e45 : vs 45 = .bool false := dep_of hD 45 (by rfl)
                clear hK hD ho
                dsimp only
                go_simp
                have h := HK.out _ _ (Below.refl _ _) rfl
                simp only [upd, Nat.reduceEqDiff, reduceIte, e28, e34, e45] at h
                exact h
              | 47, ho =>
                obtain rfl := Option.some.inj ho
                intro vs W K hB hD hK
                have HK := Lib.hid hK
                have e28 : vs 28 = .bool false := dep_of hD 28 (by rfl)
                have e46 : vs 46 = .bool false := dep_of hD 46 (by rfl)
                clear hK hD ho
                dsimp only
                go_simp
                have h := HK.out _ _ (Below.refl _ _) rfl
                simp only [upd, Nat.reduceEqDiff, reduceIte, e28, e46] at h
                exact h
              | q + 48, ho => exact absurd ho (by simp)
            case fin =>
              intro vs wz hB hall
              have el : vs 47 = .bool false := hall 47 (by decide)
              have hbz := HBD.out wz hB
              have HO3 := Lib.hid (HO2.out.below hbz)
              have HB3 : Hid (Below ZB w8 wz) := by
                show Below _ _ _
                have := HBY.out.trans (hbz.mono HBY.out.size)
                rwa [← HZB.out] at this
              clear hall hB HCl hbz HBD HMB
              rw [el]
              clear el
              generalize vs 0 = z0q
              generalize vs 1 = z1q
              generalize vs 2 = z2q
              generalize vs 3 = z3q
              generalize vs 4 = z4q
              generalize vs 5 = z5q
              generalize vs 6 = z6q
              generalize vs 7 = z7q
              generalize vs 8 = z8q
              generalize vs 9 = z9q
              generalize vs 10 = z10q
              generalize vs 11 = z11q
              generalize vs 12 = z12q
              generalize vs 13 = z13q
              generalize vs 14 = z14q
              generalize vs 15 = z15q
              generalize vs 16 = z16q
              generalize vs 17 = z17q
              generalize vs 18 = z18q
              generalize vs 19 = z19q
              generalize vs 20 = z20q
              generalize vs 21 = z21q
              generalize vs 22 = z22q
              generalize vs 23 = z23q
              generalize vs 24 = z24q
              generalize vs 25 = z25q
              generalize vs 26 = z26q
              generalize vs 27 = z27q
              generalize vs 28 = z28q
              generalize vs 29 = z29q
              generalize vs 30 = z30q
              generalize vs 31 = z31q
              generalize vs 32 = z32q
              generalize vs 33 = z33q
              generalize vs 34 = z34q
              generalize vs 35 = z35q
              generalize vs 36 = z36q
              generalize vs 37 = z37q
              generalize vs 38 = z38q
              generalize vs 39 = z39q
              generalize vs 40 = z40q
              generalize vs 41 = z41q
              generalize vs 42 = z42q
              generalize vs 43 = z43q
              generalize vs 44 = z44q
              generalize vs 45 = z45q
              generalize vs 46 = z46q
              clear vs
              go_wp2
              go_roundg (n0 - (k + 1))
              case measure => have := HGK.out; omega
              case rel => exact ⟨k + 1, _, rfl, by go_num, by omega, HN2.out.1, HN2.out.2, HO3, HB3⟩
          · have hsv := HCK.out.1 fun h => how h.1
            have how' : (g.owner.getD k 0 == p) = false := by rw [beq_eq_false_iff_ne]; exact how
            rw [hsv] at c0'
            clear hsv hrow how HCK
            have hs1 : ¬ (0 : Int) ≤ (-1 : Int) := by omega
            have hs2 : ¬ (n0 : Int) ≤ (-1 : Int) := by omega
            generalize g.owner.getD k 0 = ow at *
            generalize (g.succ.getD k []).length = rl at *
            generalize (-1 : Int) = sv at *
            have HCl : Hid (∀ W, Below wx.drew.heap.size wx.drew W → W.cell? ⟨bS, oS + k, none⟩ = some (.int .i64 sv) ∧ W.cell? ⟨ZB, k, none⟩ = some (.bool true) ∧ W.cell? ⟨w.heap.size, 0, none⟩ = some (.slice (some ⟨b0, o0, none⟩) n0 c0) ∧ W.cell? ⟨b0, o0 + k, none⟩ = some (.int .i64 ow) ∧ W.cell? ⟨w.heap.size, 2, none⟩ = some (.slice (some ⟨b2, o2, none⟩) n0 c2) ∧ W.cell? ⟨b2, o2 + k, none⟩ = some (.slice aR rl cR) ∧ True) := fun W h => ⟨cellB (HBD.out W h) c0', cellB (HBD.out W h) e2, cellB (HBD.out W h) c1, cellB (HBD.out W h) c4, cellB (HBD.out W h) c3, cellB (HBD.out W h) c5, trivial⟩
            clear c0' c1 c3 c4 c5 e2
            refine region_stable hmx (RSn bS oS cS n0 k ZB w.heap.size b0 o0 c0 b2 o2 c2 rl cR aR p sv ow) (fun vs => { tmps := (_ :: _ :: _ :: _ :: _ :: _ :: _ :: _ :: _ :: _ :: _ :: _ :: _ :: _ :: _ :: _ :: _ :: _ :: _ :: _ :: _ :: _ :: _ :: _ :: _ :: _ :: _ :: _ :: _ :: _ :: _ :: _ :: _ :: _ :: _ :: _ :: _ :: _ :: _ :: _ :: _ :: _ :: _ :: _ :: _ :: _ :: _ :: _ :: _ :: _ :: _ :: _ :: _ :: _ :: _ :: _ :: _ :: _ :: _ :: _ :: _ :: _ :: _ :: _ :: _ :: _ :: _ :: _ :: _ :: _ :: _ :: _ :: _ :: _ :: _ :: _ :: _ :: vs 0 :: vs 1 :: vs 2 :: vs 3 :: vs 4 :: vs 5 :: vs 6 :: vs 7 :: vs 8 :: vs 9 :: vs 10 :: vs 11 :: vs 12 :: vs 13 :: vs 14 :: vs 15 :: vs 16 :: vs 17 :: vs 18 :: vs 19 :: vs 20 :: vs 21 :: vs 22 :: vs 23 :: vs 24 :: vs 25 :: vs 26 :: vs 27 :: vs 28 :: vs 29 :: vs 30 :: vs 31 :: vs 32 :: vs 33 :: vs 34 :: vs 35 :: vs 36 :: vs 37 :: vs 38 :: vs 39 :: vs 40 :: vs 41 :: vs 42 :: vs 43 :: vs 44 :: vs 45 :: vs 46 :: vs 47 :: _ :: _ :: _ :: _ :: _ :: _ :: _ :: _ :: _ :: _ :: _ :: _ :: _ :: _ :: _ :: _ :: _ :: _ :: _ :: _ :: _ :: _ :: _ :: _ :: _ :: _ :: _ :: _ :: _ :: _ :: _ :: _ :: _ :: _ :: _ :: _ :: _ :: _ :: _ :: _ :: _ :: _ :: _ :: _ :: _ :: _ :: _ :: []).toArray, defers := _ }) (fun n => [u77, u78, u79, u80, u81, u82, u83, u84, u85, u86, u87, u88, u89, u90, u91, u92, u93, u94, u95, u96, u97, u98, u99, u100, u101, u102, u103, u104, u105, u106, u107, u108, u109, u110, u111, u112, u113, u114, u115, u116, u117, u118, u119, u120, u121, u122, u123, u124].getD n undef) rfl (by kernel_rfl) (fun _ _ _ _ h hb => h.below hb) ?step ?fin
            case step =>
              intro ix o ho
              match ix, ho with
              | 0, ho =>
                obtain rfl := Option.some.inj ho
                intro vs W K hB hD hK
                have HK := Lib.hid hK
                clear hK hD ho
                dsimp only
                go_simp
                have h := HK.out _ _ (Below.refl _ _) rfl
                simp only [upd, Nat.reduceEqDiff, reduceIte] at h
                exact h
              | 1, ho =>
                obtain rfl := Option.some.inj ho
                intro vs W K hB hD hK
                have HK := Lib.hid hK
                clear hK hD ho
                dsimp only
                go_simp
                have h := HK.out _ _ (Below.refl _ _) rfl
                simp only [upd, Nat.reduceEqDiff, reduceIte] at h
                exact h
              | 2, ho =>
                obtain rfl := Option.some.inj ho
                intro vs W K hB hD hK
                have HK := Lib.hid hK
                have e0 : vs 0 = .slice (some ⟨bS, oS, none⟩) n0 cS := dep_of hD 0 (by rfl)
                have e1 : vs 1 = .int .i64 (k : Int) := dep_of hD 1 (by rfl)
                clear hK hD ho
                dsimp only
                go_simp
                have h := HK.out _ _ (Below.refl _ _) rfl
                simp only [upd, Nat.reduceEqDiff, reduceIte, e0, e1] at h
                exact h
              | 3, ho =>
                obtain rfl := Option.some.inj ho
                intro vs W K hB hD hK
                have HK := Lib.hid hK
                have e2 : vs 2 = .pointer (some ⟨bS, oS + k, none⟩) := dep_of hD 2 (by rfl)
                obtain ⟨d0, d1, d2, d3, d4, d5, d6⟩ := HCl.out W hB
                clear hK hD ho
                dsimp only
                go_simp
                have h := HK.out _ _ (Below.refl _ _) rfl
                simp only [upd, Nat.reduceEqDiff, reduceIte, e2] at h
                exact h
              | 4, ho =>
                obtain rfl := Option.some.inj ho
                intro vs W K hB hD hK
                have HK := Lib.hid hK
                have e3 : vs 3 = .int .i64 sv := dep_of hD 3 (by rfl)
                clear hK hD ho
                dsimp only
                go_simp
                have h := HK.out _ _ (Below.refl _ _) rfl
                simp only [upd, Nat.reduceEqDiff, reduceIte, e3] at h
                exact h
              | 5, ho =>
                obtain rfl := Option.some.inj ho
                intro vs W K hB hD hK
                have HK := Lib.hid hK
                clear hK hD ho
                dsimp only
                go_simp
                have h := HK.out _ _ (Below.refl _ _) rfl
                simp only [upd, Nat.reduceEqDiff, reduceIte] at h
                exact h
              | 6, ho =>
                obtain rfl := Option.some.inj ho
                intro vs W K hB hD hK
                have HK := Lib.hid hK
                clear hK hD ho
                dsimp only
                go_simp
                have h := HK.out _ _ (Below.refl _ _) rfl
                simp only [upd, Nat.reduceEqDiff, reduceIte] at h
                exact h
              | 7, ho =>
                obtain rfl := Option.some.inj ho
                intro vs W K hB hD hK
                have HK := Lib.hid hK
                have e5 : vs 5 = .slice (some ⟨ZB, 0, none⟩) n0 n0 := dep_of hD 5 (by rfl)
                have e6 : vs 6 = .int .i64 (k : Int) := dep_of hD 6 (by rfl)
                clear hK hD ho
                dsimp only
                go_simp
                have h := HK.out _ _ (Below.refl _ _) rfl
                simp only [upd, Nat.reduceEqDiff, reduceIte, e5, e6] at h
                exact h
              | 8, ho =>
                obtain rfl := Option.some.inj ho
                intro vs W K hB hD hK
                have HK := Lib.hid hK
                have e7 : vs 7 = .pointer (some ⟨ZB, k, none⟩) := dep_of hD 7 (by rfl)
                obtain ⟨d0, d1, d2, d3, d4, d5, d6⟩ := HCl.out W hB
                clear hK hD ho
                dsimp only
                go_simp
                have h := HK.out _ _ (Below.refl _ _) rfl
                simp only [upd, Nat.reduceEqDiff, reduceIte, e7] at h
                exact h
              | 9, ho =>
                obtain rfl := Option.some.inj ho
                intro vs W K hB hD hK
                have HK := Lib.hid hK
                have e8 : vs 8 = .bool true := dep_of hD 8 (by rfl)
                clear hK hD ho
                dsimp only
                go_simp
                have h := HK.out _ _ (Below.refl _ _) rfl
                simp only [upd, Nat.reduceEqDiff, reduceIte, e8] at h
                exact h
              | 10, ho =>
                obtain rfl := Option.some.inj ho
                intro vs W K hB hD hK
                have HK := Lib.hid hK
                have e9 : vs 9 = .bool true := dep_of hD 9 (by rfl)
                clear hK hD ho
                dsimp only
                go_simp
                have h := HK.out _ _ (Below.refl _ _) rfl
                simp only [upd, Nat.reduceEqDiff, reduceIte, e9] at h
                exact h
              | 11, ho =>
                obtain rfl := Option.some.inj ho
                intro vs W K hB hD hK
                have HK := Lib.hid hK
                have e9 : vs 9 = .bool true := dep_of hD 9 (by rfl)
                have e10 : vs 10 = .pointer (some ⟨w.heap.size, 0, none⟩) := dep_of hD 10 (by rfl)
                obtain ⟨d0, d1, d2, d3, d4, d5, d6⟩ := HCl.out W hB
                clear hK hD ho
                dsimp only
                go_simp
                have h := HK.out _ _ (Below.refl _ _) rfl
                simp only [upd, Nat.reduceEqDiff, reduceIte, e9, e10] at h
                exact h
              | 12, ho =>
                obtain rfl := Option.some.inj ho
                intro vs W K hB hD hK
                have HK := Lib.hid hK
                have e9 : vs 9 = .bool true := dep_of hD 9 (by rfl)
                clear hK hD ho
                dsimp only
                go_simp
                have h := HK.out _ _ (Below.refl _ _) rfl
                simp only [upd, Nat.reduceEqDiff, reduceIte, e9] at h
                exact h
              | 13, ho =>
                obtain rfl := Option.some.inj ho
                intro vs W K hB hD hK
                have HK := Lib.hid hK
                have e9 : vs 9 = .bool true := dep_of hD 9 (by rfl)
                have e11 : vs 11 = .slice (some ⟨b0, o0, none⟩) n0 c0 := dep_of hD 11 (by rfl)
                have e12 : vs 12 = .int .i64 (k : Int) := dep_of hD 12 (by rfl)
                clear hK hD ho
                dsimp only
                go_simp
                have h := HK.out _ _ (Below.refl _ _) rfl
                simp only [upd, Nat.reduceEqDiff, reduceIte, e9, e11, e12] at h
                exact h
              | 14, ho =>
                obtain rfl := Option.some.inj ho
                intro vs W K hB hD hK
                have HK := Lib.hid hK
                have e9 : vs 9 = .bool true := dep_of hD 9 (by rfl)
                have e13 : vs 13 = .pointer (some ⟨b0, o0 + k, none⟩) := dep_of hD 13 (by rfl)
                obtain ⟨d0, d1, d2, d3, d4, d5, d6⟩ := HCl.out W hB
                clear hK hD ho
                dsimp only
                go_simp
                have h := HK.out _ _ (Below.refl _ _) rfl
                simp only [upd, Nat.reduceEqDiff, reduceIte, e9, e13] at h
                exact h
              | 15, ho =>
                obtain rfl := Option.some.inj ho
                intro vs W K hB hD hK
                have HK := Lib.hid hK
                have e9 : vs 9 = .bool true := dep_of hD 9 (by rfl)
                clear hK hD ho
                dsimp only
                go_simp
                have h := HK.out _ _ (Below.refl _ _) rfl
                simp only [upd, Nat.reduceEqDiff, reduceIte, e9] at h
                exact h
              | 16, ho =>
                obtain rfl := Option.some.inj ho
                intro vs W K hB hD hK
                have HK := Lib.hid hK
                have e9 : vs 9 = .bool true := dep_of hD 9 (by rfl)
                have e14 : vs 14 = .int .i64 ow := dep_of hD 14 (by rfl)
                have e15 : vs 15 = .int .i64 p := dep_of hD 15 (by rfl)
                clear hK hD ho
                dsimp only
                go_simp
                have h := HK.out _ _ (Below.refl _ _) rfl
                simp only [upd, Nat.reduceEqDiff, reduceIte, e9, e14, e15] at h
                exact h
              | 17, ho =>
                obtain rfl := Option.some.inj ho
                intro vs W K hB hD hK
                have HK := Lib.hid hK
                have e9 : vs 9 = .bool true := dep_of hD 9 (by rfl)
                have e16 : vs 16 = .bool false := dep_of hD 16 (by rfl)
                clear hK hD ho
                dsimp only
                go_simp
                have h := HK.out _ _ (Below.refl _ _) rfl
                simp only [upd, Nat.reduceEqDiff, reduceIte, e9, e16] at h
                exact h
              | 18, ho =>
                obtain rfl := Option.some.inj ho
                intro vs W K hB hD hK
                have HK := Lib.hid hK
                have e4 : vs 4 = .bool false := dep_of hD 4 (by rfl)
                have e17 : vs 17 = .bool false := dep_of hD 17 (by rfl)
                clear hK hD ho
                dsimp only
                go_simp
                have h := HK.out _ _ (Below.refl _ _) rfl
                simp only [upd, Nat.reduceEqDiff, reduceIte, e4, e17] at h
                exact h
              | 19, ho =>
                obtain rfl := Option.some.inj ho
                intro vs W K hB hD hK
                have HK := Lib.hid hK
                have e18 : vs 18 = .bool false := dep_of hD 18 (by rfl)
                clear hK hD ho
                dsimp only
                go_simp
                have h := HK.out _ _ (Below.refl _ _) rfl
                simp only [upd, Nat.reduceEqDiff, reduceIte, e18] at h
                exact h
              | 20, ho =>
                obtain rfl := Option.some.inj ho
                intro vs W K hB hD hK
                have HK := Lib.hid hK
                have e19 : vs 19 = .bool false := dep_of hD 19 (by rfl)
                clear hK hD ho
                dsimp only
                go_simp
                have h := HK.out _ _ (Below.refl _ _) rfl
                simp only [upd, Nat.reduceEqDiff, reduceIte, e19] at h
                exact h
              | 21, ho =>
                obtain rfl := Option.some.inj ho
                intro vs W K hB hD hK
                have HK := Lib.hid hK
                have e19 : vs 19 = .bool false := dep_of hD 19 (by rfl)
                clear hK hD ho
                dsimp only
                go_simp
                have h := HK.out _ _ (Below.refl _ _) rfl
                simp only [upd, Nat.reduceEqDiff, reduceIte, e19] at h
                exact h
              | 22, ho =>
                obtain rfl := Option.some.inj ho
                intro vs W K hB hD hK
                have HK := Lib.hid hK
                have e19 : vs 19 = .bool false := dep_of hD 19 (by rfl)
                have e20 : vs 20 = .slice (some ⟨bS, oS, none⟩) n0 cS := dep_of hD 20 (by rfl)
                have e21 : vs 21 = .int .i64 (k : Int) := dep_of hD 21 (by rfl)
                clear hK hD ho
                dsimp only
                go_simp
                have h := HK.out _ _ (Below.refl _ _) rfl
                simp only [upd, Nat.reduceEqDiff, reduceIte, e19, e20, e21] at h
                exact h
              | 23, ho =>
                obtain rfl := Option.some.inj ho
                intro vs W K hB hD hK
                have HK := Lib.hid hK
                have e19 : vs 19 = .bool false := dep_of hD 19 (by rfl)
                have e22 : vs 22 = .pointer (some ⟨bS, oS + k, none⟩) := dep_of hD 22 (by rfl)
                obtain ⟨d0, d1, d2, d3, d4, d5, d6⟩ := HCl.out W hB
                clear hK hD ho
                dsimp only
                go_simp
                have h := HK.out _ _ (Below.refl _ _) rfl
                simp only [upd, Nat.reduceEqDiff, reduceIte, e19, e22] at h
                exact h
              | 24, ho =>
                obtain rfl := Option.some.inj ho
                intro vs W K hB hD hK
                have HK := Lib.hid hK
                have e19 : vs 19 = .bool false := dep_of hD 19 (by rfl)
                clear hK hD ho
                dsimp only
                go_simp
                have h := HK.out _ _ (Below.refl _ _) rfl
                simp only [upd, Nat.reduceEqDiff, reduceIte, e19] at h
                exact h
              | 25, ho =>
                obtain rfl := Option.some.inj ho
                intro vs W K hB hD hK
                have HK := Lib.hid hK
                have e19 : vs 19 = .bool false := dep_of hD 19 (by rfl)
                have e24 : vs 24 = .slice (some ⟨bS, oS, none⟩) n0 cS := dep_of hD 24 (by rfl)
                clear hK hD ho
                dsimp only
                go_simp
                have h := HK.out _ _ (Below.refl _ _) rfl
                simp only [upd, Nat.reduceEqDiff, reduceIte, e19, e24] at h
                exact h
              | 26, ho =>
                obtain rfl := Option.some.inj ho
                intro vs W K hB hD hK
                have HK := Lib.hid hK
                have e19 : vs 19 = .bool false := dep_of hD 19 (by rfl)
                have e23 : vs 23 = .int .i64 sv := dep_of hD 23 (by rfl)
                have e25 : vs 25 = .int .i64 (n0 : Int) := dep_of hD 25 (by rfl)
                clear hK hD ho
                dsimp only
                go_simp
                have h := HK.out _ _ (Below.refl _ _) rfl
                simp only [upd, Nat.reduceEqDiff, reduceIte, e19, e23, e25] at h
                exact h
              | 27, ho =>
                obtain rfl := Option.some.inj ho
                intro vs W K hB hD hK
                have HK := Lib.hid hK
                have e19 : vs 19 = .bool false := dep_of hD 19 (by rfl)
                have e26 : vs 26 = .bool false := dep_of hD 26 (by rfl)
                clear hK hD ho
                dsimp only
                go_simp
                have h := HK.out _ _ (Below.refl _ _) rfl
                simp only [upd, Nat.reduceEqDiff, reduceIte, e19, e26] at h
                exact h
              | 28, ho =>
                obtain rfl := Option.some.inj ho
                intro vs W K hB hD hK
                have HK := Lib.hid hK
                have e27 : vs 27 = .bool false := dep_of hD 27 (by rfl)
                clear hK hD ho
                dsimp only
                go_simp
                have h := HK.out _ _ (Below.refl _ _) rfl
                simp only [upd, Nat.reduceEqDiff, reduceIte, e27] at h
                exact h
              | 29, ho =>
                obtain rfl := Option.some.inj ho
                intro vs W K hB hD hK
                have HK := Lib.hid hK
                have e28 : vs 28 = .bool false := dep_of hD 28 (by rfl)
                clear hK hD ho
                dsimp only
                go_simp
                have h := HK.out _ _ (Below.refl _ _) rfl
                simp only [upd, Nat.reduceEqDiff, reduceIte, e28] at h
                exact h
              | 30, ho =>
                obtain rfl := Option.some.inj ho
                intro vs W K hB hD hK
                have HK := Lib.hid hK
                have e28 : vs 28 = .bool false := dep_of hD 28 (by rfl)
                clear hK hD ho
                dsimp only
                go_simp
                have h := HK.out _ _ (Below.refl _ _) rfl
                simp only [upd, Nat.reduceEqDiff, reduceIte, e28] at h
                exact h
              | 31, ho =>
                obtain rfl := Option.some.inj ho
                intro vs W K hB hD hK
                have HK := Lib.hid hK
                have e28 : vs 28 = .bool false := dep_of hD 28 (by rfl)
                have e29 : vs 29 = .slice (some ⟨bS, oS, none⟩) n0 cS := dep_of hD 29 (by rfl)
                have e30 : vs 30 = .int .i64 (k : Int) := dep_of hD 30 (by rfl)
                clear hK hD ho
                dsimp only
                go_simp
                have h := HK.out _ _ (Below.refl _ _) rfl
                simp only [upd, Nat.reduceEqDiff, reduceIte, e28, e29, e30] at h
                exact h
              | 32, ho =>
                obtain rfl := Option.some.inj ho
                intro vs W K hB hD hK
                have HK := Lib.hid hK
                have e28 : vs 28 = .bool false := dep_of hD 28 (by rfl)
                have e31 : vs 31 = .pointer (some ⟨bS, oS + k, none⟩) := dep_of hD 31 (by rfl)
                obtain ⟨d0, d1, d2, d3, d4, d5, d6⟩ := HCl.out W hB
                clear hK hD ho
                dsimp only
                go_simp
                have h := HK.out _ _ (Below.refl _ _) rfl
                simp only [upd, Nat.reduceEqDiff, reduceIte, e28, e31] at h
                exact h
              | 33, ho =>
                obtain rfl := Option.some.inj ho
                intro vs W K hB hD hK
                have HK := Lib.hid hK
                have e28 : vs 28 = .bool false := dep_of hD 28 (by rfl)
                have e32 : vs 32 = .int .i64 sv := dep_of hD 32 (by rfl)
                clear hK hD ho
                dsimp only
                go_simp
                have h := HK.out _ _ (Below.refl _ _) rfl
                simp only [upd, Nat.reduceEqDiff, reduceIte, e28, e32] at h
                exact h
              | 34, ho =>
                obtain rfl := Option.some.inj ho
                intro vs W K hB hD hK
                have HK := Lib.hid hK
                have e28 : vs 28 = .bool false := dep_of hD 28 (by rfl)
                have e33 : vs 33 = .bool false := dep_of hD 33 (by rfl)
                clear hK hD ho
                dsimp only
                go_simp
                have h := HK.out _ _ (Below.refl _ _) rfl
                simp only [upd, Nat.reduceEqDiff, reduceIte, e28, e33] at h
                exact h
              | 35, ho =>
                obtain rfl := Option.some.inj ho
                intro vs W K hB hD hK
                have HK := Lib.hid hK
                have e34 : vs 34 = .bool false := dep_of hD 34 (by rfl)
                clear hK hD ho
                dsimp only
                go_simp
                have h := HK.out _ _ (Below.refl _ _) rfl
                simp only [upd, Nat.reduceEqDiff, reduceIte, e34] at h
                exact h
              | 36, ho =>
                obtain rfl := Option.some.inj ho
                intro vs W K hB hD hK
                have HK := Lib.hid hK
                have e34 : vs 34 = .bool false := dep_of hD 34 (by rfl)
                clear hK hD ho
                dsimp only
                go_simp
                have h := HK.out _ _ (Below.refl _ _) rfl
                simp only [upd, Nat.reduceEqDiff, reduceIte, e34] at h
                exact h
              | 37, ho =>
                obtain rfl := Option.some.inj ho
                intro vs W K hB hD hK
                have HK := Lib.hid hK
                have e34 : vs 34 = .bool false := dep_of hD 34 (by rfl)
                clear hK hD ho
                dsimp only
                go_simp
                have h := HK.out _ _ (Below.refl _ _) rfl
                simp only [upd, Nat.reduceEqDiff, reduceIte, e34] at h
                exact h
              | 38, ho =>
                obtain rfl := Option.some.inj ho
                intro vs W K hB hD hK
                have HK := Lib.hid hK
                have e34 : vs 34 = .bool false := dep_of hD 34 (by rfl)
                clear hK hD ho
                dsimp only
                go_simp
                have h := HK.out _ _ (Below.refl _ _) rfl
                simp only [upd, Nat.reduceEqDiff, reduceIte, e34] at h
                exact h
              | 39, ho =>
                obtain rfl := Option.some.inj ho
                intro vs W K hB hD hK
                have HK := Lib.hid hK
                have e34 : vs 34 = .bool false := dep_of hD 34 (by rfl)
                clear hK hD ho
                dsimp only
                go_simp
                have h := HK.out _ _ (Below.refl _ _) rfl
                simp only [upd, Nat.reduceEqDiff, reduceIte, e34] at h
                exact h
              | 40, ho =>
                obtain rfl := Option.some.inj ho
                intro vs W K hB hD hK
                have HK := Lib.hid hK
                have e34 : vs 34 = .bool false := dep_of hD 34 (by rfl)
                clear hK hD ho
                dsimp only
                go_simp
                have h := HK.out _ _ (Below.refl _ _) rfl
                simp only [upd, Nat.reduceEqDiff, reduceIte, e34] at h
                exact h
              | 41, ho =>
                obtain rfl := Option.some.inj ho
                intro vs W K hB hD hK
                have HK := Lib.hid hK
                have e34 : vs 34 = .bool false := dep_of hD 34 (by rfl)
                clear hK hD ho
                dsimp only
                go_simp
                have h := HK.out _ _ (Below.refl _ _) rfl
                simp only [upd, Nat.reduceEqDiff, reduceIte, e34] at h
                exact h
              | 42, ho =>
                obtain rfl := Option.some.inj ho
                intro vs W K hB hD hK
                have HK := Lib.hid hK
                have e34 : vs 34 = .bool false := dep_of hD 34 (by rfl)
                clear hK hD ho
                dsimp only
                go_simp
                have h := HK.out _ _ (Below.refl _ _) rfl
                simp only [upd, Nat.reduceEqDiff, reduceIte, e34] at h
                exact h
              | 43, ho =>
                obtain rfl := Option.some.inj ho
                intro vs W K hB hD hK
                have HK := Lib.hid hK
                have e34 : vs 34 = .bool false := dep_of hD 34 (by rfl)
                clear hK hD ho
                dsimp only
                go_simp
                have h := HK.out _ _ (Below.refl _ _) rfl
                simp only [upd, Nat.reduceEqDiff, reduceIte, e34] at h
                exact h
              | 44, ho =>
                obtain rfl := Option.some.inj ho
                intro vs W K hB hD hK
                have HK := Lib.hid hK
                have e34 : vs 34 = .bool false := dep_of hD 34 (by rfl)
                clear hK hD ho
                dsimp only
                go_simp
                have h := HK.out _ _ (Below.refl _ _) rfl
                simp only [upd, Nat.reduceEqDiff, reduceIte, e34] at h
                exact h
              | 45, ho =>
                obtain rfl := Option.some.inj ho
                intro vs W K hB hD hK
                have HK := Lib.hid hK
                have e34 : vs 34 = .bool false := dep_of hD 34 (by rfl)
                clear hK hD ho
                dsimp only
                go_simp
                have h := HK.out _ _ (Below.refl _ _) rfl
                simp only [upd, Nat.reduceEqDiff, reduceIte, e34] at h
                exact h
              | 46, ho =>
                obtain rfl := Option.some.inj ho
                intro vs W K hB hD hK
                have HK := Lib.hid hK
                have e28 : vs 28 = .bool false := dep_of hD 28 (by rfl)
                have e34 : vs 34 = .bool false := dep_of hD 34 (by rfl)
                have e45 : vs 45 = undef := dep_of hD 45 (by rfl)
                clear hK hD ho
                dsimp only
                go_simp
                have h := HK.out _ _ (Below.refl _ _) rfl
                simp only [upd, Nat.reduceEqDiff, reduceIte, e28, e34, e45] at h
                exact h
              | 47, ho =>
                obtain rfl := Option.some.inj ho
                intro vs W K hB hD hK
                have HK := Lib.hid hK
                have e28 : vs 28 = .bool false := dep_of hD 28 (by rfl)
                have e46 : vs 46 = .bool false := dep_of hD 46 (by rfl)
                clear hK hD ho
                dsimp only
                go_simp
                have h := HK.out _ _ (Below.refl _ _) rfl
                simp only [upd, Nat.reduceEqDiff, reduceIte, e28, e46] at h
                exact h
              | q + 48, ho => exact absurd ho (by simp)
            case fin =>
              intro vs wz hB hall
              have el : vs 47 = .bool false := hall 47 (by decide)
              have hbz := HBD.out wz hB
              have HO3 := Lib.hid (HO2.out.below hbz)
              have HB3 : Hid (Below ZB w8 wz) := by
                show Below _ _ _
                have := HBY.out.trans (hbz.mono HBY.out.size)
                rwa [← HZB.out] at this
              clear hall hB HCl hbz HBD
              rw [el]
              clear el
              generalize vs 0 = z0q
              generalize vs 1 = z1q
              generalize vs 2 = z2q
              generalize vs 3 = z3q
              generalize vs 4 = z4q
              generalize vs 5 = z5q
              generalize vs 6 = z6q
              generalize vs 7 = z7q
              generalize vs 8 = z8q
              generalize vs 9 = z9q
              generalize vs 10 = z10q
              generalize vs 11 = z11q
              generalize vs 12 = z12q
              generalize vs 13 = z13q
              generalize vs 14 = z14q
              generalize vs 15 = z15q
              generalize vs 16 = z16q
              generalize vs 17 = z17q
              generalize vs 18 = z18q
              generalize vs 19 = z19q
              generalize vs 20 = z20q
              generalize vs 21 = z21q
              generalize vs 22 = z22q
              generalize vs 23 = z23q
              generalize vs 24 = z24q
              generalize vs 25 = z25q
              generalize vs 26 = z26q
              generalize vs 27 = z27q
              generalize vs 28 = z28q
              generalize vs 29 = z29q
              generalize vs 30 = z30q
              generalize vs 31 = z31q
              generalize vs 32 = z32q
              generalize vs 33 = z33q
              generalize vs 34 = z34q
              generalize vs 35 = z35q
              generalize vs 36 = z36q
              generalize vs 37 = z37q
              generalize vs 38 = z38q
              generalize vs 39 = z39q
              generalize vs 40 = z40q
              generalize vs 41 = z41q
              generalize vs 42 = z42q
              generalize vs 43 = z43q
              generalize vs 44 = z44q
              generalize vs 45 = z45q
              generalize vs 46 = z46q
              clear vs
              go_wp2
              go_roundg (n0 - (k + 1))
              case measure => have := HGK.out; omega
              case rel => exact ⟨k + 1, _, rfl, by go_num, by omega, HN2.out.1, HN2.out.2, HO3, HB3⟩
      · have i1 : ¬ (k : Int) < (n0 : Int) := by omega
        obtain ⟨wE, rfl⟩ : ∃ x : World, x = wr := ⟨_, rfl⟩
        have hbx : Below w8.heap.size w8 wE := by have := HBx.out; rwa [HZB.out] at this
        have HSet : Hid (∀ j, j < n0 → L.getD j false = !decide (M.getD j [] = [])) := fun j hj => HLS.out j (by omega)
        have HGE := Lib.hid (HGG.out.below hbx)
        have HSE := Lib.hid (HSS.out.below hbx)
        have HTE := Lib.hid (HO.out.is (by rw [HL.out]; have : maxN = 140737488351232 := rfl; omega))
        have HXE := Lib.hid ((hbx.block _ (Array.getElem?_eq_some_iff.1 HXX.out).1).trans HXX.out)
        have HBE := Lib.hid (HBB.out.trans (hbx.mono HBB.out.size))
        have HFT : Hid (∀ j, j < n0 → wE.cell? ⟨ZB, j, none⟩ = some (.bool (!decide (M.getD j [] = [])))) := fun j hj => by
          have hjl : j < L.length := by rw [HL.out]; exact hj
          have := HO.out.at' HL.out.symm j hjl
          rw [← HSet.out j hj, getD_lt _ _ _ hjl]
          exact this
        have HL0 : Hid (g.owner.length ≤ 3000 ∧ (choG g p M).length = g.owner.length ∧ g.prio.length = g.owner.length ∧ g.succ.length = g.owner.length) := ⟨by rw [HN0.out]; omega, HCH.out.2.1, by have := valid_lens HF.out.v; exact this.2.1, by have := valid_lens HF.out.v; exact this.2.2⟩
        have HMV : Hid (∀ W k, Below wE.heap.size wE W → k < n0 → M.getD k [] ≠ [] → Calls Try.prog 26 #[.agg #[.slice a0 n0 c0, .slice a1 n0 c1, .slice a2 n0 c2], .int .i64 p, .slice aS n0 cS, .int .i64 (k : Int)] W (NewIB wE.heap.size (mvL g p (choG g p M) k) W)) := fun W k hW hk hm => by
          refine moves_c wE W _ _ g p (choG g p M) k hW HGE.out HSE.out HL0.out.1 HL0.out.2.1 HL0.out.2.2.2 (by rw [HN0.out]; exact hk) fun how => ?_
          obtain ⟨jj, h1, h2, -⟩ := (HCH.out.2.2 k (by rw [HN0.out]; exact hk)).2 how hm
          rw [h1]; omega
        have HML : Hid (∀ k, k < n0 → M.getD k [] ≠ [] → ∀ x ∈ mvL g p (choG g p M) k, ∃ y : Nat, x = (y : Int) ∧ y < n0 ∧ M.getD y [] ≠ []) := fun k hk hm x hx => by
          obtain ⟨y, h1, h2, h3, -⟩ := HF.out.move HPP.out HVM.out (by rw [HN0.out]; exact hk) hm hx
          exact ⟨y, h1, by rw [← HN0.out]; exact h2, h3⟩
        have HBAD : Hid (∀ W k, Below wE.heap.size wE W → k < n0 → M.getD k [] ≠ [] → g.prio.getD k 0 % 2 ≠ p → Calls Try.prog 27 #[.agg #[.slice a0 n0 c0, .slice a1 n0 c1, .slice a2 n0 c2], .int .i64 p, .slice aS n0 cS, .slice (some ⟨ZB, 0, none⟩) n0 n0, .int .i64 (k : Int)] W (Calm (.bool false) W)) := fun W k hW hk hm hpr => by
          obtain ⟨Q, q1, q2, q3⟩ := HF.out.nobad HPP.out HVM.out (by rw [HN0.out]; exact hk) hm hpr
          refine bad_c W _ _ _ g p (choG g p M) L k Q (HGE.out.below hW) (HSE.out.below hW) (HTE.out.below hW) HL0.out.1 HL0.out.2.2.1 HL0.out.2.2.2 HL0.out.2.1 (by rw [HL.out, HN0.out]) (by rw [HN0.out]; exact hk) (fun u hu hq how => ?_) q1 fun u hu hq x hx => ?_
          · obtain ⟨jj, h1, h2, -⟩ := (HCH.out.2.2 u hu).2 how (q2 u hq)
            rw [h1]; omega
          · obtain ⟨y, h1, h2, h3, h4⟩ := q3 u hu hq x hx
            refine ⟨y, h1, h2, h3, fun hs hp => h4 ?_ hp⟩
            rw [HSet.out y (by rw [← HN0.out]; exact h2)] at hs
            intro he
            rw [decide_eq_true he] at hs
            exact absurd hs (by decide)
        obtain ⟨-, i1', -⟩ := HGE.out.three
        obtain ⟨b1, o1, d1, m1, f1⟩ := i1'.data
        have HF1 := Lib.hid f1
        have HPZ : Hid (∀ k, k < n0 → 0 ≤ g.prio.getD k 0) := fun k hk => by
          have := valid_pri HF.out.v k (by rw [HN0.out]; exact hk)
          omega
        clear HO HBx HLS HGG HSS HTE HXX HBB HSet HFS HF0 HF2 HFM HL hbx HGK i1' f1 HL0 HGE HSE HVM HCH HZB dM dS d0 d2
        go_wp2_with fail
        go_loopg [14] n0 (fun gh i wr => ∃ k : Nat, gh = n0 - k ∧ i = .int .i64 (k : Int) ∧ k ≤ n0 ∧ Hid (Below wE.heap.size wE wr))
        case atStart => exact ⟨0, rfl, rfl, by omega, Below.refl _ _⟩
        case round =>
          clear hlt hk i1
          obtain ⟨k, hgk, rfl, hk, HBx⟩ := hrel
          have HGK := Lib.hid hgk
          clear hgk
          by_cases hlt : k < n0
          · have hi0 : (0 : Int) ≤ (k : Int) := by omega
            have hi1 : (k : Int) < (n0 : Int) := by omega
            have eS := cellB HBx.out (HFT.out k hlt)
            by_cases hmt : M.getD k [] = []
            · rw [decide_eq_true hmt] at eS
              replace eS : wr.cell? ⟨ZB, k, none⟩ = some (.bool false) := eS
              go_wp2
              go_roundg (n0 - (k + 1))
              case measure => have := HGK.out; omega
              case rel => exact ⟨k + 1, rfl, by go_num, by omega, HBx⟩
            · rw [decide_eq_false hmt] at eS
              replace eS : wr.cell? ⟨ZB, k, none⟩ = some (.bool true) := eS
              have q := (HBx.out.block _ (Array.getElem?_eq_some_iff.1 HXE.out).1).trans HXE.out
              have k0 := cell_of_row _ _ 0 _ _ _ q
              have k1 := cell_of_row _ _ 1 _ _ _ q
              have k2 := cell_of_row _ _ 2 _ _ _ q
              clear q
              have HRM0 := Lib.hid (HML.out k hlt hmt)
              have HMV1 := Lib.hid (HMV.out wr k HBx.out hlt hmt)
              generalize mvL g p (choG g p M) k = R at *
              go_wp2_with fail
              refine HMV1.out.mono ?_
              rintro e w9 ⟨u9, rfl, hR, hb, -⟩
              have HB9 := Lib.hid (HBx.out.trans (hb.mono HBx.out.size))
              clear HMV1 hb k0 k1 k2 eS HBx
              obtain ⟨aR, cR, rfl⟩ := hR.shape
              obtain ⟨bR, oR, dR, nR, fR⟩ := hR.data
              have HFR := Lib.hid fR
              clear fR hR
              have HRM : Hid (∀ j, j < R.length → ∃ y : Nat, R.getD j 0 = (y : Int) ∧ y < n0 ∧ M.getD y [] ≠ []) := fun j hj => HRM0.out _ (by rw [getD_lt _ _ _ hj]; exact List.getElem_mem _)
              clear HRM0
              generalize R.length = rl at *
              go_wp2_with fail
              go_loopg [16] rl (fun gh j wx => ∃ jj : Nat, gh = rl - jj ∧ j = .int .i64 (jj : Int) ∧ jj ≤ rl ∧ Hid (Below w9.heap.size w9 wx))
              case atStart => exact ⟨0, rfl, rfl, by omega, Below.refl _ _⟩
              case round =>
                obtain ⟨j, hgj, rfl, hj, HBy⟩ := hrel
                have HGJ := Lib.hid hgj
                clear hgj
                have HBZ := Lib.hid (HB9.out.trans (HBy.out.mono HB9.out.size))
                by_cases hjy : j < rl
                · obtain rfl := dR (by omega)
                  have hj0 : (0 : Int) ≤ (j : Int) := by omega
                  have hj1 : (j : Int) < (rl : Int) := by omega
                  have cY := cellB HBy.out (HFR.out j hjy)
                  obtain ⟨y, hy, hyn, hym⟩ := HRM.out j hjy
                  rw [hy] at cY
                  have hy0 : (0 : Int) ≤ (y : Int) := by omega
                  have hy1 : (y : Int) < (n0 : Int) := by omega
                  have eS := cellB HBZ.out (HFT.out y hyn)
                  rw [decide_eq_false hym] at eS
                  replace eS : wr.cell? ⟨ZB, y, none⟩ = some (.bool true) := eS
                  go_wp2
                  go_roundg (rl - (j + 1))
                  case measure => have := HGJ.out; omega
                  case rel => exact ⟨j + 1, rfl, by go_num, by omega, HBy⟩
                · have hj1 : ¬ (j : Int) < (rl : Int) := by omega
                  obtain rfl := d1 (by omega)
                  have q := (HBZ.out.block _ (Array.getElem?_eq_some_iff.1 HXE.out).1).trans HXE.out
                  have k0 := cell_of_row _ _ 0 _ _ _ q
                  have k1 := cell_of_row _ _ 1 _ _ _ q
                  have k2 := cell_of_row _ _ 2 _ _ _ q
                  have c1 := cellB HBZ.out (HF1.out k hlt)
                  have hp0 := HPZ.out k hlt
                  clear q
                  by_cases hpr : g.prio.getD k 0 % 2 = p
                  · generalize g.prio.getD k 0 = pk at *
                    go_wp2_with fail
                    go_roundg (n0 - (k + 1))
                    case measure => have := HGK.out; omega
                    case rel => exact ⟨k + 1, rfl, by go_num, by omega, HBZ⟩
                  · have HBD1 := Lib.hid (HBAD.out wr k HBZ.out hlt hmt hpr)
                    generalize g.prio.getD k 0 = pk at *
                    go_wp2_with fail
                    refine HBD1.out.mono ?_
                    rintro e w10 ⟨rfl, hb10⟩
                    have HB10 := Lib.hid (HBZ.out.trans (hb10.mono HBZ.out.size))
                    clear hb10 HBD1
                    go_wp2_with fail
                    go_roundg (n0 - (k + 1))
                    case measure => have := HGK.out; omega
                    case rel => exact ⟨k + 1, rfl, by go_num, by omega, HB10⟩
          · have hi1 : ¬ (k : Int) < (n0 : Int) := by omega
            go_wp2
            go_ret
            exact ⟨rfl, HBE.out.trans (HBx.out.mono HBE.out.size)⟩

end Go.Proofs.Ytijkjhcigdfdgaa
