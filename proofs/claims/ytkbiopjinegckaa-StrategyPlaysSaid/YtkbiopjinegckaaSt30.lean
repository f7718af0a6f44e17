/- The law StrategyExchange: its walk. -/
import Derived.Test.YtkbiopjinegckaaSt26
import Derived.Test.YtkbiopjinegckaaSt29
import Derived.Test.YtkbiopjinegckaaSt14
import Derived.Test.YtkbiopjinegckaaSt15
namespace Go.Proofs.Ytkbiopjinegckaa
open Go.RowKit

theorem small_rows {g : Gm} {m : Int} (h : smallB g m = true) : ∀ i, (g.succ.getD i []).length ≤ 1000 := fun i => by
  simp only [smallB, Bool.and_eq_true, List.all_eq_true, decide_eq_true_eq] at h
  by_cases hi : i < g.succ.length
  · rw [getD_lt _ _ _ hi]; have := h.2 _ (List.getElem_mem hi); omega
  · rw [List.getD, List.getElem?_eq_none (by omega)]; simp
/-- A game in a box whose priorities grow. -/
structure HBx (w : World) (z : Nat) (v0 v1 v2 : Value) (l : List Int) : Prop where
  box : w.heap[z]? = some (.cells #[v0, v1, v2] 25 (0, 0))
  p : OI w z v1 l
  ne : v1.ownBlock ≠ some z
theorem HBx.push {w w' : World} {z : Nat} {v0 v1 v2 v1' : Value} {l : List Int} {x : Int} (h : HBx w z v0 v1 v2 l) (ho : OI w' z v1' (l ++ [x])) (hg : w.grownBy w' v1.ownBlock) (hm : Moved w v1 v1') (hz : z ≤ w.heap.size) :
    w'.heap[z]? = some (.cells #[v0, v1, v2] 25 (0, 0)) ∧ HBx (w'.setCell ⟨z, 1, none⟩ v1') z v0 v1' v2 (l ++ [x]) ∧ Below z w (w'.setCell ⟨z, 1, none⟩ v1') := by
  have hl : z < w.heap.size := (Array.getElem?_eq_some_iff.1 h.box).1
  have hbox : w'.heap[z]? = some (.cells #[v0, v1, v2] 25 (0, 0)) := by rw [hg.block z hl (Ne.symm h.ne)]; exact h.box
  have hne : v1'.ownBlock ≠ some z := fun e => by
    rcases hm z e with k | k
    · exact h.ne k
    · omega
  exact ⟨hbox, ⟨heap_setCell_same w' z 1 _ _ v1' hbox, ho.setNe hne, hne⟩, ((Only.of_grown hg).below z (fun k hk => h.p.ge k hk) hz).setCell (Nat.le_refl z) _⟩
theorem winr3 {g : Gm} (P : Ph) (hv : validB g = true) (hp : ∀ i, i < g.owner.length → g.prio.getD i 0 ≤ 29998) : (winrB g P = -1 ∧ winrB (swapG g) P = -1 ∧ winrB (highG g) P = -1) ∨ (winrB g P = 0 ∧ winrB (swapG g) P = 1 ∧ winrB (highG g) P = 0) ∨ (winrB g P = 1 ∧ winrB (swapG g) P = 0 ∧ winrB (highG g) P = 1) := by
  rw [winr_high P hv hp]
  have h1 : winrB g P ≤ 1 := by
    unfold winrB
    split <;> omega
  rcases winr_swap P hv hp with ⟨h, h2⟩ | ⟨h, h2⟩
  · exact .inl ⟨h, h2, h⟩
  · omega
theorem high_take (g : Gm) (k : Nat) (hk : k < g.prio.length) : (g.prio.take (k + 1)).map (· + 2) = (g.prio.take k).map (· + 2) ++ [g.prio.getD k 0 + 2] := by
  rw [List.take_succ_eq_append_getElem hk, List.map_append, getD_lt _ _ _ hk]; rfl

def RE (p : Int) (bv bw : Bool) (vs vt : Value) (a0 a1 a2 h0 h1 h2 x0 : Option Addr) (n0 n1 n2 c0 c1 c2 i0 i1 i2 j0 j1 j2 y0 : Nat) (ix : Nat) (u : Value) (_ : World) : Prop :=
  match ix with
  | 0 => u = .bool true
  | 1 => u = .bool true
  | 2 => u = .agg #[.slice h0 i0 j0, .slice h1 i1 j1, .slice h2 i2 j2]
  | 3 => u = .int .i64 p
  | 4 => u = .int .i64 (1 - p)
  | 5 => u = vs
  | 6 => u = vt
  | 7 => u = .bool bv
  | 8 => u = .agg #[.slice a0 n0 c0, .slice a1 n1 c1, .slice a2 n2 c2]
  | 9 => u = .int .i64 p
  | 10 => u = vs
  | 11 => u = vt
  | 12 => u = .bool bv
  | 13 => u = .bool true
  | 14 => u = .bool true
  | 15 => u = .bool true
  | 16 => u = .agg #[.slice h0 i0 j0, .slice h1 i1 j1, .slice h2 i2 j2]
  | 17 => u = .int .i64 p
  | 18 => u = .int .i64 (1 - p)
  | 19 => u = vs
  | 20 => u = vt
  | 21 => u = .bool bw
  | 22 => u = .bool bw
  | 23 => u = .bool true
  | 24 => u = .bool true
  | 25 => u = .bool true
  | 26 => u = .agg #[.slice a0 n0 c0, .slice x0 n1 y0, .slice a2 n2 c2]
  | 27 => u = .int .i64 p
  | 28 => u = vs
  | 29 => u = vt
  | 30 => u = .bool bw
  | 31 => u = .bool bw
  | 32 => u = .bool true
  | 33 => u = .bool true
  | 34 => u = .bool true
  | _ => True

set_option maxRecDepth 100000 in
set_option maxHeartbeats 8000000 in
theorem Exch_walk (w : World) (vg vS vT vp : Value) (g : Gm) (sec : Bool) (set : List Bool) (s : List Int) (P : Ph) (hg : IsGame w vg g) (hs : IsBools w vS set) (ht : IsInts w vT s) (hp : IsPath w vp P) :
    Calls Try.prog 8 #[vg, .bool sec, vS, vT, vp] w (Calm (.bool true) w) := by
  have hmx : Try.prog.follows .mixedOrders = true := by kernel_rfl
  obtain ⟨a0, c0, a1, c1, a2, c2, rfl⟩ := hg.shape
  obtain ⟨p0, q0, p1, q1, rfl, hq0, hq1⟩ := hp.shape
  generalize hn0 : g.owner.length = n0 at *
  generalize hn1 : g.prio.length = n1 at *
  generalize hn2 : g.succ.length = n2 at *
  generalize hm0 : P.stem.length = m0 at *
  generalize hm1 : P.loop.length = m1 at *
  go_enter Try.func8, Try.ntmps8
  go_upto_region 1 with (fail)
  obtain ⟨hx, hz, hB⟩ : ((w.alloc (.cells #[.slice a0 n0 c0, .slice a1 n1 c1, .slice a2 n2 c2] 25)).alloc (.cells #[.slice p0 m0 q0, .slice p1 m1 q1] 28)).heap[w.heap.size]? = some (.cells #[.slice a0 n0 c0, .slice a1 n1 c1, .slice a2 n2 c2] 25 (0, 0)) ∧ ((w.alloc (.cells #[.slice a0 n0 c0, .slice a1 n1 c1, .slice a2 n2 c2] 25)).alloc (.cells #[.slice p0 m0 q0, .slice p1 m1 q1] 28)).heap[w.heap.size + 1]? = some (.cells #[.slice p0 m0 q0, .slice p1 m1 q1] 28 (0, 0)) ∧ Below w.heap.size w ((w.alloc (.cells #[.slice a0 n0 c0, .slice a1 n1 c1, .slice a2 n2 c2] 25)).alloc (.cells #[.slice p0 m0 q0, .slice p1 m1 q1] 28)) := ⟨(by (repeat (rw [alloc_get]; first | rw [if_pos (by first | (simp; done) | (simp; omega))] | rw [if_neg (by first | (simp; done) | (simp; omega))])); (try rfl)), (by (repeat (rw [alloc_get]; first | rw [if_pos (by first | (simp; done) | (simp; omega))] | rw [if_neg (by first | (simp; done) | (simp; omega))])); (try rfl)), (by repeat (first | exact Below.refl _ _ | assumption | (refine belA ?_ _) | (refine belD ?_ _)))⟩
  replace hg := hg.below hB
  replace hs := hs.below hB
  replace ht := ht.below hB
  replace hp := hp.below hB
  clear hq0 hq1
  generalize (w.alloc (.cells #[.slice a0 n0 c0, .slice a1 n1 c1, .slice a2 n2 c2] 25)).alloc (.cells #[.slice p0 m0 q0, .slice p1 m1 q1] 28) = w1 at *
  have HE : Hid (∀ W, Below w1.heap.size w1 W → Calm (.bool true) w (.returned (.bool true)) W) := fun W h => ⟨rfl, hB.trans (h.mono hB.size)⟩
  clear hB
  generalize w.heap.size + 1 = zp at *
  generalize w.heap.size = zg at *
  go_wp2_with fail
  refine (head_c _).mono ?_
  rintro e w2 ⟨rfl, hb⟩
  replace hx := (hb.block _ (Array.getElem?_eq_some_iff.1 hx).1).trans hx
  replace hz := (hb.block _ (Array.getElem?_eq_some_iff.1 hz).1).trans hz
  replace hg := hg.below hb
  replace hs := hs.below hb
  replace ht := ht.below hb
  replace hp := hp.below hb
  have k0 := cell_of_row _ _ 0 _ _ _ hx
  have k1 := cell_of_row _ _ 1 _ _ _ hx
  have k2 := cell_of_row _ _ 2 _ _ _ hx
  go_wp2_with fail
  refine (right_c _ _ _ _ g set s hg hs ht).mono ?_
  rintro e w3 ⟨rfl, hb3⟩
  replace hx := (hb3.block _ (Array.getElem?_eq_some_iff.1 hx).1).trans hx
  replace hz := (hb3.block _ (Array.getElem?_eq_some_iff.1 hz).1).trans hz
  replace hg := hg.below hb3
  replace hs := hs.below hb3
  replace ht := ht.below hb3
  replace hp := hp.below hb3
  replace hb := hb.trans (hb3.mono hb.size)
  clear k0 k1 k2 hb3
  have l0 := cell_of_row _ _ 0 _ _ _ hz
  have l1 := cell_of_row _ _ 1 _ _ _ hz
  cases hr : rightB g set s
  · go_wp2_with fail
    go_ret
    exact HE.out _ hb
  by_cases h0 : m0 ≤ 40
  case neg =>
    have hgt : decide ((m0 : Int) > 40) = true := decide_eq_true (by omega)
    go_wp2_with fail
    go_ret
    exact HE.out _ hb
  have hgt0 : decide ((m0 : Int) > 40) = false := decide_eq_false (by omega)
  by_cases h1 : m1 ≤ 40
  case neg =>
    have hgt : decide ((m1 : Int) > 40) = true := decide_eq_true (by omega)
    go_wp2_with fail
    go_ret
    exact HE.out _ hb
  have hgt1 : decide ((m1 : Int) > 40) = false := decide_eq_false (by omega)
  have HW : Hid (P.stem.length + P.loop.length ≤ 90000) := (by omega : P.stem.length + P.loop.length ≤ 90000)
  simp only [rightB, Bool.and_eq_true, decide_eq_true_eq] at hr
  obtain ⟨⟨⟨hsm, hv⟩, hl1⟩, hl2⟩ := hr
  have HR := Lib.hid (small_rows hsm)
  have HV := Lib.hid hv
  obtain ⟨ln0, ln1, ln2⟩ := valid_lens hv
  have HON : Hid (g.owner.length ≤ 3000 ∧ n1 = g.owner.length ∧ n2 = g.owner.length) := ⟨ln0, by omega, by omega⟩
  have HPB : Hid (∀ i, i < g.owner.length → 0 ≤ g.prio.getD i 0) := fun i hi => (valid_at hv i hi).2.1.1
  have HN1 := Lib.hid hn1
  have HN0 := Lib.hid hn0
  clear h0 h1 hsm hv hl1 hl2 ln0 ln1 ln2 hm0 hm1 hn0 hn1 hn2
  go_wp2_with fail
  refine (player_c _ sec).mono ?_
  rintro e w4 ⟨rfl, hb3⟩
  replace hx := (hb3.block _ (Array.getElem?_eq_some_iff.1 hx).1).trans hx
  replace hz := (hb3.block _ (Array.getElem?_eq_some_iff.1 hz).1).trans hz
  replace hg := hg.below hb3
  replace hs := hs.below hb3
  replace ht := ht.below hb3
  replace hp := hp.below hb3
  replace hb := hb.trans (hb3.mono hb.size)
  clear hb3 l0 l1 hgt0 hgt1
  obtain ⟨p, hpe, hp01⟩ : ∃ p, plI sec = p ∧ (p = 0 ∨ p = 1) := ⟨_, rfl, by cases sec <;> simp [plI]⟩
  rw [hpe]
  have HP1 := Lib.hid hp01
  clear hpe hp01
  have k0 := cell_of_row _ _ 0 _ _ _ hx
  have k1 := cell_of_row _ _ 1 _ _ _ hx
  have k2 := cell_of_row _ _ 2 _ _ _ hx
  go_wp2_with fail
  refine (Swap_c _ _ g hg HR.out).mono ?_
  rintro e w5 ⟨vh, rfl, hh, hb3⟩
  obtain ⟨h0, j0, h1, j1, h2, j2, rfl⟩ := hh.shape
  replace hx := (hb3.block _ (Array.getElem?_eq_some_iff.1 hx).1).trans hx
  replace hz := (hb3.block _ (Array.getElem?_eq_some_iff.1 hz).1).trans hz
  replace hg := hg.below hb3
  replace hs := hs.below hb3
  replace ht := ht.below hb3
  replace hp := hp.below hb3
  replace hb := hb.trans (hb3.mono hb.size)
  clear k0 k1 k2 hb3
  generalize hi0 : (swapR g).owner.length = i0 at *
  generalize hi1 : (swapR g).prio.length = i1 at *
  generalize hi2 : (swapR g).succ.length = i2 at *
  clear hi0 hi1 hi2
  go_upto_region 6 with (fail)
  obtain ⟨xh, hb3, -⟩ := box_new hb hb.size #[.slice h0 i0 j0, .slice h1 i1 j1, .slice h2 i2 j2] 25
  replace hx := (hb3.block _ (Array.getElem?_eq_some_iff.1 hx).1).trans hx
  replace hz := (hb3.block _ (Array.getElem?_eq_some_iff.1 hz).1).trans hz
  replace hg := hg.below hb3
  replace hs := hs.below hb3
  replace ht := ht.below hb3
  replace hp := hp.below hb3
  replace hh := hh.below hb3
  replace hb := hb.trans (hb3.mono hb.size)
  clear hb3
  generalize w5.alloc (.cells #[.slice h0 i0 j0, .slice h1 i1 j1, .slice h2 i2 j2] 25) = w6 at *
  generalize w5.heap.size = zh at *
  have k0 := cell_of_row _ _ 0 _ _ _ hx
  have k1 := cell_of_row _ _ 1 _ _ _ hx
  have k2 := cell_of_row _ _ 2 _ _ _ hx
  go_upto_region 7 with (fail)
  clear k0 k1 k2
  have hHB : HBx (w6.alloc (.cells #[.slice a0 n0 c0, .slice none 0 0, .slice a2 n2 c2] 25)) w6.heap.size (.slice a0 n0 c0) (.slice none 0 0) (.slice a2 n2 c2) [] := ⟨heap_alloc_new _ _, OI_nil _ _, by simp [Value.ownBlock]⟩
  have hb7 : Below w6.heap.size w6 (w6.alloc (.cells #[.slice a0 n0 c0, .slice none 0 0, .slice a2 n2 c2] 25)) := bel_box _
  generalize w6.alloc (.cells #[.slice a0 n0 c0, .slice none 0 0, .slice a2 n2 c2] 25) = w7 at *
  obtain ⟨zz, hzz⟩ : ∃ z, z = w6.heap.size := ⟨_, rfl⟩
  rw [← hzz] at hHB hb7 ⊢
  have HG0 : Hid (IsGame w6 (.agg #[.slice a0 n0 c0, .slice a1 n1 c1, .slice a2 n2 c2]) g) := hg
  have hdp : ∃ b o, (0 < n1 → a1 = some ⟨b, o, none⟩) ∧ n1 ≤ 140737488351232 ∧ ∀ j, j < n1 → w6.cell? ⟨b, o + j, none⟩ = some (.int .i64 (g.prio.getD j 0)) := by
    obtain ⟨u0, u1, u2, e, -, i1', -⟩ := hg
    simp only [Value.agg.injEq, Array.mk.injEq, List.cons.injEq, and_true] at e
    obtain ⟨rfl, rfl, rfl⟩ := e
    exact i1'.data
  obtain ⟨bp, op, had, mn, hel⟩ := hdp
  have HEL := Lib.hid hel
  have HX : Hid (∀ W, Below zz w6 W → W.cell? ⟨zg, 1, none⟩ = some (.slice a1 n1 c1)) := fun W h => cell_of_row _ _ 1 _ _ _ ((h.block _ (by rw [hzz]; exact (Array.getElem?_eq_some_iff.1 hx).1)).trans hx)
  have HHB := Lib.hid hHB
  have HB7 := Lib.hid hb7
  have HS6 : Hid (∀ W, Below zz w6 W → w6.heap[zg]? = W.heap[zg]? ∧ w6.heap[zp]? = W.heap[zp]? ∧ w6.heap[zh]? = W.heap[zh]? ∧ IsGame W (.agg #[.slice a0 n0 c0, .slice a1 n1 c1, .slice a2 n2 c2]) g ∧ IsBools W vS set ∧ IsInts W vT s ∧ IsPath W (.agg #[.slice p0 m0 q0, .slice p1 m1 q1]) P ∧ IsGame W (.agg #[.slice h0 i0 j0, .slice h1 i1 j1, .slice h2 i2 j2]) (swapR g)) := fun W h => by
    have h' : Below w6.heap.size w6 W := hzz ▸ h
    exact ⟨(h'.block _ (Array.getElem?_eq_some_iff.1 hx).1).symm, (h'.block _ (Array.getElem?_eq_some_iff.1 hz).1).symm, (h'.block _ (Array.getElem?_eq_some_iff.1 xh).1).symm, hg.below h', hs.below h', ht.below h', hp.below h', hh.below h'⟩
  have HXX : Hid (w6.heap[zg]? = some (.cells #[.slice a0 n0 c0, .slice a1 n1 c1, .slice a2 n2 c2] 25 (0, 0)) ∧ w6.heap[zp]? = some (.cells #[.slice p0 m0 q0, .slice p1 m1 q1] 28 (0, 0)) ∧ w6.heap[zh]? = some (.cells #[.slice h0 i0 j0, .slice h1 i1 j1, .slice h2 i2 j2] 25 (0, 0))) := ⟨hx, hz, xh⟩
  have HZ := Lib.hid hzz
  have HBT := Lib.hid hb
  clear hHB hb7 hg hs ht hp hh hx hz xh hel hzz hb
  go_wp2_with fail
  go_loopg [15] n1 (fun gh i wr => ∃ (k : Nat) (x : Value), gh = n1 - k ∧ i = .int .i64 k ∧ k ≤ n1 ∧ Hid (HBx wr zz (.slice a0 n0 c0) x (.slice a2 n2 c2) ((g.prio.take k).map (· + 2))) ∧ Below zz w6 wr ∧ zz ≤ wr.heap.size ∧ Hid (∀ j, j < k → g.prio.getD j 0 ≤ 1000))
  case atStart => exact ⟨0, _, rfl, rfl, by omega, HHB, HB7.out, by have := (Array.getElem?_eq_some_iff.1 HHB.out.box).1; omega, fun j hj => absurd hj (by omega)⟩
  case round =>
    obtain ⟨k, x, hgk, rfl, hk, hH, hB, hzs, hP⟩ := hrel
    have HG := Lib.hid hgk
    clear hgk
    have d1 := HX.out wr hB
    have HBO := Lib.hid hB
    clear hB
    by_cases hlt : k < n1
    · obtain rfl := had (by omega)
      have hcl : wr.cell? ⟨bp, op + k, none⟩ = some (.int .i64 (g.prio.getD k 0)) := by
        have h6 := HEL.out k hlt
        exact cellB (HZ.out ▸ HBO.out) h6
      have hpb := HPB.out k (by have := HON.out.2.1; omega)
      have HGN : Hid (k < g.prio.length) := (by rw [HN1.out]; exact hlt : k < g.prio.length)
      have HTK := Lib.hid (high_take g k HGN.out)
      obtain ⟨pw, hpw⟩ : ∃ pw, g.prio.getD k 0 = pw := ⟨_, rfl⟩
      rw [hpw] at hcl hpb HTK
      have HPW := Lib.hid hpw
      clear hpw
      cases hbig : decide (pw > 1000)
      case true =>
        go_wp2_with fail
        go_ret
        exact HE.out _ (HBT.out.trans ((HZ.out ▸ HBO.out).mono HBT.out.size))
      case false =>
        have hle : pw ≤ 1000 := by have := of_decide_eq_false hbig; omega
        have hwr1 : IntKind.i64.wrap (pw + 2) = pw + 2 := IntWalk.i64_in _ ⟨by omega, by omega⟩
        have q0 : wr.cell? ⟨zz, 1, none⟩ = some x := cell_of_row _ _ 1 _ _ _ hH.out.box
        have hGo : OI wr zz x ((g.prio.take k).map (· + 2)) := hH.out.p
        have hlen : ((g.prio.take k).map (· + 2)).length ≤ 3000 := by have := HON.out; rw [List.length_map, List.length_take]; omega
        obtain ⟨L, hL⟩ : ∃ L, (g.prio.take k).map (· + 2) = L := ⟨_, rfl⟩
        rw [hL] at hGo hlen hH
        have hi0 : (0 : Int) ≤ k := Int.natCast_nonneg _
        have hi1 : (k : Int) < n1 := by omega
        have HLE := Lib.hid hL
        clear hL
        go_upto_region 12 with (fail)
        have hzl : zz < wr.heap.size := (Array.getElem?_eq_some_iff.1 hH.out.box).1
        have HZS := Lib.hid hzs
        go_region_law ((rw [if_pos (by rfl)]; refine wp_app_int wr _ _ (pw + 2) (by rfl) zz x _ (by rfl) hGo (by rfl) (by omega) HZS.out ?_; intro y0 w8 hown6 hg6 hmv6; obtain ⟨aoy, capy, hvy⟩ := hown6.slice; rw [List.length_append, List.length_singleton] at hvy; subst hvy; have HST := Lib.hid (hH.out.push hown6 hg6 hmv6 HZS.out); have k0 : w8.cell? ⟨zz, 1, none⟩ = some x := cell_of_row _ _ 1 _ _ _ HST.out.1; have f0 : w8.frozen? ⟨zz, 1, none⟩ = false := frozen_of_row _ _ 1 _ _ HST.out.1))
        all_goals
          go_wp2_with fail
          clear q0 hGo hcl d1 k0 f0 hown6 hg6 hmv6
          go_roundg (n1 - (k + 1))
          case measure => have := HG.out; omega
          case rel =>
            refine ⟨k + 1, _, rfl, by go_num, by omega, (by show HBx _ _ _ _ _ _; rw [HTK.out, HLE.out]; exact HST.out.2.1), HBO.out.trans HST.out.2.2, (by have := (Array.getElem?_eq_some_iff.1 HST.out.2.1.box).1; omega), ?_⟩
            intro j hj
            by_cases e : j < k
            · exact hP.out j e
            · obtain rfl : j = k := by omega
              rw [HPW.out]; exact hle
    · obtain rfl : k = n1 := by omega
      have HF : Hid (∀ i, i < g.owner.length → g.prio.getD i 0 ≤ 1000) := fun i hi => hP.out i (by have := HON.out.2.1; omega)
      have hpl : g.prio.take k = g.prio := by rw [← HN1.out]; exact List.take_length
      have hsw : swapR g = swapG g := by
        unfold swapR
        rw [HV.out, show inB 29999 g.prio = true from List.all_eq_true.2 fun y hy => by
          obtain ⟨j, hj, rfl⟩ := List.getElem_of_mem hy
          have h1 := HF.out j (by have := HON.out.2.1; have := HN1.out; omega)
          have h2 := HPB.out j (by have := HON.out.2.1; have := HN1.out; omega)
          rw [getD_lt _ _ _ hj] at h1 h2
          simp; omega]
        rfl
      obtain ⟨e1, e2, e3, hg, hs, ht, hp, hh⟩ := HS6.out wr HBO.out
      rw [hsw] at hh
      have hx := e1 ▸ HXX.out.1
      have hz := e2 ▸ HXX.out.2.1
      have xh := e3 ▸ HXX.out.2.2
      rw [hpl] at hH
      obtain ⟨x0, y0, rfl⟩ := hH.out.p.slice
      have hi : IsGame wr (.agg #[.slice a0 n0 c0, .slice x0 (g.prio.map (· + 2)).length y0, .slice a2 n2 c2]) (highG g) := by
        obtain ⟨u0, u1, u2, e, i0', -, i2'⟩ := hg
        simp only [Value.agg.injEq, Array.mk.injEq, List.cons.injEq, and_true] at e
        obtain ⟨rfl, rfl, rfl⟩ := e
        refine ⟨_, _, _, rfl, i0', hH.out.p.is (by have := HON.out; have := HN1.out; rw [List.length_map]; simp only [maxN]; omega) (fun y hy => ?_), i2'⟩
        obtain ⟨z, hz, rfl⟩ := List.mem_map.1 hy
        obtain ⟨j, hj, rfl⟩ := List.getElem_of_mem hz
        have h1 := HF.out j (by have := HON.out.2.1; have := HN1.out; omega)
        have h2 := HPB.out j (by have := HON.out.2.1; have := HN1.out; omega)
        rw [getD_lt _ _ _ hj] at h1 h2
        unfold I64; omega
      have xi := hH.out.box
      rw [show (g.prio.map (· + 2)).length = k from by rw [List.length_map]; exact HN1.out] at hi xi
      have hb := HBT.out.trans ((HZ.out ▸ HBO.out).mono HBT.out.size)
      have hW3 := winr3 P HV.out (fun i hi => by have := HF.out i hi; omega)
      have HSS : Hid (stB (swapG g) (1 - p) set s = stB g p set s ∧ winB (swapG g) (1 - p) set s = winB g p set s) := swap_same set s HV.out (fun i hi => by have := HF.out i hi; omega)
      have HHS : Hid (winB (highG g) p set s = winB g p set s) := high_same set s HV.out (fun i hi => by have := HF.out i hi; omega)
      clear hH hP HF hpl hsw e1 e2 e3 HBO HXX HS6 HHB HB7 HX HEL had mn d1 HG HBT
      have k0 := cell_of_row _ _ 0 _ _ _ hx
      have k1 := cell_of_row _ _ 1 _ _ _ hx
      have k2 := cell_of_row _ _ 2 _ _ _ hx
      have l0 := cell_of_row _ _ 0 _ _ _ hz
      have l1 := cell_of_row _ _ 1 _ _ _ hz
      go_wp2_with fail
      refine (Winner_c _ _ _ g P hg hp HW.out).mono ?_
      rintro e w9 ⟨rfl, hb3⟩
      replace hx := (hb3.block _ (Array.getElem?_eq_some_iff.1 hx).1).trans hx
      replace hz := (hb3.block _ (Array.getElem?_eq_some_iff.1 hz).1).trans hz
      replace xh := (hb3.block _ (Array.getElem?_eq_some_iff.1 xh).1).trans xh
      replace xi := (hb3.block _ (Array.getElem?_eq_some_iff.1 xi).1).trans xi
      replace hg := hg.below hb3
      replace hs := hs.below hb3
      replace ht := ht.below hb3
      replace hp := hp.below hb3
      replace hh := hh.below hb3
      replace hi := hi.below hb3
      replace hb := hb.trans (hb3.mono hb.size)
      clear k0 k1 k2 l0 l1 hb3
      have k0 := cell_of_row _ _ 0 _ _ _ xh
      have k1 := cell_of_row _ _ 1 _ _ _ xh
      have k2 := cell_of_row _ _ 2 _ _ _ xh
      have l0 := cell_of_row _ _ 0 _ _ _ hz
      have l1 := cell_of_row _ _ 1 _ _ _ hz
      go_wp2_with fail
      refine (Winner_c _ _ _ (swapG g) P hh hp HW.out).mono ?_
      rintro e w10 ⟨rfl, hb3⟩
      replace hx := (hb3.block _ (Array.getElem?_eq_some_iff.1 hx).1).trans hx
      replace hz := (hb3.block _ (Array.getElem?_eq_some_iff.1 hz).1).trans hz
      replace xh := (hb3.block _ (Array.getElem?_eq_some_iff.1 xh).1).trans xh
      replace xi := (hb3.block _ (Array.getElem?_eq_some_iff.1 xi).1).trans xi
      replace hg := hg.below hb3
      replace hs := hs.below hb3
      replace ht := ht.below hb3
      replace hp := hp.below hb3
      replace hh := hh.below hb3
      replace hi := hi.below hb3
      replace hb := hb.trans (hb3.mono hb.size)
      clear k0 k1 k2 l0 l1 hb3
      have HBT := Lib.hid hb
      clear hb
      rcases hW3 with ⟨r1, r2, r3⟩ | ⟨r1, r2, r3⟩ | ⟨r1, r2, r3⟩
      all_goals
        rw [r1, r2]
        have k0 := cell_of_row _ _ 0 _ _ _ xi
        have k1 := cell_of_row _ _ 1 _ _ _ xi
        have k2 := cell_of_row _ _ 2 _ _ _ xi
        have l0 := cell_of_row _ _ 0 _ _ _ hz
        have l1 := cell_of_row _ _ 1 _ _ _ hz
        have hb := HBT.out
        go_wp2_with fail
        refine (Winner_c _ _ _ (highG g) P hi hp HW.out).mono ?_
        rw [r3]
        rintro e w11 ⟨rfl, hb3⟩
        replace hx := (hb3.block _ (Array.getElem?_eq_some_iff.1 hx).1).trans hx
        replace hz := (hb3.block _ (Array.getElem?_eq_some_iff.1 hz).1).trans hz
        replace xh := (hb3.block _ (Array.getElem?_eq_some_iff.1 xh).1).trans xh
        replace xi := (hb3.block _ (Array.getElem?_eq_some_iff.1 xi).1).trans xi
        replace hg := hg.below hb3
        replace hs := hs.below hb3
        replace ht := ht.below hb3
        replace hp := hp.below hb3
        replace hh := hh.below hb3
        replace hi := hi.below hb3
        replace hb := hb.trans (hb3.mono hb.size)
        clear k0 k1 k2 l0 l1 hb3 r1 r2 r3 hz hp
        have k0 := cell_of_row _ _ 0 _ _ _ hx
        have k1 := cell_of_row _ _ 1 _ _ _ hx
        have k2 := cell_of_row _ _ 2 _ _ _ hx
        go_wp2_with fail
        refine (Wins_c _ _ _ _ g p set s hg hs ht).mono ?_
        rintro e w12 ⟨rfl, hb3⟩
        replace hx := (hb3.block _ (Array.getElem?_eq_some_iff.1 hx).1).trans hx
        replace xh := (hb3.block _ (Array.getElem?_eq_some_iff.1 xh).1).trans xh
        replace xi := (hb3.block _ (Array.getElem?_eq_some_iff.1 xi).1).trans xi
        replace hg := hg.below hb3
        replace hs := hs.below hb3
        replace ht := ht.below hb3
        replace hh := hh.below hb3
        replace hi := hi.below hb3
        replace hb := hb.trans (hb3.mono hb.size)
        clear k0 k1 k2 hb3
        go_wp2_with fail
        have HB1 : Hid (∀ W, Below w12.drew.heap.size w12.drew W → Below w12.heap.size w12 W) := fun W h => (Below.drew (B := w12.heap.size) (Below.refl _ _)).trans h
        have HG : Hid (∀ W, Below w12.drew.heap.size w12.drew W → W.cell? ⟨zg, 0, none⟩ = some (.slice a0 n0 c0) ∧ W.cell? ⟨zg, 1, none⟩ = some (.slice a1 k c1) ∧ W.cell? ⟨zg, 2, none⟩ = some (.slice a2 n2 c2)) := fun W h => by
          have k := ((HB1.out W h).block _ (Array.getElem?_eq_some_iff.1 hx).1).trans hx
          exact ⟨cell_of_row _ _ 0 _ _ _ k, cell_of_row _ _ 1 _ _ _ k, cell_of_row _ _ 2 _ _ _ k⟩
        have HH : Hid (∀ W, Below w12.drew.heap.size w12.drew W → W.cell? ⟨zh, 0, none⟩ = some (.slice h0 i0 j0) ∧ W.cell? ⟨zh, 1, none⟩ = some (.slice h1 i1 j1) ∧ W.cell? ⟨zh, 2, none⟩ = some (.slice h2 i2 j2)) := fun W h => by
          have k := ((HB1.out W h).block _ (Array.getElem?_eq_some_iff.1 xh).1).trans xh
          exact ⟨cell_of_row _ _ 0 _ _ _ k, cell_of_row _ _ 1 _ _ _ k, cell_of_row _ _ 2 _ _ _ k⟩
        have HI : Hid (∀ W, Below w12.drew.heap.size w12.drew W → W.cell? ⟨zz, 0, none⟩ = some (.slice a0 n0 c0) ∧ W.cell? ⟨zz, 1, none⟩ = some (.slice x0 k y0) ∧ W.cell? ⟨zz, 2, none⟩ = some (.slice a2 n2 c2)) := fun W h => by
          have k := ((HB1.out W h).block _ (Array.getElem?_eq_some_iff.1 xi).1).trans xi
          exact ⟨cell_of_row _ _ 0 _ _ _ k, cell_of_row _ _ 1 _ _ _ k, cell_of_row _ _ 2 _ _ _ k⟩
        obtain ⟨bv, hbv⟩ : ∃ b, b = stB g p set s := ⟨_, rfl⟩
        obtain ⟨bw, hbw⟩ : ∃ b, b = winB g p set s := ⟨_, rfl⟩
        rw [← hbw]
        have HV1 : Hid (∀ W, Below w12.heap.size w12 W → Calls Try.prog 13 #[.agg #[.slice a0 n0 c0, .slice a1 k c1, .slice a2 n2 c2], .int .i64 p, vS, vT] W (Calm (.bool bv) W)) := fun W h => by
          rw [hbv]
          exact StValid_c W _ _ _ g p set s (hg.below h) (hs.below h) (ht.below h)
        have HV2 : Hid (∀ W, Below w12.heap.size w12 W → Calls Try.prog 13 #[.agg #[.slice h0 i0 j0, .slice h1 i1 j1, .slice h2 i2 j2], .int .i64 (1 - p), vS, vT] W (Calm (.bool bv) W)) := fun W h => by
          rw [hbv, ← HSS.out.1]
          exact StValid_c W _ _ _ (swapG g) (1 - p) set s (hh.below h) (hs.below h) (ht.below h)
        have HW2 : Hid (∀ W, Below w12.heap.size w12 W → Calls Try.prog 15 #[.agg #[.slice h0 i0 j0, .slice h1 i1 j1, .slice h2 i2 j2], .int .i64 (1 - p), vS, vT] W (Calm (.bool bw) W)) := fun W h => by
          rw [hbw, ← HSS.out.2]
          exact Wins_c W _ _ _ (swapG g) (1 - p) set s (hh.below h) (hs.below h) (ht.below h)
        have HW3 : Hid (∀ W, Below w12.heap.size w12 W → Calls Try.prog 15 #[.agg #[.slice a0 n0 c0, .slice x0 k y0, .slice a2 n2 c2], .int .i64 p, vS, vT] W (Calm (.bool bw) W)) := fun W h => by
          rw [hbw, ← HHS.out]
          exact Wins_c W _ _ _ (highG g) p set s (hi.below h) (hs.below h) (ht.below h)
        have hee : (bv == bv) = true := by simp
        have hww : (bw == bw) = true := by simp
        have hwr : IntKind.i64.wrap (1 - p) = 1 - p := by rcases HP1.out with e | e <;> rw [e] <;> rfl
        clear hx xh xi hg hs ht hh hi hbv hbw HSS HHS
        have HBT := Lib.hid hb
        clear hb
        refine region_stable hmx (RE p bv bw vS vT a0 a1 a2 h0 h1 h2 x0 n0 k n2 c0 c1 c2 i0 i1 i2 j0 j1 j2 y0) (fun vs => { tmps := (_ :: _ :: _ :: _ :: _ :: _ :: _ :: _ :: _ :: _ :: vs 34 :: _ :: _ :: _ :: _ :: _ :: _ :: _ :: _ :: _ :: _ :: _ :: _ :: _ :: _ :: _ :: _ :: _ :: _ :: _ :: _ :: _ :: _ :: _ :: _ :: _ :: _ :: _ :: _ :: _ :: _ :: _ :: _ :: _ :: _ :: _ :: _ :: _ :: _ :: _ :: _ :: _ :: _ :: _ :: _ :: _ :: _ :: _ :: _ :: _ :: _ :: _ :: _ :: _ :: _ :: _ :: _ :: _ :: _ :: _ :: _ :: _ :: _ :: _ :: _ :: _ :: _ :: _ :: _ :: _ :: _ :: _ :: _ :: _ :: _ :: _ :: _ :: _ :: _ :: _ :: _ :: _ :: _ :: _ :: _ :: _ :: _ :: _ :: _ :: _ :: _ :: _ :: _ :: _ :: _ :: vs 0 :: vs 1 :: vs 2 :: vs 3 :: vs 4 :: vs 5 :: vs 6 :: vs 7 :: vs 8 :: vs 9 :: vs 10 :: vs 11 :: vs 12 :: vs 13 :: vs 14 :: vs 15 :: vs 16 :: vs 17 :: vs 18 :: vs 19 :: vs 20 :: vs 21 :: vs 22 :: vs 23 :: vs 24 :: vs 25 :: vs 26 :: vs 27 :: vs 28 :: vs 29 :: vs 30 :: vs 31 :: vs 32 :: vs 33 :: []).toArray, defers := _ }) (fun k => if k = 34 then u10 else undef) rfl (by kernel_rfl) (fun _ _ _ _ h _ => h) ?step ?fin
        case step =>
          intro ix o ho
          match ix, ho with
          | 0, ho =>
            obtain rfl := Option.some.inj ho
            intro vs W K hB hD hK
            have HK := Lib.hid hK
            clear hK hD ho
            dsimp only
            go_simp
            have h := HK.out _ _ (Below.refl _ _) rfl
            simp only [upd, Nat.reduceEqDiff, reduceIte] at h
            exact h
          | 1, ho =>
            obtain rfl := Option.some.inj ho
            intro vs W K hB hD hK
            have HK := Lib.hid hK
            have e0 : vs 0 = .bool true := dep_of hD 0 (by rfl)
            clear hK hD ho
            dsimp only
            go_simp
            have h := HK.out _ _ (Below.refl _ _) rfl
            simp only [upd, Nat.reduceEqDiff, reduceIte, e0] at h
            exact h
          | 2, ho =>
            obtain rfl := Option.some.inj ho
            intro vs W K hB hD hK
            have HK := Lib.hid hK
            have e1 : vs 1 = .bool true := dep_of hD 1 (by rfl)
            obtain ⟨d0, d1, d2⟩ := HH.out W hB
            clear hK hD ho
            dsimp only
            go_simp
            have h := HK.out _ _ (Below.refl _ _) rfl
            simp only [upd, Nat.reduceEqDiff, reduceIte, e1] at h
            exact h
          | 3, ho =>
            obtain rfl := Option.some.inj ho
            intro vs W K hB hD hK
            have HK := Lib.hid hK
            have e1 : vs 1 = .bool true := dep_of hD 1 (by rfl)
            clear hK hD ho
            dsimp only
            go_simp
            have h := HK.out _ _ (Below.refl _ _) rfl
            simp only [upd, Nat.reduceEqDiff, reduceIte, e1] at h
            exact h
          | 4, ho =>
            obtain rfl := Option.some.inj ho
            intro vs W K hB hD hK
            have HK := Lib.hid hK
            have e1 : vs 1 = .bool true := dep_of hD 1 (by rfl)
            have e3 : vs 3 = .int .i64 p := dep_of hD 3 (by rfl)
            clear hK hD ho
            dsimp only
            go_simp
            have h := HK.out _ _ (Below.refl _ _) rfl
            simp only [upd, Nat.reduceEqDiff, reduceIte, e1, e3] at h
            exact h
          | 5, ho =>
            obtain rfl := Option.some.inj ho
            intro vs W K hB hD hK
            have HK := Lib.hid hK
            have e1 : vs 1 = .bool true := dep_of hD 1 (by rfl)
            clear hK hD ho
            dsimp only
            go_simp
            have h := HK.out _ _ (Below.refl _ _) rfl
            simp only [upd, Nat.reduceEqDiff, reduceIte, e1] at h
            exact h
          | 6, ho =>
            obtain rfl := Option.some.inj ho
            intro vs W K hB hD hK
            have HK := Lib.hid hK
            have e1 : vs 1 = .bool true := dep_of hD 1 (by rfl)
            clear hK hD ho
            dsimp only
            go_simp
            have h := HK.out _ _ (Below.refl _ _) rfl
            simp only [upd, Nat.reduceEqDiff, reduceIte, e1] at h
            exact h
          | 7, ho =>
            obtain rfl := Option.some.inj ho
            intro vs W K hB hD hK
            have HK := Lib.hid hK
            have e1 : vs 1 = .bool true := dep_of hD 1 (by rfl)
            have e2 : vs 2 = .agg #[.slice h0 i0 j0, .slice h1 i1 j1, .slice h2 i2 j2] := dep_of hD 2 (by rfl)
            have e4 : vs 4 = .int .i64 (1 - p) := dep_of hD 4 (by rfl)
            have e5 : vs 5 = vS := dep_of hD 5 (by rfl)
            have e6 : vs 6 = vT := dep_of hD 6 (by rfl)
            clear hK hD ho
            dsimp only
            go_simp
            refine (HV2.out W (HB1.out W hB)).mono ?_
            rintro e W' ⟨rfl, hb⟩
            have h := HK.out _ _ hb rfl
            simp only [upd, Nat.reduceEqDiff, reduceIte, e1, e2, e4, e5, e6] at h
            exact h
          | 8, ho =>
            obtain rfl := Option.some.inj ho
            intro vs W K hB hD hK
            have HK := Lib.hid hK
            have e1 : vs 1 = .bool true := dep_of hD 1 (by rfl)
            obtain ⟨d0, d1, d2⟩ := HG.out W hB
            clear hK hD ho
            dsimp only
            go_simp
            have h := HK.out _ _ (Below.refl _ _) rfl
            simp only [upd, Nat.reduceEqDiff, reduceIte, e1] at h
            exact h
          | 9, ho =>
            obtain rfl := Option.some.inj ho
            intro vs W K hB hD hK
            have HK := Lib.hid hK
            have e1 : vs 1 = .bool true := dep_of hD 1 (by rfl)
            clear hK hD ho
            dsimp only
            go_simp
            have h := HK.out _ _ (Below.refl _ _) rfl
            simp only [upd, Nat.reduceEqDiff, reduceIte, e1] at h
            exact h
          | 10, ho =>
            obtain rfl := Option.some.inj ho
            intro vs W K hB hD hK
            have HK := Lib.hid hK
            have e1 : vs 1 = .bool true := dep_of hD 1 (by rfl)
            clear hK hD ho
            dsimp only
            go_simp
            have h := HK.out _ _ (Below.refl _ _) rfl
            simp only [upd, Nat.reduceEqDiff, reduceIte, e1] at h
            exact h
          | 11, ho =>
            obtain rfl := Option.some.inj ho
            intro vs W K hB hD hK
            have HK := Lib.hid hK
            have e1 : vs 1 = .bool true := dep_of hD 1 (by rfl)
            clear hK hD ho
            dsimp only
            go_simp
            have h := HK.out _ _ (Below.refl _ _) rfl
            simp only [upd, Nat.reduceEqDiff, reduceIte, e1] at h
            exact h
          | 12, ho =>
            obtain rfl := Option.some.inj ho
            intro vs W K hB hD hK
            have HK := Lib.hid hK
            have e1 : vs 1 = .bool true := dep_of hD 1 (by rfl)
            have e8 : vs 8 = .agg #[.slice a0 n0 c0, .slice a1 k c1, .slice a2 n2 c2] := dep_of hD 8 (by rfl)
            have e9 : vs 9 = .int .i64 p := dep_of hD 9 (by rfl)
            have e10 : vs 10 = vS := dep_of hD 10 (by rfl)
            have e11 : vs 11 = vT := dep_of hD 11 (by rfl)
            clear hK hD ho
            dsimp only
            go_simp
            refine (HV1.out W (HB1.out W hB)).mono ?_
            rintro e W' ⟨rfl, hb⟩
            have h := HK.out _ _ hb rfl
            simp only [upd, Nat.reduceEqDiff, reduceIte, e1, e8, e9, e10, e11] at h
            exact h
          | 13, ho =>
            obtain rfl := Option.some.inj ho
            intro vs W K hB hD hK
            have HK := Lib.hid hK
            have e1 : vs 1 = .bool true := dep_of hD 1 (by rfl)
            have e7 : vs 7 = .bool bv := dep_of hD 7 (by rfl)
            have e12 : vs 12 = .bool bv := dep_of hD 12 (by rfl)
            clear hK hD ho
            dsimp only
            go_simp
            have h := HK.out _ _ (Below.refl _ _) rfl
            simp only [upd, Nat.reduceEqDiff, reduceIte, e1, e7, e12] at h
            exact h
          | 14, ho =>
            obtain rfl := Option.some.inj ho
            intro vs W K hB hD hK
            have HK := Lib.hid hK
            have e1 : vs 1 = .bool true := dep_of hD 1 (by rfl)
            have e13 : vs 13 = .bool true := dep_of hD 13 (by rfl)
            clear hK hD ho
            dsimp only
            go_simp
            have h := HK.out _ _ (Below.refl _ _) rfl
            simp only [upd, Nat.reduceEqDiff, reduceIte, e1, e13] at h
            exact h
          | 15, ho =>
            obtain rfl := Option.some.inj ho
            intro vs W K hB hD hK
            have HK := Lib.hid hK
            have e14 : vs 14 = .bool true := dep_of hD 14 (by rfl)
            clear hK hD ho
            dsimp only
            go_simp
            have h := HK.out _ _ (Below.refl _ _) rfl
            simp only [upd, Nat.reduceEqDiff, reduceIte, e14] at h
            exact h
          | 16, ho =>
            obtain rfl := Option.some.inj ho
            intro vs W K hB hD hK
            have HK := Lib.hid hK
            have e15 : vs 15 = .bool true := dep_of hD 15 (by rfl)
            obtain ⟨d0, d1, d2⟩ := HH.out W hB
            clear hK hD ho
            dsimp only
            go_simp
            have h := HK.out _ _ (Below.refl _ _) rfl
            simp only [upd, Nat.reduceEqDiff, reduceIte, e15] at h
            exact h
          | 17, ho =>
            obtain rfl := Option.some.inj ho
            intro vs W K hB hD hK
            have HK := Lib.hid hK
            have e15 : vs 15 = .bool true := dep_of hD 15 (by rfl)
            clear hK hD ho
            dsimp only
            go_simp
            have h := HK.out _ _ (Below.refl _ _) rfl
            simp only [upd, Nat.reduceEqDiff, reduceIte, e15] at h
            exact h
          | 18, ho =>
            obtain rfl := Option.some.inj ho
            intro vs W K hB hD hK
            have HK := Lib.hid hK
            have e15 : vs 15 = .bool true := dep_of hD 15 (by rfl)
            have e17 : vs 17 = .int .i64 p := dep_of hD 17 (by rfl)
            clear hK hD ho
            dsimp only
            go_simp
            have h := HK.out _ _ (Below.refl _ _) rfl
            simp only [upd, Nat.reduceEqDiff, reduceIte, e15, e17] at h
            exact h
          | 19, ho =>
            obtain rfl := Option.some.inj ho
            intro vs W K hB hD hK
            have HK := Lib.hid hK
            have e15 : vs 15 = .bool true := dep_of hD 15 (by rfl)
            clear hK hD ho
            dsimp only
            go_simp
            have h := HK.out _ _ (Below.refl _ _) rfl
            simp only [upd, Nat.reduceEqDiff, reduceIte, e15] at h
            exact h
          | 20, ho =>
            obtain rfl := Option.some.inj ho
            intro vs W K hB hD hK
            have HK := Lib.hid hK
            have e15 : vs 15 = .bool true := dep_of hD 15 (by rfl)
            clear hK hD ho
            dsimp only
            go_simp
            have h := HK.out _ _ (Below.refl _ _) rfl
            simp only [upd, Nat.reduceEqDiff, reduceIte, e15] at h
            exact h
          | 21, ho =>
            obtain rfl := Option.some.inj ho
            intro vs W K hB hD hK
            have HK := Lib.hid hK
            have e15 : vs 15 = .bool true := dep_of hD 15 (by rfl)
            have e16 : vs 16 = .agg #[.slice h0 i0 j0, .slice h1 i1 j1, .slice h2 i2 j2] := dep_of hD 16 (by rfl)
            have e18 : vs 18 = .int .i64 (1 - p) := dep_of hD 18 (by rfl)
            have e19 : vs 19 = vS := dep_of hD 19 (by rfl)
            have e20 : vs 20 = vT := dep_of hD 20 (by rfl)
            clear hK hD ho
            dsimp only
            go_simp
            refine (HW2.out W (HB1.out W hB)).mono ?_
            rintro e W' ⟨rfl, hb⟩
            have h := HK.out _ _ hb rfl
            simp only [upd, Nat.reduceEqDiff, reduceIte, e15, e16, e18, e19, e20] at h
            exact h
          | 22, ho =>
            obtain rfl := Option.some.inj ho
            intro vs W K hB hD hK
            have HK := Lib.hid hK
            have e15 : vs 15 = .bool true := dep_of hD 15 (by rfl)
            clear hK hD ho
            dsimp only
            go_simp
            have h := HK.out _ _ (Below.refl _ _) rfl
            simp only [upd, Nat.reduceEqDiff, reduceIte, e15] at h
            exact h
          | 23, ho =>
            obtain rfl := Option.some.inj ho
            intro vs W K hB hD hK
            have HK := Lib.hid hK
            have e15 : vs 15 = .bool true := dep_of hD 15 (by rfl)
            have e21 : vs 21 = .bool bw := dep_of hD 21 (by rfl)
            have e22 : vs 22 = .bool bw := dep_of hD 22 (by rfl)
            clear hK hD ho
            dsimp only
            go_simp
            have h := HK.out _ _ (Below.refl _ _) rfl
            simp only [upd, Nat.reduceEqDiff, reduceIte, e15, e21, e22] at h
            exact h
          | 24, ho =>
            obtain rfl := Option.some.inj ho
            intro vs W K hB hD hK
            have HK := Lib.hid hK
            have e15 : vs 15 = .bool true := dep_of hD 15 (by rfl)
            have e23 : vs 23 = .bool true := dep_of hD 23 (by rfl)
            clear hK hD ho
            dsimp only
            go_simp
            have h := HK.out _ _ (Below.refl _ _) rfl
            simp only [upd, Nat.reduceEqDiff, reduceIte, e15, e23] at h
            exact h
          | 25, ho =>
            obtain rfl := Option.some.inj ho
            intro vs W K hB hD hK
            have HK := Lib.hid hK
            have e24 : vs 24 = .bool true := dep_of hD 24 (by rfl)
            clear hK hD ho
            dsimp only
            go_simp
            have h := HK.out _ _ (Below.refl _ _) rfl
            simp only [upd, Nat.reduceEqDiff, reduceIte, e24] at h
            exact h
          | 26, ho =>
            obtain rfl := Option.some.inj ho
            intro vs W K hB hD hK
            have HK := Lib.hid hK
            have e25 : vs 25 = .bool true := dep_of hD 25 (by rfl)
            obtain ⟨d0, d1, d2⟩ := HI.out W hB
            clear hK hD ho
            dsimp only
            go_simp
            have h := HK.out _ _ (Below.refl _ _) rfl
            simp only [upd, Nat.reduceEqDiff, reduceIte, e25] at h
            exact h
          | 27, ho =>
            obtain rfl := Option.some.inj ho
            intro vs W K hB hD hK
            have HK := Lib.hid hK
            have e25 : vs 25 = .bool true := dep_of hD 25 (by rfl)
            clear hK hD ho
            dsimp only
            go_simp
            have h := HK.out _ _ (Below.refl _ _) rfl
            simp only [upd, Nat.reduceEqDiff, reduceIte, e25] at h
            exact h
          | 28, ho =>
            obtain rfl := Option.some.inj ho
            intro vs W K hB hD hK
            have HK := Lib.hid hK
            have e25 : vs 25 = .bool true := dep_of hD 25 (by rfl)
            clear hK hD ho
            dsimp only
            go_simp
            have h := HK.out _ _ (Below.refl _ _) rfl
            simp only [upd, Nat.reduceEqDiff, reduceIte, e25] at h
            exact h
          | 29, ho =>
            obtain rfl := Option.some.inj ho
            intro vs W K hB hD hK
            have HK := Lib.hid hK
            have e25 : vs 25 = .bool true := dep_of hD 25 (by rfl)
            clear hK hD ho
            dsimp only
            go_simp
            have h := HK.out _ _ (Below.refl _ _) rfl
            simp only [upd, Nat.reduceEqDiff, reduceIte, e25] at h
            exact h
          | 30, ho =>
            obtain rfl := Option.some.inj ho
            intro vs W K hB hD hK
            have HK := Lib.hid hK
            have e25 : vs 25 = .bool true := dep_of hD 25 (by rfl)
            have e26 : vs 26 = .agg #[.slice a0 n0 c0, .slice x0 k y0, .slice a2 n2 c2] := dep_of hD 26 (by rfl)
            have e27 : vs 27 = .int .i64 p := dep_of hD 27 (by rfl)
            have e28 : vs 28 = vS := dep_of hD 28 (by rfl)
            have e29 : vs 29 = vT := dep_of hD 29 (by rfl)
            clear hK hD ho
            dsimp only
            go_simp
            refine (HW3.out W (HB1.out W hB)).mono ?_
            rintro e W' ⟨rfl, hb⟩
            have h := HK.out _ _ hb rfl
            simp only [upd, Nat.reduceEqDiff, reduceIte, e25, e26, e27, e28, e29] at h
            exact h
          | 31, ho =>
            obtain rfl := Option.some.inj ho
            intro vs W K hB hD hK
            have HK := Lib.hid hK
            have e25 : vs 25 = .bool true := dep_of hD 25 (by rfl)
            clear hK hD ho
            dsimp only
            go_simp
            have h := HK.out _ _ (Below.refl _ _) rfl
            simp only [upd, Nat.reduceEqDiff, reduceIte, e25] at h
            exact h
          | 32, ho =>
            obtain rfl := Option.some.inj ho
            intro vs W K hB hD hK
            have HK := Lib.hid hK
            have e25 : vs 25 = .bool true := dep_of hD 25 (by rfl)
            have e30 : vs 30 = .bool bw := dep_of hD 30 (by rfl)
            have e31 : vs 31 = .bool bw := dep_of hD 31 (by rfl)
            clear hK hD ho
            dsimp only
            go_simp
            have h := HK.out _ _ (Below.refl _ _) rfl
            simp only [upd, Nat.reduceEqDiff, reduceIte, e25, e30, e31] at h
            exact h
          | 33, ho =>
            obtain rfl := Option.some.inj ho
            intro vs W K hB hD hK
            have HK := Lib.hid hK
            have e25 : vs 25 = .bool true := dep_of hD 25 (by rfl)
            have e32 : vs 32 = .bool true := dep_of hD 32 (by rfl)
            clear hK hD ho
            dsimp only
            go_simp
            have h := HK.out _ _ (Below.refl _ _) rfl
            simp only [upd, Nat.reduceEqDiff, reduceIte, e25, e32] at h
            exact h
          | 34, ho =>
            obtain rfl := Option.some.inj ho
            intro vs W K hB hD hK
            have HK := Lib.hid hK
            have e33 : vs 33 = .bool true := dep_of hD 33 (by rfl)
            clear hK hD ho
            dsimp only
            go_simp
            have h := HK.out _ _ (Below.refl _ _) rfl
            simp only [upd, Nat.reduceEqDiff, reduceIte, e33] at h
            exact h
          | q + 35, ho => exact absurd ho (by simp)
        case fin =>
          intro vs W hB hall
          have e34 : vs 34 = .bool true := hall 34 (by decide)
          have hB5 := HBT.out.trans ((HB1.out W hB).mono HBT.out.size)
          clear hall hB
          rw [e34]
          clear e34
          go_wp2
          go_ret
          exact HE.out _ hB5

end Go.Proofs.Ytkbiopjinegckaa
