/- What look returns. -/
import Derived.Test.YtijkjhcigdfdgaaQRkS
namespace Go.Proofs.Ytijkjhcigdfdgaa
open Go.RowKit

def nilView : Value := .agg #[.slice none 0 0, .slice none 0 0, .slice none 0 0, .slice none 0 0]
/-- What look leaves. -/
def LookOut (g : Gm) (p : Int) (w : World) (e : Ending) (w' : World) : Prop :=
  match viewG g p with
  | some h => ∃ v, e = .returned (.tuple #[v, .bool true]) ∧ IsView w' v h (moG h) ∧ Below w.heap.size w w'
  | none => e = .returned (.tuple #[nilView, .bool false]) ∧ Below w.heap.size w w'
theorem LookOut.no {g : Gm} {p : Int} {w w' : World} (h : viewG g p = none) (hb : Below w.heap.size w w') : LookOut g p w (.returned (.tuple #[nilView, .bool false])) w' := by
  unfold LookOut; rw [h]; exact ⟨rfl, hb⟩
theorem LookOut.yes {g h : Gm} {p : Int} {w w' : World} {v : Value} (e : viewG g p = some h) (hv : IsView w' v h (moG h)) (hb : Below w.heap.size w w') : LookOut g p w (.returned (.tuple #[v, .bool true])) w' := by
  unfold LookOut; rw [e]; exact ⟨v, rfl, hv, hb⟩
theorem four_setR {w : World} {z : Nat} {t : TypeId} {c0 c1 c2 c3 a b c d : Value} (h : w.heap[z]? = some (.cells #[c0, c1, c2, c3] t (0, 0))) :
    ((((w.setCell ⟨z, 0, none⟩ a).setCell ⟨z, 1, none⟩ b).setCell ⟨z, 2, none⟩ c).setCell ⟨z, 3, none⟩ d).heap[z]? = some (.cells #[a, b, c, d] t (0, 0)) :=
  heap_setCell_same _ z 3 _ _ d (heap_setCell_same _ z 2 _ _ c (heap_setCell_same _ z 1 _ _ b (heap_setCell_same _ z 0 _ _ a h)))
theorem IsGame.parts3 {w : World} {a b c : Value} {g : Gm} (h : IsGame w (.agg #[a, b, c]) g) : IsInts w a g.owner ∧ IsInts w b g.prio ∧ IsRows w c g.succ := by
  obtain ⟨v0, v1, v2, e, h0, h1, h2⟩ := h
  obtain ⟨rfl, rfl, rfl⟩ : a = v0 ∧ b = v1 ∧ c = v2 := by simpa using e
  exact ⟨h0, h1, h2⟩
theorem three_only (w : World) (z : Nat) (d0 d1 d2 : Value) : Only (fun k => k = z) w (((w.setCell ⟨z, 0, none⟩ d0).setCell ⟨z, 1, none⟩ d1).setCell ⟨z, 2, none⟩ d2) :=
  ((Only.set (S := fun k => k = z) z 0 d0 rfl).trans (Only.set z 1 d1 rfl)).trans (Only.set z 2 d2 rfl)
theorem four_only (w : World) (z : Nat) (d0 d1 d2 d3 : Value) : Only (fun k => k = z) w ((((w.setCell ⟨z, 0, none⟩ d0).setCell ⟨z, 1, none⟩ d1).setCell ⟨z, 2, none⟩ d2).setCell ⟨z, 3, none⟩ d3) :=
  (three_only w z d0 d1 d2).trans (Only.set z 3 d3 rfl)

/-- What look has made, ahead of its result. -/
structure LB (wc wr : World) (b0 b1 b2 : Option Addr) (m0 m1 m2 e0 e1 e2 : Nat) (h : Gm) (z ob pt j : Nat) : Prop where
  be : Below wc.heap.size wc wr
  vw : wr.heap[z]? = some (.cells #[.slice b0 m0 e0, .slice b1 m1 e1, .slice b2 m2 e2, .slice (some ⟨ob, 0, none⟩) pt pt] 49 (0, 0))
  L : OI wr wc.heap.size (.slice (some ⟨ob, 0, none⟩) pt pt) (mostL h.prio pt j)
  zB : wc.heap.size ≤ z
  ne : ob ≠ z
def R33 (b0 b1 b2 : Option Addr) (m0 m1 m2 e0 e1 e2 hi pt B : Nat) (ix : Nat) (v : Value) (W : World) : Prop :=
  match ix with
  | 0 => v = .agg #[.slice b0 m0 e0, .slice b1 m1 e1, .slice b2 m2 e2]
  | 1 => v = .int .i64 (hi : Int)
  | 2 => v = .int .i64 (pt : Int)
  | 3 => ∃ ob, v = .slice (some ⟨ob, 0, none⟩) pt pt ∧ B ≤ ob ∧ W.heap[ob]? = some (.cells (madeCells #[.int .i64 0] pt) 3 (0, 0))
  | 4 => ∃ ob, v = .agg #[.slice b0 m0 e0, .slice b1 m1 e1, .slice b2 m2 e2, .slice (some ⟨ob, 0, none⟩) pt pt] ∧ B ≤ ob ∧ W.heap[ob]? = some (.cells (madeCells #[.int .i64 0] pt) 3 (0, 0))
  | 5 => ∃ z, v = .pointer (some ⟨z, 0, none⟩) ∧ B ≤ z ∧ W.heap[z]? = some (.cells #[.slice none 0 0, .slice none 0 0, .slice none 0 0, .slice none 0 0] 49 (0, 0))
  | _ => True
theorem R33.mono (b0 b1 b2 : Option Addr) (m0 m1 m2 e0 e1 e2 hi pt B : Nat) (ix : Nat) (v : Value) (W W' : World) (h : R33 b0 b1 b2 m0 m1 m2 e0 e1 e2 hi pt B ix v W) (hb : Below W.heap.size W W') : R33 b0 b1 b2 m0 m1 m2 e0 e1 e2 hi pt B ix v W' := by
  unfold R33 at *
  split at h <;> first | exact h | (obtain ⟨o, h1, h2, h3⟩ := h; exact ⟨o, h1, h2, (hb.block o (Array.getElem?_eq_some_iff.1 h3).1).trans h3⟩)
theorem swap_high_le {g : Gm} (h0 : ∀ x ∈ g.prio, 0 ≤ x) : highG (swapG g) ≤ highG g + 1 := by
  by_cases e : g.prio = []
  · have : highG (swapG g) = 0 := by unfold highG swapG; rw [e]; rfl
    have := high_nn g
    omega
  · rw [swap_high e h0]; omega
section LBs
variable {wc wr : World} {b0 b1 b2 : Option Addr} {m0 m1 m2 e0 e1 e2 : Nat} {h : Gm} {z ob pt j : Nat}
theorem LB.skip (H : LB wc wr b0 b1 b2 m0 m1 m2 e0 e1 e2 h z ob pt j) {x : Nat} (hj : j < h.prio.length) (hx : h.prio.getD j 0 = (x : Int)) (he : x % 2 = 0) : LB wc wr b0 b1 b2 m0 m1 m2 e0 e1 e2 h z ob pt (j + 1) :=
  ⟨H.be, H.vw, by rw [mostL_even hj hx he]; exact H.L, H.zB, H.ne⟩
theorem LB.put (H : LB wc wr b0 b1 b2 m0 m1 m2 e0 e1 e2 h z ob pt j) {x : Nat} (hj : j < h.prio.length) (hx : h.prio.getD j 0 = (x : Int)) (ho : x % 2 = 1) (_ : x / 2 < pt) : LB wc (wr.setCell ⟨ob, x / 2, none⟩ (.int .i64 ((mostL h.prio pt j).getD (x / 2) 0 + 1))) b0 b1 b2 m0 m1 m2 e0 e1 e2 h z ob pt (j + 1) := by
  have hob : wc.heap.size ≤ ob := H.L.ge ob rfl
  have hO : Only (fun q => q = ob) wr (wr.setCell ⟨ob, x / 2, none⟩ (.int .i64 ((mostL h.prio pt j).getD (x / 2) 0 + 1))) := Only.set _ _ _ rfl
  have hz := (Array.getElem?_eq_some_iff.1 H.vw).1
  exact ⟨H.be.trans (hO.below _ (fun q e => by have e : q = ob := e; omega) H.be.size), (hO.block _ hz (fun e => H.ne (Eq.symm e))).trans H.vw, by rw [← mostL_odd hj hx ho]; exact H.L.set (by simp [mostL]) _ _, H.zB, H.ne⟩
end LBs

set_option maxRecDepth 100000 in
set_option maxHeartbeats 16000000 in
theorem look_c (w : World) (vg : Value) (g : Gm) (p : Int) (hg : IsGame w vg g) (hS : ∀ i, (g.succ.getD i []).length ≤ 1000) (hn3 : g.prio.length ≤ 3000) (hh : validB g = true → highG g ≤ 5000) :
    Calls Try.prog 33 #[vg, .int .i64 p] w (LookOut g p w) := by
  have hmx : Try.prog.follows .mixedOrders = true := by kernel_rfl
  obtain ⟨a0, c0, a1, c1, a2, c2, rfl⟩ := hg.shape
  have HSS := Lib.hid hS
  have HHH := Lib.hid hh
  have HG := Lib.hid hg
  obtain ⟨n0, hn0⟩ : ∃ n, g.owner.length = n := ⟨_, rfl⟩
  obtain ⟨n1, hn1⟩ : ∃ n, g.prio.length = n := ⟨_, rfl⟩
  obtain ⟨n2, hn2⟩ : ∃ n, g.succ.length = n := ⟨_, rfl⟩
  have HN0 := Lib.hid hn0
  have HN1 := Lib.hid hn1
  have HN2 := Lib.hid hn2
  rw [hn0, hn1, hn2] at HG
  rw [hn1] at hn3
  rw [hn0, hn1, hn2]
  clear hg hS hh hn0 hn1 hn2
  have hx : ((w.alloc (.cells #[.slice a0 n0 c0, .slice a1 n1 c1, .slice a2 n2 c2] 25)).alloc (.cells #[.slice none 0 0, .slice none 0 0, .slice none 0 0, .slice none 0 0] 49)).heap[w.heap.size]? = some (.cells #[.slice a0 n0 c0, .slice a1 n1 c1, .slice a2 n2 c2] 25 (0, 0)) := (by (repeat (rw [alloc_get]; first | rw [if_pos (by first | (simp; done) | (simp; omega))] | rw [if_neg (by first | (simp; done) | (simp; omega))])); (try rfl))
  have hz : ((w.alloc (.cells #[.slice a0 n0 c0, .slice a1 n1 c1, .slice a2 n2 c2] 25)).alloc (.cells #[.slice none 0 0, .slice none 0 0, .slice none 0 0, .slice none 0 0] 49)).heap[w.heap.size + 1]? = some (.cells #[.slice none 0 0, .slice none 0 0, .slice none 0 0, .slice none 0 0] 49 (0, 0)) := (by (repeat (rw [alloc_get]; first | rw [if_pos (by first | (simp; done) | (simp; omega))] | rw [if_neg (by first | (simp; done) | (simp; omega))])); (try rfl))
  have hB : Below w.heap.size w ((w.alloc (.cells #[.slice a0 n0 c0, .slice a1 n1 c1, .slice a2 n2 c2] 25)).alloc (.cells #[.slice none 0 0, .slice none 0 0, .slice none 0 0, .slice none 0 0] 49)) := (by repeat (first | exact Below.refl _ _ | assumption | (refine belA ?_ _) | (refine belD ?_ _)))
  go_enter Try.func33, Try.ntmps33
  go_upto_region 1 with (fail)
  generalize ((w.alloc (.cells #[.slice a0 n0 c0, .slice a1 n1 c1, .slice a2 n2 c2] 25)).alloc (.cells #[.slice none 0 0, .slice none 0 0, .slice none 0 0, .slice none 0 0] 49)) = w1 at *
  have HB1 := Lib.hid hB
  have HEND : Hid (∀ W, Below w.heap.size w W → ∀ u0 u1 u2 u3, Below w.heap.size w ((((W.setCell ⟨w.heap.size + 1, 0, none⟩ u0).setCell ⟨w.heap.size + 1, 1, none⟩ u1).setCell ⟨w.heap.size + 1, 2, none⟩ u2).setCell ⟨w.heap.size + 1, 3, none⟩ u3)) := fun W h1 u0 u1 u2 u3 => by
    have ho : ∀ (W' : World) (k : Nat) (u : Value), Below w.heap.size w W' → Below w.heap.size w (W'.setCell ⟨w.heap.size + 1, k, none⟩ u) := fun W' k u h' => h'.trans ((Only.set (S := fun q => q = w.heap.size + 1) _ _ _ rfl).below w.heap.size (fun q e => by have : q = w.heap.size + 1 := e; omega) h'.size)
    exact ho _ _ _ (ho _ _ _ (ho _ _ _ (ho _ _ _ h1)))
  clear hB
  have HX := Lib.hid hx
  have HZ := Lib.hid hz
  clear hx hz
  by_cases hp : p = 0 ∨ p = 1
  case neg =>
    have HV : Hid (viewG g p = none) := by show _ = _; unfold viewG; rw [if_neg (fun h => hp h.1)]
    have p0 : (p != 0) = true := by simp; omega
    have p1 : (p != 1) = true := by simp; omega
    have q0 : ¬ p = 0 := by omega
    have q1 : ¬ p = 1 := by omega
    clear hp
    have c0z := cell_of_row _ _ 0 _ _ _ (HZ.out)
    have f0z := frozen_of_row _ _ 0 _ _ (HZ.out)
    have c1z := cell_of_row _ _ 1 _ _ _ (HZ.out)
    have f1z := frozen_of_row _ _ 1 _ _ (HZ.out)
    have c2z := cell_of_row _ _ 2 _ _ _ (HZ.out)
    have f2z := frozen_of_row _ _ 2 _ _ (HZ.out)
    have c3z := cell_of_row _ _ 3 _ _ _ (HZ.out)
    have f3z := frozen_of_row _ _ 3 _ _ (HZ.out)
    go_wp2
    have hc4 := four_setR (a := .slice none 0 0) (b := .slice none 0 0) (c := .slice none 0 0) (d := .slice none 0 0) (HZ.out)
    have k0 := cell_of_row _ _ 0 _ _ _ hc4
    have k1 := cell_of_row _ _ 1 _ _ _ hc4
    have k2 := cell_of_row _ _ 2 _ _ _ hc4
    have k3 := cell_of_row _ _ 3 _ _ _ hc4
    refine bodyPost_ret (v := .tuple #[nilView, .bool false]) (by simp [results, Try.results33, go_sem, k0, k1, k2, k3, nilView]) rfl ?_
    exact LookOut.no HV.out (HEND.out _ (HB1.out) _ _ _ _)
  rcases hp with rfl | rfl
  · have k0 := cell_of_row _ _ 0 _ _ _ HX.out
    have k1 := cell_of_row _ _ 1 _ _ _ HX.out
    have k2 := cell_of_row _ _ 2 _ _ _ HX.out
    go_wp2_with fail
    refine (AValid_c _ _ g (HG.out.below HB1.out)).mono ?_
    rintro e w2 ⟨rfl, hb2⟩
    have HB2 := Lib.hid (HB1.out.trans (hb2.mono HB1.out.size))
    have HX2 := Lib.hid ((hb2.block _ (Array.getElem?_eq_some_iff.1 HX.out).1).trans HX.out)
    have HZ2 := Lib.hid ((hb2.block _ (Array.getElem?_eq_some_iff.1 HZ.out).1).trans HZ.out)
    clear hb2 k0 k1 k2 HX HZ HB1
    cases hv : validB g
    · have HV : Hid (viewG g 0 = none) := by show _ = _; unfold viewG; rw [if_neg (fun h => by rw [hv] at h; exact absurd h.2.1 (by simp))]
      clear hv
      have c0z := cell_of_row _ _ 0 _ _ _ (HZ2.out)
      have f0z := frozen_of_row _ _ 0 _ _ (HZ2.out)
      have c1z := cell_of_row _ _ 1 _ _ _ (HZ2.out)
      have f1z := frozen_of_row _ _ 1 _ _ (HZ2.out)
      have c2z := cell_of_row _ _ 2 _ _ _ (HZ2.out)
      have f2z := frozen_of_row _ _ 2 _ _ (HZ2.out)
      have c3z := cell_of_row _ _ 3 _ _ _ (HZ2.out)
      have f3z := frozen_of_row _ _ 3 _ _ (HZ2.out)
      go_wp2
      have hc4 := four_setR (a := .slice none 0 0) (b := .slice none 0 0) (c := .slice none 0 0) (d := .slice none 0 0) (HZ2.out)
      have k0 := cell_of_row _ _ 0 _ _ _ hc4
      have k1 := cell_of_row _ _ 1 _ _ _ hc4
      have k2 := cell_of_row _ _ 2 _ _ _ hc4
      have k3 := cell_of_row _ _ 3 _ _ _ hc4
      refine bodyPost_ret (v := .tuple #[nilView, .bool false]) (by simp [results, Try.results33, go_sem, k0, k1, k2, k3, nilView]) rfl ?_
      exact LookOut.no HV.out (HEND.out _ (HB2.out) _ _ _ _)
    have HVV := Lib.hid hv
    have hh := HHH.out hv
    clear hv HHH
    obtain ⟨-, hg1, -⟩ := (HG.out.below HB2.out).parts3
    obtain ⟨bP, oP, hdP, hmP, hVP⟩ := hg1.dat
    have HP := Lib.hid hVP
    clear hg1 hVP
    have d1 := cell_of_row _ _ 1 _ _ _ HX2.out
    go_upto_region 5 with (fail)
    clear d1
    go_loopg [6, 27] n1 (fun gh m i wr => ∃ k : Nat, gh = n1 - k ∧ m = .int .i64 (greatI (g.prio.take k)) ∧ i = .int .i64 (k : Int) ∧ k ≤ n1 ∧ w2 = wr)
    case atStart => exact ⟨0, rfl, rfl, rfl, by omega, rfl⟩
    case round =>
      obtain ⟨k, hgk, rfl, rfl, hk, rfl⟩ := hrel
      have HGK := Lib.hid hgk
      clear hgk
      by_cases hlt : k < n1
      · as_aux_lemma =>
        have hk1 : (k : Int) < (n1 : Int) := by omega
        obtain rfl := hdP (by omega)
        have e1 := HP.out k hlt
        have HE := Lib.hid (greatI_take g.prio k (by have := HN1.out; omega))
        rw [getD_lt _ _ _ (by have := HN1.out; omega)] at e1
        generalize greatI (g.prio.take k) = m at *
        generalize g.prio[k]'(by have := HN1.out; omega) = y at *
        go_wp2
        all_goals
          go_roundg (n1 - (k + 1))
          case measure => have := HGK.out; omega
          case rel => exact ⟨k + 1, rfl, by rw [HE.out]; congr 1; first | omega | (simp; omega), by go_num, by omega, rfl⟩
      · as_aux_lemma =>
        obtain rfl : k = n1 := by omega
        have hgr : greatI (g.prio.take k) = highG g := by rw [← HN1.out, List.take_length]; rfl
        rw [hgr]
        have hh0 := high_nn g
        have HVG : Hid (viewG g 0 = some g) := by
          show _ = _
          unfold viewG
          rw [if_pos ⟨.inl rfl, HVV.out, by omega⟩]; rfl
        have HPN0 : ∀ x ∈ g.prio, 0 ≤ x := by
          intro x hx
          obtain ⟨i, hi, e⟩ := List.getElem_of_mem hx
          have h2 := (valid_at HVV.out i (by have := valid_lens HVV.out; omega)).2.1
          rw [getD_lt _ _ _ hi, e] at h2
          exact h2.1
        have HVH : Hid (viewG g 0 = some g ∧ g.prio.length ≤ 3000 ∧ (∀ x ∈ g.prio, 0 ≤ x) ∧ highG g ≤ 5001) := ⟨HVG.out, (by have := HN1.out; omega), HPN0, by omega⟩
        have h3 : (highG g == 30000) = false := by simp; omega
        clear hgr HGK hlt hk HPN0 HVG
        obtain ⟨hi, hhi⟩ : ∃ m, highG g = m := ⟨_, rfl⟩
        have HHI := Lib.hid hhi
        rw [hhi] at hh hh0 h3 ⊢
        clear hhi
        go_upto_if 45 with (fail)
        go_cut [6] (fun v wx => ∃ (h : Gm) (b0 b1 b2 : Option Addr) (e0 e1 e2 m0 m1 m2 : Nat), v = .int .i64 (highG h) ∧ Hid (viewG g 0 = some h ∧ h.prio.length ≤ 3000 ∧ (∀ x ∈ h.prio, 0 ≤ x) ∧ highG h ≤ 5001) ∧ Hid (wx.heap[w.heap.size]? = some (.cells #[.slice b0 m0 e0, .slice b1 m1 e1, .slice b2 m2 e2] 25 (0, 0))) ∧ Hid (∀ W, Only (fun q => q = w.heap.size ∨ q = w.heap.size + 1) wx W → IsGame W (.agg #[.slice b0 m0 e0, .slice b1 m1 e1, .slice b2 m2 e2]) h) ∧ Hid (wx.heap[w.heap.size + 1]? = some (.cells #[.slice none 0 0, .slice none 0 0, .slice none 0 0, .slice none 0 0] 49 (0, 0))) ∧ Hid (Below w.heap.size w wx))
        case first =>
          go_wp2
          go_meet
          case rel => exact ⟨g, a0, a1, a2, c0, c1, c2, n0, k, n2, by rw [HHI.out], HVH, HX2, fun W hW => HG.out.below (HB2.out.trans (hW.below _ (fun q e => by rcases e with e | e <;> omega) HB2.out.size)), HZ2, HB2⟩
        case rest =>
          obtain ⟨h, b0, b1, b2, e0, e1, e2, m0, m1, m2, rfl, HVH, HXc, HKG, HZc, HBc⟩ := hcut
          generalize wc = wd at *
          clear HHI HG HVV HSS HN0 HN1 HN2 HX2 HZ2 HB2 HP hdP hmP hh hh0 h3
          have HM1 : Hid (m1 = h.prio.length) := by
            obtain ⟨a', c', ee⟩ := (HKG.out _ (Only.refl _ _)).parts3.2.1.shape
            injection ee
          have hm3 : m1 ≤ 3000 := by have := HM1.out; have := HVH.out.2.1; omega
          obtain ⟨hi, hhi⟩ : ∃ n : Nat, highG h = (n : Int) := ⟨(highG h).toNat, by have := high_nn h; omega⟩
          have hh1 : hi ≤ 5001 := by have := HVH.out.2.2.2; omega
          have HHI := Lib.hid hhi
          rw [hhi]
          obtain ⟨pt, hpt⟩ : ∃ n : Nat, partN hi = n := ⟨_, rfl⟩
          have HPT := Lib.hid hpt
          have hpb : pt ≤ 3000 := by rw [← hpt]; unfold partN; omega
          have HPC : Hid (∀ W, Calls Try.prog 50 #[.int .i64 (hi : Int)] W (Quiet (.int .i64 (pt : Int)) W)) := fun W => by rw [← hpt]; exact rpart_c W hi (by omega)
          clear hhi hpt
          have mki := fun wx => run_make_row' (P := Try.prog) 22 3 (.int .i64 0) 8 Try.underlying22 info_int rfl .i64 .i64 pt (by omega) (by omega) wx
          have hsz := (Array.getElem?_eq_some_iff.1 HZc.out).1
          have HXD : Hid (∀ W, Below wd.drew.heap.size wd.drew W → W.heap[w.heap.size]? = some (.cells #[.slice b0 m0 e0, .slice b1 m1 e1, .slice b2 m2 e2] 25 (0, 0))) := fun W h => (((Below.drew (B := wd.heap.size) (Below.refl _ _)).trans h).block _ (by omega)).trans HXc.out
          have HBD : Hid (∀ W, Below wd.drew.heap.size wd.drew W → Below wd.heap.size wd W) := fun W h => (Below.drew (B := wd.heap.size) (Below.refl _ _)).trans h
          have HSZ : Hid (w.heap.size + 1 < wd.heap.size) := hsz
          clear hsz
          go_upto_region 14 with (fail)
          go_cut [9] (fun v9 wx => ∃ (z ob : Nat), v9 = .pointer (some ⟨z, 0, none⟩) ∧ Hid (LB wd wx b0 b1 b2 m0 m1 m2 e0 e1 e2 h z ob pt 0))
          case first J' K' hJR hMK =>
            have HMK := Lib.hid hMK
            have HJR := Lib.hid hJR
            clear hMK hJR
            refine region_last hmx (R33 b0 b1 b2 m0 m1 m2 e0 e1 e2 hi pt wd.heap.size) (fun vs => { tmps := (_ :: _ :: _ :: _ :: _ :: _ :: _ :: _ :: _ :: vs 5 :: _ :: _ :: _ :: _ :: _ :: _ :: _ :: _ :: _ :: _ :: _ :: _ :: _ :: _ :: _ :: _ :: _ :: _ :: _ :: _ :: _ :: _ :: _ :: _ :: _ :: _ :: _ :: _ :: _ :: _ :: _ :: _ :: _ :: _ :: _ :: _ :: _ :: _ :: _ :: _ :: vs 0 :: vs 1 :: vs 2 :: vs 3 :: vs 4 :: _ :: _ :: _ :: _ :: _ :: _ :: _ :: _ :: _ :: _ :: _ :: _ :: _ :: _ :: _ :: _ :: _ :: _ :: _ :: _ :: []).toArray, defers := [] }) (fun n => [u50, u51, u52, u53, u54, undef].getD n undef) 6 rfl (by kernel_rfl) (by kernel_rfl) (R33.mono b0 b1 b2 m0 m1 m2 e0 e1 e2 hi pt wd.heap.size) ?step ?last
            case step =>
              intro ix o hlt ho
              match ix, hlt, ho with
              | 0, hlt, ho =>
                obtain rfl := Option.some.inj ho
                intro vs W K hB hD hK
                have HK := Lib.hid hK
                have d0 := cell_of_row _ _ 0 _ _ _ (HXD.out W hB)
                have d1 := cell_of_row _ _ 1 _ _ _ (HXD.out W hB)
                have d2 := cell_of_row _ _ 2 _ _ _ (HXD.out W hB)
                clear hK hD ho hlt
                dsimp only
                go_simp
                have h := HK.out _ _ (Below.refl _ _) rfl
                simp only [upd, Nat.reduceEqDiff, reduceIte] at h
                exact h
              | 1, hlt, ho =>
                obtain rfl := Option.some.inj ho
                intro vs W K hB hD hK
                have HK := Lib.hid hK
                clear hK hD ho hlt
                dsimp only
                go_simp
                have h := HK.out _ _ (Below.refl _ _) rfl
                simp only [upd, Nat.reduceEqDiff, reduceIte] at h
                exact h
              | 2, hlt, ho =>
                obtain rfl := Option.some.inj ho
                intro vs W K hB hD hK
                have HK := Lib.hid hK
                have e1 : vs 1 = .int .i64 (hi : Int) := dep_of hD 1 (by rfl)
                clear hK hD ho hlt
                dsimp only
                go_simp
                refine (HPC.out W).mono ?_
                rintro e W' ⟨rfl, n', rfl⟩
                have h := HK.out _ _ (below_draws _ _ n') rfl
                simp only [upd, Nat.reduceEqDiff, reduceIte, e1] at h
                exact h
              | 3, hlt, ho =>
                obtain rfl := Option.some.inj ho
                intro vs W K hB hD hK
                have HK := Lib.hid hK
                have e2 : vs 2 = .int .i64 (pt : Int) := dep_of hD 2 (by rfl)
                clear hK hD ho hlt
                dsimp only
                go_simp
                have h := HK.out _ _ (bel_box _) ⟨_, rfl, hB.size, heap_alloc_new _ _⟩
                simp only [upd, Nat.reduceEqDiff, reduceIte, e2] at h
                exact h
              | 4, hlt, ho =>
                obtain rfl := Option.some.inj ho
                intro vs W K hB hD hK
                have HK := Lib.hid hK
                have e0 : vs 0 = .agg #[.slice b0 m0 e0, .slice b1 m1 e1, .slice b2 m2 e2] := dep_of hD 0 (by rfl)
                obtain ⟨ob, e3, hob, hobh⟩ : ∃ ob, vs 3 = .slice (some ⟨ob, 0, none⟩) pt pt ∧ wd.heap.size ≤ ob ∧ W.heap[ob]? = some (.cells (madeCells #[.int .i64 0] pt) 3 (0, 0)) := dep_of hD 3 (by rfl)
                clear hK hD ho hlt
                dsimp only
                go_simp
                have h := HK.out _ _ (Below.refl _ _) ⟨ob, rfl, hob, hobh⟩
                simp only [upd, Nat.reduceEqDiff, reduceIte, e0, e3] at h
                exact h
              | 5, hlt, ho =>
                obtain rfl := Option.some.inj ho
                intro vs W K hB hD hK
                have HK := Lib.hid hK
                clear hK hD ho hlt
                dsimp only
                go_simp
                have h := HK.out _ _ (bel_box _) ⟨_, rfl, hB.size, heap_alloc_new _ _⟩
                simp only [upd, Nat.reduceEqDiff, reduceIte] at h
                exact h
              | q + 6, hlt, ho => omega
            case last =>
              intro o ho
              obtain rfl := Option.some.inj ho
              intro vs W K hB hall hK
              have HK := Lib.hid hK
              obtain ⟨ob, e4, hob, hobh⟩ : ∃ ob, vs 4 = .agg #[.slice b0 m0 e0, .slice b1 m1 e1, .slice b2 m2 e2, .slice (some ⟨ob, 0, none⟩) pt pt] ∧ wd.heap.size ≤ ob ∧ W.heap[ob]? = some (.cells (madeCells #[.int .i64 0] pt) 3 (0, 0)) := hall 4 (by omega)
              obtain ⟨z, e5, hz, hzh⟩ : ∃ z, vs 5 = .pointer (some ⟨z, 0, none⟩) ∧ wd.heap.size ≤ z ∧ W.heap[z]? = some (.cells #[.slice none 0 0, .slice none 0 0, .slice none 0 0, .slice none 0 0] 49 (0, 0)) := hall 5 (by omega)
              have hoz : ob ≠ z := fun e => by
                rw [e, hzh] at hobh
                simp at hobh
              have c0 := cell_of_row _ _ 0 _ _ _ hzh
              have f0 := frozen_of_row _ _ 0 _ _ hzh
              have c1 := cell_of_row _ _ 1 _ _ _ hzh
              have f1 := frozen_of_row _ _ 1 _ _ hzh
              have c2 := cell_of_row _ _ 2 _ _ _ hzh
              have f2 := frozen_of_row _ _ 2 _ _ hzh
              have c3 := cell_of_row _ _ 3 _ _ _ hzh
              have f3 := frozen_of_row _ _ 3 _ _ hzh
              have HZ4 := Lib.hid (four_setR (a := .slice b0 m0 e0) (b := .slice b1 m1 e1) (c := .slice b2 m2 e2) (d := .slice (some ⟨ob, 0, none⟩) pt pt) hzh)
              have HO4 := Lib.hid (four_only W z (.slice b0 m0 e0) (.slice b1 m1 e1) (.slice b2 m2 e2) (.slice (some ⟨ob, 0, none⟩) pt pt))
              have HOB := Lib.hid hobh
              have HBW := Lib.hid (HBD.out W hB)
              clear hK hall ho hobh hzh
              dsimp only
              go_simp
              refine HK.out _ _ ?_
              show K' _ _
              refine HMK.out _ _ (Met.intro (HJR.out _ _ ?_))
              (repeat apply Exists.intro)
              refine ⟨?rel, rfl⟩
              case rel =>
                refine ⟨z, ob, rfl, ?_⟩
                exact {
                  be := HBW.out.trans (HO4.out.below _ (fun q e => by have e : q = z := e; omega) HBW.out.size)
                  vw := HZ4.out
                  L := by rw [← mostL_zero]; exact (OI_made HOB.out hob hpb).only HO4.out (fun k e hk => by have hk : k = z := hk; simp [Value.ownBlock] at e; omega)
                  zB := hz
                  ne := hoz }
          case rest =>
            obtain ⟨z, ob, rfl, hL⟩ := hcut
            obtain ⟨-, hg1, -⟩ := (HKG.out _ (Only.refl _ _)).parts3
            obtain ⟨bP, oP, hdP, hmP, hVP⟩ := hg1.dat
            have HP := Lib.hid hVP
            have HX9 := Lib.hid ((hL.out.be.block _ (by have := HSZ.out; omega)).trans HXc.out)
            clear hg1 hVP mki HPC HXD HBD
            have d0 := cell_of_row _ _ 0 _ _ _ HX9.out
            have d1 := cell_of_row _ _ 1 _ _ _ HX9.out
            go_upto_region 16 with (fail)
            clear d0 d1 HX9
            go_loopg [58] m1 (fun gh i wr => ∃ k : Nat, gh = m1 - k ∧ i = .int .i64 (k : Int) ∧ k ≤ m1 ∧ Hid (LB wd wr b0 b1 b2 m0 m1 m2 e0 e1 e2 h z ob pt k))
            case atStart => exact ⟨0, rfl, rfl, by omega, hL⟩
            case round =>
              obtain ⟨j, hgj, rfl, hj, hL2⟩ := hrel
              have HGJ := Lib.hid hgj
              clear hgj hL
              by_cases hlt : j < m1
              · as_aux_lemma =>
                have hj1 : (j : Int) < (m1 : Int) := by omega
                obtain rfl := hdP (by omega)
                have hjp : j < h.prio.length := by have := HM1.out; omega
                obtain ⟨x, hx⟩ : ∃ x : Nat, h.prio.getD j 0 = (x : Int) := by
                  have h1 := HVH.out.2.2.1 (h.prio.getD j 0) (by rw [getD_lt _ _ _ hjp]; exact List.getElem_mem hjp)
                  exact ⟨(h.prio.getD j 0).toNat, by omega⟩
                have hxh : (x : Int) ≤ (hi : Int) := by
                  rw [← HHI.out, ← hx, getD_lt _ _ _ hjp]; exact high_ge (List.getElem_mem hjp)
                have e1 := cellB hL2.out.be (HP.out j hlt)
                rw [hx] at e1
                have HX := Lib.hid hx
                clear hx
                have t1 : Int.tmod (x : Int) 2 = ((x % 2 : Nat) : Int) := by rw [Int.tmod_eq_emod_of_nonneg (by omega)]; omega
                have t2 : Int.tdiv (x : Int) 2 = ((x / 2 : Nat) : Int) := by rw [Int.tdiv_eq_ediv_of_nonneg (by omega)]; omega
                have t3 : x / 2 ≤ x := Nat.div_le_self _ _
                have t4 : x % 2 < 2 := Nat.mod_lt _ (by omega)
                by_cases he : x % 2 = 1
                · have hq : x / 2 < pt := by have := HPT.out; unfold partN at this; omega
                  have HLn := Lib.hid (hL2.out.put hjp HX.out he hq)
                  have hlen : (mostL h.prio pt j).length = pt := mostL_len _ _ _
                  have cm := cell_of_row _ _ 3 _ _ _ hL2.out.vw
                  have cn := hL2.out.L.at' (by omega) (x / 2) (by omega)
                  rw [← getD_lt _ 0 _ (by omega)] at cn
                  have cf := hL2.out.L.fz (by omega) (x / 2)
                  obtain ⟨y1, y2⟩ := mostL_bd (pr := h.prio) (j := j) hq
                  generalize (mostL h.prio pt j).getD (x / 2) 0 = y at *
                  have t5 : ((x % 2 : Nat) : Int) = 1 := by omega
                  rw [t5] at t1
                  have HE := Lib.hid he
                  clear t4 t5 he hL2 hlen
                  obtain ⟨q, hqq⟩ : ∃ q, x / 2 = q := ⟨_, rfl⟩
                  rw [hqq] at *
                  clear hqq
                  go_wp2
                  go_roundg (m1 - (j + 1))
                  case measure => have := HGJ.out; omega
                  case rel => exact ⟨j + 1, rfl, by go_num, by omega, HLn⟩
                · have HLn := Lib.hid (hL2.out.skip hjp HX.out (by omega))
                  have t5 : ((x % 2 : Nat) : Int) = 0 := by omega
                  rw [t5] at t1
                  clear t4 t5 hL2 he
                  go_wp2
                  go_roundg (m1 - (j + 1))
                  case measure => have := HGJ.out; omega
                  case rel => exact ⟨j + 1, rfl, by go_num, by omega, HLn⟩
              · as_aux_lemma =>
                have hjm : j = m1 := by omega
                have HMA : Hid (mostL h.prio pt j = castM (moG h)) := by
                  show _ = _
                  rw [← mostL_all h, hjm, HM1.out, HHI.out, ← HPT.out]; rfl
                have HJM := Lib.hid hjm
                have hzs : w.heap.size + 1 < wr.heap.size := by have := HSZ.out; have := hL2.out.be.size; omega
                have HZr := Lib.hid ((hL2.out.be.block _ (by have := HSZ.out; omega)).trans HZc.out)
                have HBr := Lib.hid (HBc.out.trans (hL2.out.be.mono HBc.out.size))
                have z0 := cell_of_row _ _ 0 _ _ _ hL2.out.vw
                have z1 := cell_of_row _ _ 1 _ _ _ hL2.out.vw
                have z2 := cell_of_row _ _ 2 _ _ _ hL2.out.vw
                have z3 := cell_of_row _ _ 3 _ _ _ hL2.out.vw
                have r0 := cell_of_row _ _ 0 _ _ _ HZr.out
                have r1 := cell_of_row _ _ 1 _ _ _ HZr.out
                have r2 := cell_of_row _ _ 2 _ _ _ HZr.out
                have r3 := cell_of_row _ _ 3 _ _ _ HZr.out
                have q0 := frozen_of_row _ _ 0 _ _ HZr.out
                have q1 := frozen_of_row _ _ 1 _ _ HZr.out
                have q2 := frozen_of_row _ _ 2 _ _ HZr.out
                have q3 := frozen_of_row _ _ 3 _ _ HZr.out
                have hjd : ¬ (j : Int) < (m1 : Int) := by omega
                clear hjm
                go_wp2
                have hc4 := four_setR (a := .slice b0 m0 e0) (b := .slice b1 m1 e1) (c := .slice b2 m2 e2) (d := .slice (some ⟨ob, 0, none⟩) pt pt) HZr.out
                have k0 := cell_of_row _ _ 0 _ _ _ hc4
                have k1 := cell_of_row _ _ 1 _ _ _ hc4
                have k2 := cell_of_row _ _ 2 _ _ _ hc4
                have k3 := cell_of_row _ _ 3 _ _ _ hc4
                refine bodyPost_ret (v := .tuple #[.agg #[.slice b0 m0 e0, .slice b1 m1 e1, .slice b2 m2 e2, .slice (some ⟨ob, 0, none⟩) pt pt], .bool true]) (by simp [results, Try.results33, go_sem, k0, k1, k2, k3]) rfl ?_
                have ho := four_only wr (w.heap.size + 1) (.slice b0 m0 e0) (.slice b1 m1 e1) (.slice b2 m2 e2) (.slice (some ⟨ob, 0, none⟩) pt pt)
                refine LookOut.yes HVH.out.1 ⟨_, _, _, _, rfl, HKG.out _ ((Only.of_below hL2.out.be).trans (ho.mono fun q _ e => .inr e)), ?_⟩ (HEND.out _ HBr.out _ _ _ _)
                rw [← HMA.out]
                exact (hL2.out.L.only ho (fun k e hk => by have hk : k = w.heap.size + 1 := hk; have := hL2.out.L.ge k e; have := HSZ.out; omega)).is (by rw [mostL_len]; unfold maxN; omega) (fun y hy => by
                  obtain ⟨i, hi', e⟩ := List.getElem_of_mem hy
                  have hi2 : i < pt := by simpa [mostL] using hi'
                  obtain ⟨y1, y2⟩ := mostL_bd (pr := h.prio) (j := j) hi2
                  rw [getD_lt _ _ _ hi', e] at y1 y2
                  have := HJM.out
                  unfold I64; omega)
  · have k0 := cell_of_row _ _ 0 _ _ _ HX.out
    have k1 := cell_of_row _ _ 1 _ _ _ HX.out
    have k2 := cell_of_row _ _ 2 _ _ _ HX.out
    go_wp2_with fail
    refine (AValid_c _ _ g (HG.out.below HB1.out)).mono ?_
    rintro e w2 ⟨rfl, hb2⟩
    have HB2 := Lib.hid (HB1.out.trans (hb2.mono HB1.out.size))
    have HX2 := Lib.hid ((hb2.block _ (Array.getElem?_eq_some_iff.1 HX.out).1).trans HX.out)
    have HZ2 := Lib.hid ((hb2.block _ (Array.getElem?_eq_some_iff.1 HZ.out).1).trans HZ.out)
    clear hb2 k0 k1 k2 HX HZ HB1
    cases hv : validB g
    · have HV : Hid (viewG g 1 = none) := by show _ = _; unfold viewG; rw [if_neg (fun h => by rw [hv] at h; exact absurd h.2.1 (by simp))]
      clear hv
      have c0z := cell_of_row _ _ 0 _ _ _ (HZ2.out)
      have f0z := frozen_of_row _ _ 0 _ _ (HZ2.out)
      have c1z := cell_of_row _ _ 1 _ _ _ (HZ2.out)
      have f1z := frozen_of_row _ _ 1 _ _ (HZ2.out)
      have c2z := cell_of_row _ _ 2 _ _ _ (HZ2.out)
      have f2z := frozen_of_row _ _ 2 _ _ (HZ2.out)
      have c3z := cell_of_row _ _ 3 _ _ _ (HZ2.out)
      have f3z := frozen_of_row _ _ 3 _ _ (HZ2.out)
      go_wp2
      have hc4 := four_setR (a := .slice none 0 0) (b := .slice none 0 0) (c := .slice none 0 0) (d := .slice none 0 0) (HZ2.out)
      have k0 := cell_of_row _ _ 0 _ _ _ hc4
      have k1 := cell_of_row _ _ 1 _ _ _ hc4
      have k2 := cell_of_row _ _ 2 _ _ _ hc4
      have k3 := cell_of_row _ _ 3 _ _ _ hc4
      refine bodyPost_ret (v := .tuple #[nilView, .bool false]) (by simp [results, Try.results33, go_sem, k0, k1, k2, k3, nilView]) rfl ?_
      exact LookOut.no HV.out (HEND.out _ (HB2.out) _ _ _ _)
    have HVV := Lib.hid hv
    have hh := HHH.out hv
    clear hv HHH
    obtain ⟨-, hg1, -⟩ := (HG.out.below HB2.out).parts3
    obtain ⟨bP, oP, hdP, hmP, hVP⟩ := hg1.dat
    have HP := Lib.hid hVP
    clear hg1 hVP
    have d1 := cell_of_row _ _ 1 _ _ _ HX2.out
    go_upto_region 5 with (fail)
    clear d1
    go_loopg [6, 27] n1 (fun gh m i wr => ∃ k : Nat, gh = n1 - k ∧ m = .int .i64 (greatI (g.prio.take k)) ∧ i = .int .i64 (k : Int) ∧ k ≤ n1 ∧ w2 = wr)
    case atStart => exact ⟨0, rfl, rfl, rfl, by omega, rfl⟩
    case round =>
      obtain ⟨k, hgk, rfl, rfl, hk, rfl⟩ := hrel
      have HGK := Lib.hid hgk
      clear hgk
      by_cases hlt : k < n1
      · as_aux_lemma =>
        have hk1 : (k : Int) < (n1 : Int) := by omega
        obtain rfl := hdP (by omega)
        have e1 := HP.out k hlt
        have HE := Lib.hid (greatI_take g.prio k (by have := HN1.out; omega))
        rw [getD_lt _ _ _ (by have := HN1.out; omega)] at e1
        generalize greatI (g.prio.take k) = m at *
        generalize g.prio[k]'(by have := HN1.out; omega) = y at *
        go_wp2
        all_goals
          go_roundg (n1 - (k + 1))
          case measure => have := HGK.out; omega
          case rel => exact ⟨k + 1, rfl, by rw [HE.out]; congr 1; first | omega | (simp; omega), by go_num, by omega, rfl⟩
      · as_aux_lemma =>
        obtain rfl : k = n1 := by omega
        have hgr : greatI (g.prio.take k) = highG g := by rw [← HN1.out, List.take_length]; rfl
        rw [hgr]
        have hh0 := high_nn g
        have HVG : Hid (viewG g 1 = some (swapG g)) := by
          show _ = _
          unfold viewG
          rw [if_pos ⟨.inr rfl, HVV.out, by omega⟩]; rfl
        have HPN0 : ∀ x ∈ g.prio, 0 ≤ x := by
          intro x hx
          obtain ⟨i, hi, e⟩ := List.getElem_of_mem hx
          have h2 := (valid_at HVV.out i (by have := valid_lens HVV.out; omega)).2.1
          rw [getD_lt _ _ _ hi, e] at h2
          exact h2.1
        have HVH : Hid (viewG g 1 = some (swapG g) ∧ (swapG g).prio.length ≤ 3000 ∧ (∀ x ∈ (swapG g).prio, 0 ≤ x) ∧ highG (swapG g) ≤ 5001) := ⟨HVG.out, (by have := HN1.out; simp [swapG]; omega), (by intro x hx; obtain ⟨y, hy, rfl⟩ := List.mem_map.1 (show x ∈ g.prio.map (· + 1) from hx); have := HPN0 y hy; omega), (by have := swap_high_le HPN0; omega)⟩
        have h3 : (highG g == 30000) = false := by simp; omega
        clear hgr HGK hlt hk HPN0 HVG
        obtain ⟨hi, hhi⟩ : ∃ m, highG g = m := ⟨_, rfl⟩
        have HHI := Lib.hid hhi
        rw [hhi] at hh hh0 h3 ⊢
        clear hhi
        have d1 := cell_of_row _ _ 1 _ _ _ HX2.out
        go_upto_if 45 with (fail)
        clear d1
        go_cut [6] (fun v wx => ∃ (h : Gm) (b0 b1 b2 : Option Addr) (e0 e1 e2 m0 m1 m2 : Nat), v = .int .i64 (highG h) ∧ Hid (viewG g 1 = some h ∧ h.prio.length ≤ 3000 ∧ (∀ x ∈ h.prio, 0 ≤ x) ∧ highG h ≤ 5001) ∧ Hid (wx.heap[w.heap.size]? = some (.cells #[.slice b0 m0 e0, .slice b1 m1 e1, .slice b2 m2 e2] 25 (0, 0))) ∧ Hid (∀ W, Only (fun q => q = w.heap.size ∨ q = w.heap.size + 1) wx W → IsGame W (.agg #[.slice b0 m0 e0, .slice b1 m1 e1, .slice b2 m2 e2]) h) ∧ Hid (wx.heap[w.heap.size + 1]? = some (.cells #[.slice none 0 0, .slice none 0 0, .slice none 0 0, .slice none 0 0] 49 (0, 0))) ∧ Hid (Below w.heap.size w wx))
        case first =>
          by_cases hk0 : k = 0
          · have t1 : decide ((0 : Int) < (k : Int)) = false := decide_eq_false (by omega)
            have t2 : decide (0 < k) = false := decide_eq_false (by omega)
            have t3 : ¬ (0 : Int) < (k : Int) := by omega
            have HK0 : Hid (k = 0) := hk0
            clear hdP hk0
            obtain ⟨la, lb, lc⟩ := valid_lens HVV.out
            have e0 : g.owner = [] := List.length_eq_zero_iff.1 (by have := HN1.out; have := HK0.out; omega)
            have e1 : g.prio = [] := List.length_eq_zero_iff.1 (by have := HN1.out; have := HK0.out; omega)
            have e2 : g.succ = [] := List.length_eq_zero_iff.1 (by have := HN1.out; have := HK0.out; omega)
            have HSE : Hid (swapG g = g) := by
              show _ = _
              cases g with
              | mk o q r =>
                simp only at e0 e1 e2
                subst e0 e1 e2; rfl
            clear e0 e1 e2 la lb lc
            go_wp2
            go_meet
            case rel => exact ⟨swapG g, a0, a1, a2, c0, c1, c2, n0, k, n2, by rw [HSE.out, HHI.out], HVH, HX2, fun W hW => by rw [HSE.out]; exact HG.out.below (HB2.out.trans (hW.below _ (fun q e => by rcases e with e | e <;> omega) HB2.out.size)), HZ2, HB2⟩
          · obtain rfl := hdP (by omega)
            have t1 : decide ((0 : Int) < (k : Int)) = true := decide_eq_true (by omega)
            have t2 : decide (0 < k) = true := decide_eq_true (by omega)
            have t3 : (0 : Int) < (k : Int) := by omega
            have hsr : swapR g = swapG g := by
              unfold swapR
              rw [if_pos]
              simp only [HVV.out, Bool.true_and, inB, List.all_eq_true, Bool.and_eq_true, decide_eq_true_eq]
              intro x hx
              have h1 := high_ge hx
              obtain ⟨i, hi, e⟩ := List.getElem_of_mem hx
              have h2 := (valid_at HVV.out i (by have := valid_lens HVV.out; omega)).2.1
              rw [getD_lt _ _ _ hi, e] at h2
              have := HHI.out
              omega
            have HSR := Lib.hid hsr
            have hne : g.prio ≠ [] := fun e => by have := HN1.out; rw [e] at this; simp at this; omega
            have HSH : Hid (highG (swapG g) = hi + 1) := by
              show _ = _
              rw [swap_high hne, HHI.out]
              intro x hx
              obtain ⟨i, hi, e⟩ := List.getElem_of_mem hx
              have h2 := (valid_at HVV.out i (by have := valid_lens HVV.out; omega)).2.1
              rw [getD_lt _ _ _ hi, e] at h2
              exact h2.1
            have q0 := cell_of_row _ _ 0 _ _ _ HX2.out
            have q1 := cell_of_row _ _ 1 _ _ _ HX2.out
            have q2 := cell_of_row _ _ 2 _ _ _ HX2.out
            clear hk0 hsr hne
            go_wp2_with fail
            refine (Swap_k _ _ g (HG.out.below HB2.out) HSS.out).mono ?_
            rw [HSR.out]
            rintro e w3 ⟨vs, rfl, hKs, hb3⟩
            obtain ⟨b0, f0, b1, f1, b2, f2, rfl⟩ := (hKs _ (Only.refl _ _)).shape
            have HKs := Lib.hid hKs
            have HX3 := Lib.hid ((hb3.block _ (Array.getElem?_eq_some_iff.1 HX2.out).1).trans HX2.out)
            have HZ3 := Lib.hid ((hb3.block _ (Array.getElem?_eq_some_iff.1 HZ2.out).1).trans HZ2.out)
            have HB3 := Lib.hid (HB2.out.trans (hb3.mono HB2.out.size))
            have HLT : Hid (w.heap.size + 1 < w2.heap.size) := (Array.getElem?_eq_some_iff.1 HZ2.out).1
            have q0 := cell_of_row _ _ 0 _ _ _ HX3.out
            have q1 := cell_of_row _ _ 1 _ _ _ HX3.out
            have q2 := cell_of_row _ _ 2 _ _ _ HX3.out
            have r0 := frozen_of_row _ _ 0 _ _ HX3.out
            have r1 := frozen_of_row _ _ 1 _ _ HX3.out
            have r2 := frozen_of_row _ _ 2 _ _ HX3.out
            clear hKs hb3
            go_wp2
            go_meet
            case rel =>
              have hc3 := three_set (a := .slice b0 (swapG g).owner.length f0) (b := .slice b1 (swapG g).prio.length f1) (c := .slice b2 (swapG g).succ.length f2) HX3.out
              have ho := three_only w3 w.heap.size (.slice b0 (swapG g).owner.length f0) (.slice b1 (swapG g).prio.length f1) (.slice b2 (swapG g).succ.length f2)
              refine ⟨swapG g, b0, b1, b2, f0, f1, f2, _, _, _, by rw [HSH.out], HVH, hc3, fun W hW => HKs.out W ?_, (ho.block _ (by have := HLT.out; have := (Array.getElem?_eq_some_iff.1 HZ3.out).1; omega) (fun e => by have e : w.heap.size + 1 = w.heap.size := e; omega)).trans HZ3.out, HB3.out.trans (ho.below _ (fun q e => by have e : q = w.heap.size := e; omega) HB3.out.size)⟩
              exact (ho.mono fun q _ (e : q = w.heap.size) => by have := HLT.out; show q < _; omega).trans (hW.mono fun q _ e => by have := HLT.out; show q < _; rcases e with e | e <;> omega)
        case rest =>
          obtain ⟨h, b0, b1, b2, e0, e1, e2, m0, m1, m2, rfl, HVH, HXc, HKG, HZc, HBc⟩ := hcut
          generalize wc = wd at *
          clear HHI HG HVV HSS HN0 HN1 HN2 HX2 HZ2 HB2 HP hdP hmP hh hh0 h3
          have HM1 : Hid (m1 = h.prio.length) := by
            obtain ⟨a', c', ee⟩ := (HKG.out _ (Only.refl _ _)).parts3.2.1.shape
            injection ee
          have hm3 : m1 ≤ 3000 := by have := HM1.out; have := HVH.out.2.1; omega
          obtain ⟨hi, hhi⟩ : ∃ n : Nat, highG h = (n : Int) := ⟨(highG h).toNat, by have := high_nn h; omega⟩
          have hh1 : hi ≤ 5001 := by have := HVH.out.2.2.2; omega
          have HHI := Lib.hid hhi
          rw [hhi]
          obtain ⟨pt, hpt⟩ : ∃ n : Nat, partN hi = n := ⟨_, rfl⟩
          have HPT := Lib.hid hpt
          have hpb : pt ≤ 3000 := by rw [← hpt]; unfold partN; omega
          have HPC : Hid (∀ W, Calls Try.prog 50 #[.int .i64 (hi : Int)] W (Quiet (.int .i64 (pt : Int)) W)) := fun W => by rw [← hpt]; exact rpart_c W hi (by omega)
          clear hhi hpt
          have mki := fun wx => run_make_row' (P := Try.prog) 22 3 (.int .i64 0) 8 Try.underlying22 info_int rfl .i64 .i64 pt (by omega) (by omega) wx
          have hsz := (Array.getElem?_eq_some_iff.1 HZc.out).1
          have HXD : Hid (∀ W, Below wd.drew.heap.size wd.drew W → W.heap[w.heap.size]? = some (.cells #[.slice b0 m0 e0, .slice b1 m1 e1, .slice b2 m2 e2] 25 (0, 0))) := fun W h => (((Below.drew (B := wd.heap.size) (Below.refl _ _)).trans h).block _ (by omega)).trans HXc.out
          have HBD : Hid (∀ W, Below wd.drew.heap.size wd.drew W → Below wd.heap.size wd W) := fun W h => (Below.drew (B := wd.heap.size) (Below.refl _ _)).trans h
          have HSZ : Hid (w.heap.size + 1 < wd.heap.size) := hsz
          clear hsz
          go_upto_region 14 with (fail)
          go_cut [9] (fun v9 wx => ∃ (z ob : Nat), v9 = .pointer (some ⟨z, 0, none⟩) ∧ Hid (LB wd wx b0 b1 b2 m0 m1 m2 e0 e1 e2 h z ob pt 0))
          case first J' K' hJR hMK =>
            have HMK := Lib.hid hMK
            have HJR := Lib.hid hJR
            clear hMK hJR
            refine region_last hmx (R33 b0 b1 b2 m0 m1 m2 e0 e1 e2 hi pt wd.heap.size) (fun vs => { tmps := (_ :: _ :: _ :: _ :: _ :: _ :: _ :: _ :: _ :: vs 5 :: _ :: _ :: _ :: _ :: _ :: _ :: _ :: _ :: _ :: _ :: _ :: _ :: _ :: _ :: _ :: _ :: _ :: _ :: _ :: _ :: _ :: _ :: _ :: _ :: _ :: _ :: _ :: _ :: _ :: _ :: _ :: _ :: _ :: _ :: _ :: _ :: _ :: _ :: _ :: _ :: vs 0 :: vs 1 :: vs 2 :: vs 3 :: vs 4 :: _ :: _ :: _ :: _ :: _ :: _ :: _ :: _ :: _ :: _ :: _ :: _ :: _ :: _ :: _ :: _ :: _ :: _ :: _ :: _ :: []).toArray, defers := [] }) (fun n => [u50, u51, u52, u53, u54, undef].getD n undef) 6 rfl (by kernel_rfl) (by kernel_rfl) (R33.mono b0 b1 b2 m0 m1 m2 e0 e1 e2 hi pt wd.heap.size) ?step ?last
            case step =>
              intro ix o hlt ho
              match ix, hlt, ho with
              | 0, hlt, ho =>
                obtain rfl := Option.some.inj ho
                intro vs W K hB hD hK
                have HK := Lib.hid hK
                have d0 := cell_of_row _ _ 0 _ _ _ (HXD.out W hB)
                have d1 := cell_of_row _ _ 1 _ _ _ (HXD.out W hB)
                have d2 := cell_of_row _ _ 2 _ _ _ (HXD.out W hB)
                clear hK hD ho hlt
                dsimp only
                go_simp
                have h := HK.out _ _ (Below.refl _ _) rfl
                simp only [upd, Nat.reduceEqDiff, reduceIte] at h
                exact h
              | 1, hlt, ho =>
                obtain rfl := Option.some.inj ho
                intro vs W K hB hD hK
                have HK := Lib.hid hK
                clear hK hD ho hlt
                dsimp only
                go_simp
                have h := HK.out _ _ (Below.refl _ _) rfl
                simp only [upd, Nat.reduceEqDiff, reduceIte] at h
                exact h
              | 2, hlt, ho =>
                obtain rfl := Option.some.inj ho
                intro vs W K hB hD hK
                have HK := Lib.hid hK
                have e1 : vs 1 = .int .i64 (hi : Int) := dep_of hD 1 (by rfl)
                clear hK hD ho hlt
                dsimp only
                go_simp
                refine (HPC.out W).mono ?_
                rintro e W' ⟨rfl, n', rfl⟩
                have h := HK.out _ _ (below_draws _ _ n') rfl
                simp only [upd, Nat.reduceEqDiff, reduceIte, e1] at h
                exact h
              | 3, hlt, ho =>
                obtain rfl := Option.some.inj ho
                intro vs W K hB hD hK
                have HK := Lib.hid hK
                have e2 : vs 2 = .int .i64 (pt : Int) := dep_of hD 2 (by rfl)
                clear hK hD ho hlt
                dsimp only
                go_simp
                have h := HK.out _ _ (bel_box _) ⟨_, rfl, hB.size, heap_alloc_new _ _⟩
                simp only [upd, Nat.reduceEqDiff, reduceIte, e2] at h
                exact h
              | 4, hlt, ho =>
                obtain rfl := Option.some.inj ho
                intro vs W K hB hD hK
                have HK := Lib.hid hK
                have e0 : vs 0 = .agg #[.slice b0 m0 e0, .slice b1 m1 e1, .slice b2 m2 e2] := dep_of hD 0 (by rfl)
                obtain ⟨ob, e3, hob, hobh⟩ : ∃ ob, vs 3 = .slice (some ⟨ob, 0, none⟩) pt pt ∧ wd.heap.size ≤ ob ∧ W.heap[ob]? = some (.cells (madeCells #[.int .i64 0] pt) 3 (0, 0)) := dep_of hD 3 (by rfl)
                clear hK hD ho hlt
                dsimp only
                go_simp
                have h := HK.out _ _ (Below.refl _ _) ⟨ob, rfl, hob, hobh⟩
                simp only [upd, Nat.reduceEqDiff, reduceIte, e0, e3] at h
                exact h
              | 5, hlt, ho =>
                obtain rfl := Option.some.inj ho
                intro vs W K hB hD hK
                have HK := Lib.hid hK
                clear hK hD ho hlt
                dsimp only
                go_simp
                have h := HK.out _ _ (bel_box _) ⟨_, rfl, hB.size, heap_alloc_new _ _⟩
                simp only [upd, Nat.reduceEqDiff, reduceIte] at h
                exact h
              | q + 6, hlt, ho => omega
            case last =>
              intro o ho
              obtain rfl := Option.some.inj ho
              intro vs W K hB hall hK
              have HK := Lib.hid hK
              obtain ⟨ob, e4, hob, hobh⟩ : ∃ ob, vs 4 = .agg #[.slice b0 m0 e0, .slice b1 m1 e1, .slice b2 m2 e2, .slice (some ⟨ob, 0, none⟩) pt pt] ∧ wd.heap.size ≤ ob ∧ W.heap[ob]? = some (.cells (madeCells #[.int .i64 0] pt) 3 (0, 0)) := hall 4 (by omega)
              obtain ⟨z, e5, hz, hzh⟩ : ∃ z, vs 5 = .pointer (some ⟨z, 0, none⟩) ∧ wd.heap.size ≤ z ∧ W.heap[z]? = some (.cells #[.slice none 0 0, .slice none 0 0, .slice none 0 0, .slice none 0 0] 49 (0, 0)) := hall 5 (by omega)
              have hoz : ob ≠ z := fun e => by
                rw [e, hzh] at hobh
                simp at hobh
              have c0 := cell_of_row _ _ 0 _ _ _ hzh
              have f0 := frozen_of_row _ _ 0 _ _ hzh
              have c1 := cell_of_row _ _ 1 _ _ _ hzh
              have f1 := frozen_of_row _ _ 1 _ _ hzh
              have c2 := cell_of_row _ _ 2 _ _ _ hzh
              have f2 := frozen_of_row _ _ 2 _ _ hzh
              have c3 := cell_of_row _ _ 3 _ _ _ hzh
              have f3 := frozen_of_row _ _ 3 _ _ hzh
              have HZ4 := Lib.hid (four_setR (a := .slice b0 m0 e0) (b := .slice b1 m1 e1) (c := .slice b2 m2 e2) (d := .slice (some ⟨ob, 0, none⟩) pt pt) hzh)
              have HO4 := Lib.hid (four_only W z (.slice b0 m0 e0) (.slice b1 m1 e1) (.slice b2 m2 e2) (.slice (some ⟨ob, 0, none⟩) pt pt))
              have HOB := Lib.hid hobh
              have HBW := Lib.hid (HBD.out W hB)
              clear hK hall ho hobh hzh
              dsimp only
              go_simp
              refine HK.out _ _ ?_
              show K' _ _
              refine HMK.out _ _ (Met.intro (HJR.out _ _ ?_))
              (repeat apply Exists.intro)
              refine ⟨?rel, rfl⟩
              case rel =>
                refine ⟨z, ob, rfl, ?_⟩
                exact {
                  be := HBW.out.trans (HO4.out.below _ (fun q e => by have e : q = z := e; omega) HBW.out.size)
                  vw := HZ4.out
                  L := by rw [← mostL_zero]; exact (OI_made HOB.out hob hpb).only HO4.out (fun k e hk => by have hk : k = z := hk; simp [Value.ownBlock] at e; omega)
                  zB := hz
                  ne := hoz }
          case rest =>
            obtain ⟨z, ob, rfl, hL⟩ := hcut
            obtain ⟨-, hg1, -⟩ := (HKG.out _ (Only.refl _ _)).parts3
            obtain ⟨bP, oP, hdP, hmP, hVP⟩ := hg1.dat
            have HP := Lib.hid hVP
            have HX9 := Lib.hid ((hL.out.be.block _ (by have := HSZ.out; omega)).trans HXc.out)
            clear hg1 hVP mki HPC HXD HBD
            have d0 := cell_of_row _ _ 0 _ _ _ HX9.out
            have d1 := cell_of_row _ _ 1 _ _ _ HX9.out
            go_upto_region 16 with (fail)
            clear d0 d1 HX9
            go_loopg [58] m1 (fun gh i wr => ∃ k : Nat, gh = m1 - k ∧ i = .int .i64 (k : Int) ∧ k ≤ m1 ∧ Hid (LB wd wr b0 b1 b2 m0 m1 m2 e0 e1 e2 h z ob pt k))
            case atStart => exact ⟨0, rfl, rfl, by omega, hL⟩
            case round =>
              obtain ⟨j, hgj, rfl, hj, hL2⟩ := hrel
              have HGJ := Lib.hid hgj
              clear hgj hL
              by_cases hlt : j < m1
              · as_aux_lemma =>
                have hj1 : (j : Int) < (m1 : Int) := by omega
                obtain rfl := hdP (by omega)
                have hjp : j < h.prio.length := by have := HM1.out; omega
                obtain ⟨x, hx⟩ : ∃ x : Nat, h.prio.getD j 0 = (x : Int) := by
                  have h1 := HVH.out.2.2.1 (h.prio.getD j 0) (by rw [getD_lt _ _ _ hjp]; exact List.getElem_mem hjp)
                  exact ⟨(h.prio.getD j 0).toNat, by omega⟩
                have hxh : (x : Int) ≤ (hi : Int) := by
                  rw [← HHI.out, ← hx, getD_lt _ _ _ hjp]; exact high_ge (List.getElem_mem hjp)
                have e1 := cellB hL2.out.be (HP.out j hlt)
                rw [hx] at e1
                have HX := Lib.hid hx
                clear hx
                have t1 : Int.tmod (x : Int) 2 = ((x % 2 : Nat) : Int) := by rw [Int.tmod_eq_emod_of_nonneg (by omega)]; omega
                have t2 : Int.tdiv (x : Int) 2 = ((x / 2 : Nat) : Int) := by rw [Int.tdiv_eq_ediv_of_nonneg (by omega)]; omega
                have t3 : x / 2 ≤ x := Nat.div_le_self _ _
                have t4 : x % 2 < 2 := Nat.mod_lt _ (by omega)
                by_cases he : x % 2 = 1
                · have hq : x / 2 < pt := by have := HPT.out; unfold partN at this; omega
                  have HLn := Lib.hid (hL2.out.put hjp HX.out he hq)
                  have hlen : (mostL h.prio pt j).length = pt := mostL_len _ _ _
                  have cm := cell_of_row _ _ 3 _ _ _ hL2.out.vw
                  have cn := hL2.out.L.at' (by omega) (x / 2) (by omega)
                  rw [← getD_lt _ 0 _ (by omega)] at cn
                  have cf := hL2.out.L.fz (by omega) (x / 2)
                  obtain ⟨y1, y2⟩ := mostL_bd (pr := h.prio) (j := j) hq
                  generalize (mostL h.prio pt j).getD (x / 2) 0 = y at *
                  have t5 : ((x % 2 : Nat) : Int) = 1 := by omega
                  rw [t5] at t1
                  have HE := Lib.hid he
                  clear t4 t5 he hL2 hlen
                  obtain ⟨q, hqq⟩ : ∃ q, x / 2 = q := ⟨_, rfl⟩
                  rw [hqq] at *
                  clear hqq
                  go_wp2
                  go_roundg (m1 - (j + 1))
                  case measure => have := HGJ.out; omega
                  case rel => exact ⟨j + 1, rfl, by go_num, by omega, HLn⟩
                · have HLn := Lib.hid (hL2.out.skip hjp HX.out (by omega))
                  have t5 : ((x % 2 : Nat) : Int) = 0 := by omega
                  rw [t5] at t1
                  clear t4 t5 hL2 he
                  go_wp2
                  go_roundg (m1 - (j + 1))
                  case measure => have := HGJ.out; omega
                  case rel => exact ⟨j + 1, rfl, by go_num, by omega, HLn⟩
              · as_aux_lemma =>
                have hjm : j = m1 := by omega
                have HMA : Hid (mostL h.prio pt j = castM (moG h)) := by
                  show _ = _
                  rw [← mostL_all h, hjm, HM1.out, HHI.out, ← HPT.out]; rfl
                have HJM := Lib.hid hjm
                have hzs : w.heap.size + 1 < wr.heap.size := by have := HSZ.out; have := hL2.out.be.size; omega
                have HZr := Lib.hid ((hL2.out.be.block _ (by have := HSZ.out; omega)).trans HZc.out)
                have HBr := Lib.hid (HBc.out.trans (hL2.out.be.mono HBc.out.size))
                have z0 := cell_of_row _ _ 0 _ _ _ hL2.out.vw
                have z1 := cell_of_row _ _ 1 _ _ _ hL2.out.vw
                have z2 := cell_of_row _ _ 2 _ _ _ hL2.out.vw
                have z3 := cell_of_row _ _ 3 _ _ _ hL2.out.vw
                have r0 := cell_of_row _ _ 0 _ _ _ HZr.out
                have r1 := cell_of_row _ _ 1 _ _ _ HZr.out
                have r2 := cell_of_row _ _ 2 _ _ _ HZr.out
                have r3 := cell_of_row _ _ 3 _ _ _ HZr.out
                have q0 := frozen_of_row _ _ 0 _ _ HZr.out
                have q1 := frozen_of_row _ _ 1 _ _ HZr.out
                have q2 := frozen_of_row _ _ 2 _ _ HZr.out
                have q3 := frozen_of_row _ _ 3 _ _ HZr.out
                have hjd : ¬ (j : Int) < (m1 : Int) := by omega
                clear hjm
                go_wp2
                have hc4 := four_setR (a := .slice b0 m0 e0) (b := .slice b1 m1 e1) (c := .slice b2 m2 e2) (d := .slice (some ⟨ob, 0, none⟩) pt pt) HZr.out
                have k0 := cell_of_row _ _ 0 _ _ _ hc4
                have k1 := cell_of_row _ _ 1 _ _ _ hc4
                have k2 := cell_of_row _ _ 2 _ _ _ hc4
                have k3 := cell_of_row _ _ 3 _ _ _ hc4
                refine bodyPost_ret (v := .tuple #[.agg #[.slice b0 m0 e0, .slice b1 m1 e1, .slice b2 m2 e2, .slice (some ⟨ob, 0, none⟩) pt pt], .bool true]) (by simp [results, Try.results33, go_sem, k0, k1, k2, k3]) rfl ?_
                have ho := four_only wr (w.heap.size + 1) (.slice b0 m0 e0) (.slice b1 m1 e1) (.slice b2 m2 e2) (.slice (some ⟨ob, 0, none⟩) pt pt)
                refine LookOut.yes HVH.out.1 ⟨_, _, _, _, rfl, HKG.out _ ((Only.of_below hL2.out.be).trans (ho.mono fun q _ e => .inr e)), ?_⟩ (HEND.out _ HBr.out _ _ _ _)
                rw [← HMA.out]
                exact (hL2.out.L.only ho (fun k e hk => by have hk : k = w.heap.size + 1 := hk; have := hL2.out.L.ge k e; have := HSZ.out; omega)).is (by rw [mostL_len]; unfold maxN; omega) (fun y hy => by
                  obtain ⟨i, hi', e⟩ := List.getElem_of_mem hy
                  have hi2 : i < pt := by simpa [mostL] using hi'
                  obtain ⟨y1, y2⟩ := mostL_bd (pr := h.prio) (j := j) hi2
                  rw [getD_lt _ _ _ hi', e] at y1 y2
                  have := HJM.out
                  unfold I64; omega)

end Go.Proofs.Ytijkjhcigdfdgaa
