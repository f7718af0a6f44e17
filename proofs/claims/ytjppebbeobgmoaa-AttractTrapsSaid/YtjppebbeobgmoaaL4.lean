/- The law AttractComplements returns true: its walk. -/
import Derived.Test.YtjppebbeobgmoaaL2
import Derived.Test.YtjppebbeobgmoaaP22
import Derived.Deep.RegionHeld3
namespace Go.Proofs.Ytjppebbeobgmoaa
open Go.RowKit

/-- A set that is a trap. -/
def TrOK (g : Gm) (W : World) (q : Int) (v : Value) : Prop := ∃ l, IsBools W v l ∧ fitsB g q l.length = true ∧ trapB g q l = true

theorem fits_other {g : Gm} {p : Int} {n : Nat} (h : fitsB g p n = true) : fitsB g (1 - p) n = true := by
  simp only [fitsB, Bool.and_eq_true, Bool.or_eq_true, decide_eq_true_eq] at h ⊢
  exact ⟨⟨by omega, h.1.2⟩, h.2⟩

theorem Closed_yes (w : World) (vg vs : Value) (g : Gm) (p : Int) (s : List Bool) {n : Nat} (hn : s.length = n) (hg : IsGame w vg g) (hs : IsBools w vs s) (hS : ∀ i, (g.succ.getD i []).length ≤ 1000) (hf : fitsB g p n = true) :
    Calls Try.prog 17 #[vg, .int .i64 p, vs] w (SetOr true (closedQ g p s) w) := by
  subst hn
  have := Closed_c w vg vs g p s hg hs hS
  rwa [hf] at this

set_option maxRecDepth 100000 in
set_option maxHeartbeats 8000000 in
theorem L4_walk (w : World) (vg vs : Value) (g : Gm) (b : Bool) (s : List Bool) (hg : IsGame w vg g) (hs : IsBools w vs s) :
    Calls Try.prog 6 #[vg, .bool b, vs] w (Calm (.bool true) w) := by
  have hgx := hg
  have hsx := hs
  obtain ⟨v0, v1, v2, rfl, ⟨⟨ao0, cap0, b0, off0, rfl, g0⟩, _⟩, ⟨⟨ao1, cap1, b1, off1, rfl, g1⟩, _⟩, ⟨V, ⟨ao2, cap2, b2, off2, rfl, g2⟩, hr⟩⟩ := hg
  obtain ⟨aos, caps, bs, offs, rfl, hs⟩ := hs
  have hns := hs.nb
  clear g0 g1 g2 hr hs
  cases hrt : rightB g s.length
  · go_enter Try.func6, Try.ntmps6
    go_wp2_with fail
    refine (head_c _).mono ?_
    rintro e w1 ⟨rfl, hb1⟩
    have hB1 := Boxed.start hb1
    (have d0 : w1.cell? ⟨w.heap.size, 0, none⟩ = some (Value.slice ao0 g.owner.length cap0) := hB1.cell 0 rfl); (have d1 : w1.cell? ⟨w.heap.size, 1, none⟩ = some (Value.slice ao1 g.prio.length cap1) := hB1.cell 1 rfl); (have d2 : w1.cell? ⟨w.heap.size, 2, none⟩ = some (Value.slice ao2 g.succ.length cap2) := hB1.cell 2 rfl)
    clear hb1
    go_wp2_with fail
    refine (right_c _ _ g _ _ _ (hgx.below hB1.bl)).mono ?_
    rintro e w2 ⟨rfl, hb2⟩
    rw [hrt]
    go_wp2
    go_ret
    exact ⟨rfl, hB1.bl.trans (hb2.mono hB1.bl.size)⟩
  obtain ⟨hS, h24⟩ := right_small hrt
  obtain ⟨p, hp⟩ : ∃ p : Int, p = if b then 1 else 0 := ⟨_, rfl⟩
  have hp1 : p = 0 ∨ p = 1 := by rw [hp]; cases b <;> simp
  have hf := right_fits hrt hp1
  have F := fits_of hf
  have HPB := Lib.hid hp
  have A := F.attr hS (t := s) rfl
  have A2 := F.other.attr hS (t := notL s) (notL_len s)
  have T := L4_facts F hS (s := s) rfl
  have hc := F.closed_len hS (s := s) rfl
  obtain ⟨la, hla⟩ : ∃ x, x = (attQ g p s).inn := ⟨_, rfl⟩
  obtain ⟨lm, hlm⟩ : ∃ x, x = (attQ g p s).mv := ⟨_, rfl⟩
  obtain ⟨lb, hlb⟩ : ∃ x, x = (attQ g (1 - p) (notL s)).inn := ⟨_, rfl⟩
  obtain ⟨ln, hln⟩ : ∃ x, x = (attQ g (1 - p) (notL s)).mv := ⟨_, rfl⟩
  obtain ⟨lc, hlc⟩ : ∃ x, x = closedQ g p s := ⟨_, rfl⟩
  have HA1 : Hid (∀ W : World, Below w.heap.size w W → Calls Try.prog 11 #[.agg #[Value.slice ao0 g.owner.length cap0, Value.slice ao1 g.prio.length cap1, Value.slice ao2 g.succ.length cap2], .int .i64 p, Value.slice aos s.length caps] W (TwoOr true la lm W)) := fun W hW => by
    have := Attract_yes W _ _ g p s rfl (hgx.below hW) (hsx.below hW) hS hf
    rwa [← hla, ← hlm] at this
  have HA2 : Hid (∀ (W : World) (v : Value), Below w.heap.size w W → IsBools W v (notL s) → Calls Try.prog 11 #[.agg #[Value.slice ao0 g.owner.length cap0, Value.slice ao1 g.prio.length cap1, Value.slice ao2 g.succ.length cap2], .int .i64 (1 - p), v] W (TwoOr true lb ln W)) := fun W v hW hv => by
    have := Attract_yes W _ _ g (1 - p) _ (notL_len s) (hgx.below hW) hv hS (fits_other hf)
    rwa [← hlb, ← hln] at this
  have HC : Hid (∀ (W : World), Below w.heap.size w W → Calls Try.prog 17 #[.agg #[Value.slice ao0 g.owner.length cap0, Value.slice ao1 g.prio.length cap1, Value.slice ao2 g.succ.length cap2], .int .i64 p, Value.slice aos s.length caps] W (SetOr true lc W)) := fun W hW => by
    have := Closed_yes W _ _ g p s rfl (hgx.below hW) (hsx.below hW) hS hf
    rwa [← hlc] at this
  have hTr : Hid (∀ (W : World) (q : Int) (v : Value), Below w.heap.size w W → TrOK g W q v → Calls Try.prog 15 #[.agg #[Value.slice ao0 g.owner.length cap0, Value.slice ao1 g.prio.length cap1, Value.slice ao2 g.succ.length cap2], .int .i64 q, v] W (Calm (.bool true) W)) := fun W q v hW ⟨l, h1, h2, h3⟩ => by
    have := Trap_c W _ _ g q l (hgx.below hW) h1
    rwa [h2, h3] at this
  rw [← hla] at A T
  rw [← hlb] at A2 T
  rw [← hlc] at T hc
  have HL : Hid (la.length = s.length ∧ lb.length = s.length ∧ lc.length = s.length) := ⟨A.li, by rw [A2.li, notL_len], hc⟩
  have HT : Hid (trapB g p (notL la) = true ∧ partB lc s = true ∧ trapB g (1 - p) lc = true ∧ lc = notL lb) := T
  have HF : Hid (fitsB g p s.length = true ∧ fitsB g (1 - p) s.length = true) := ⟨hf, fits_other hf⟩
  have hpr : 0 ≤ p ∧ p ≤ 1 := by omega
  have hnl : (notL s).length ≤ maxN := by rw [notL_len]; exact hns
  clear A A2 T F hla hlm hlb hln hlc hp hp1 hf hS hc
  go_enter Try.func6, Try.ntmps6
  go_wp2_with fail
  refine (head_c _).mono ?_
  rintro e w1 ⟨rfl, hb1⟩
  have hB1 := Boxed.start hb1
  (have d0 : w1.cell? ⟨w.heap.size, 0, none⟩ = some (Value.slice ao0 g.owner.length cap0) := hB1.cell 0 rfl); (have d1 : w1.cell? ⟨w.heap.size, 1, none⟩ = some (Value.slice ao1 g.prio.length cap1) := hB1.cell 1 rfl); (have d2 : w1.cell? ⟨w.heap.size, 2, none⟩ = some (Value.slice ao2 g.succ.length cap2) := hB1.cell 2 rfl)
  clear hb1
  go_wp2_with fail
  refine (right_c _ _ g _ _ _ (hgx.below hB1.bl)).mono ?_
  rintro e w2 ⟨rfl, hb2⟩
  rw [hrt]
  have hB2 := hB1.step hb2
  clear d0 d1 d2 hb2 hB1
  (have d0 : w2.cell? ⟨w.heap.size, 0, none⟩ = some (Value.slice ao0 g.owner.length cap0) := hB2.cell 0 rfl); (have d1 : w2.cell? ⟨w.heap.size, 1, none⟩ = some (Value.slice ao1 g.prio.length cap1) := hB2.cell 1 rfl); (have d2 : w2.cell? ⟨w.heap.size, 2, none⟩ = some (Value.slice ao2 g.succ.length cap2) := hB2.cell 2 rfl)
  go_upto_if 20 with (fail)
  go_cut [8] (fun v wx => w2 = wx ∧ v = .int .i64 p)
  case first =>
    cases b
    all_goals
      go_wp2
      go_meet
      case rel => exact ⟨rfl, by rw [HPB.out]; rfl⟩
  case rest =>
    obtain ⟨hw, rfl⟩ := hcut
    subst hw
    clear HPB
    go_wp2_with fail
    refine (HA1.out _ hB2.bl).mono ?_
    rintro e w3 ⟨va, vm, rfl, ha, -, hb3⟩
    simp only [if_true] at ha
    have hB3 := hB2.step hb3
    clear d0 d1 d2 hb3 hB2 HA1
    (have d0 : w3.cell? ⟨w.heap.size, 0, none⟩ = some (Value.slice ao0 g.owner.length cap0) := hB3.cell 0 rfl); (have d1 : w3.cell? ⟨w.heap.size, 1, none⟩ = some (Value.slice ao1 g.prio.length cap1) := hB3.cell 1 rfl); (have d2 : w3.cell? ⟨w.heap.size, 2, none⟩ = some (Value.slice ao2 g.succ.length cap2) := hB3.cell 2 rfl)
    go_wp2_with fail
    refine (HC.out _ hB3.bl).mono ?_
    rintro e w4 ⟨vc, rfl, hc, hb4, -⟩
    simp only [if_true] at hc
    have hB4 := hB3.step hb4
    have ha4 := ha.below hb4
    clear d0 d1 d2 hb4 hB3 HC ha
    (have d0 : w4.cell? ⟨w.heap.size, 0, none⟩ = some (Value.slice ao0 g.owner.length cap0) := hB4.cell 0 rfl); (have d1 : w4.cell? ⟨w.heap.size, 1, none⟩ = some (Value.slice ao1 g.prio.length cap1) := hB4.cell 1 rfl); (have d2 : w4.cell? ⟨w.heap.size, 2, none⟩ = some (Value.slice ao2 g.succ.length cap2) := hB4.cell 2 rfl)
    have hsub : IntKind.i64.wrap (1 - p) = 1 - p := IntWalk.i64_in _ (by omega)
    go_upto_region 9 with (fail)
    go_cut [12] (fun s12 wx => ∃ vb, vb = s12 ∧ OB wx w.heap.size vb lb ∧ Below w4.heap.size w4 wx)
    case first =>
      go_region_with (first | (go_at_call 21; refine (Not_c _ _ s (hsx.below hB4.bl.drew)).mono ?_; rintro e w5 ⟨v5, rfl, ho5, hb5⟩; have hb6 := (Below.drew (Below.refl w4.heap.size w4)).trans hb5; have e0 := cellB hb5 d0; have e1 := cellB hb5 d1; have e2 := cellB hb5 d2) | (go_at_call 11; refine (HA2.out _ _ (hB4.bl.trans (hb6.mono hB4.bl.size)) (ho5.is hnl)).mono ?_; rintro e w6 ⟨x1, x2, rfl, hx1, hx2, hb7⟩))
      all_goals go_wp2_with fail
      all_goals
        go_meet
        case rel => exact ⟨_, rfl, OB.base hx1 (hB4.bl.trans (hb6.mono hB4.bl.size)).size, hb6.trans (hb7.mono hb6.size)⟩
    case rest =>
      obtain ⟨vb, rfl, hob, hbw⟩ := hcut
      have hB5 := hB4.step hbw
      have ia : IsBools wc va la := (ha4.below hbw).is (by rw [HL.out.1]; exact hns)
      have ic : IsBools wc vc lc := (hc.below hbw).is (by rw [HL.out.2.2]; exact hns)
      have ib : IsBools wc vb lb := hob.is (by rw [HL.out.2.1]; exact hns)
      clear d0 d1 d2 hB4 ha4 hc hbw hob HA2
      obtain ⟨w5, rfl⟩ : ∃ w5 : World, w5 = wc := ⟨_, rfl⟩
      (have d0 : w5.cell? ⟨w.heap.size, 0, none⟩ = some (Value.slice ao0 g.owner.length cap0) := hB5.cell 0 rfl); (have d1 : w5.cell? ⟨w.heap.size, 1, none⟩ = some (Value.slice ao1 g.prio.length cap1) := hB5.cell 1 rfl); (have d2 : w5.cell? ⟨w.heap.size, 2, none⟩ = some (Value.slice ao2 g.succ.length cap2) := hB5.cell 2 rfl)
      have hnla : (notL la).length ≤ maxN := by rw [notL_len, HL.out.1]; exact hns
      have hnlb : (notL lb).length ≤ maxN := by rw [notL_len, HL.out.2.1]; exact hns
      have hF1 : Hid (fitsB g p (notL la).length = true) := by show _ = _; rw [notL_len, HL.out.1]; exact HF.out.1
      have hF2 : Hid (fitsB g (1 - p) lc.length = true) := by show _ = _; rw [HL.out.2.2]; exact HF.out.2
      have hBQ : Hid (decide (lc = notL lb) = true) := decide_eq_true HT.out.2.2.2
      go_wp2_with fail
      go_region_held3 (fun w' => w'.cell? ⟨w.heap.size, 0, none⟩ = some (Value.slice ao0 g.owner.length cap0) ∧ w'.cell? ⟨w.heap.size, 1, none⟩ = some (Value.slice ao1 g.prio.length cap1) ∧ w'.cell? ⟨w.heap.size, 2, none⟩ = some (Value.slice ao2 g.succ.length cap2)) (exact ⟨d0, d1, d2⟩) (first | (go_at_call_of 21 va; refine (Not_c _ _ la (IsArr.below ia (Below.drew (Below.refl _ _)))).mono ?_; rintro e w6 ⟨vna, rfl, hna, hs6⟩; have hz6 := (Below.drew (Below.refl w5.heap.size w5)).trans hs6; have hB6 := hB5.step hz6; have tr6 : TrOK g w6 p vna := ⟨_, hna.is hnla, hF1.out, HT.out.1⟩; have d0 : w6.cell? ⟨w.heap.size, 0, none⟩ = some (Value.slice ao0 g.owner.length cap0) := hB6.cell 0 rfl; have d1 : w6.cell? ⟨w.heap.size, 1, none⟩ = some (Value.slice ao1 g.prio.length cap1) := hB6.cell 1 rfl; have d2 : w6.cell? ⟨w.heap.size, 2, none⟩ = some (Value.slice ao2 g.succ.length cap2) := hB6.cell 2 rfl) | (go_at_call_of 15 vna; refine (hTr.out _ _ _ hB6.bl tr6).mono ?_; rintro e w7 ⟨rfl, hs7⟩; have hB7 := hB6.step hs7; have hz7 := hz6.trans (hs7.mono hz6.size); have d0 : w7.cell? ⟨w.heap.size, 0, none⟩ = some (Value.slice ao0 g.owner.length cap0) := hB7.cell 0 rfl; have d1 : w7.cell? ⟨w.heap.size, 1, none⟩ = some (Value.slice ao1 g.prio.length cap1) := hB7.cell 1 rfl; have d2 : w7.cell? ⟨w.heap.size, 2, none⟩ = some (Value.slice ao2 g.succ.length cap2) := hB7.cell 2 rfl) | (go_at_call 20; refine (part_c _ _ _ lc s (IsArr.below ic hz7) (hsx.below hB7.bl)).mono ?_; rintro e w8 ⟨rfl, rfl⟩; rw [HT.out.2.1]; have tr8 : TrOK g w8 (1 - p) vc := ⟨_, IsArr.below ic hz7, hF2.out, HT.out.2.2.1⟩) | (go_at_call_of 15 vc; refine (hTr.out _ _ _ hB7.bl tr8).mono ?_; rintro e w9 ⟨rfl, hs9⟩; have hB9 := hB7.step hs9; have hz9 := hz7.trans (hs9.mono hz7.size); have d0 : w9.cell? ⟨w.heap.size, 0, none⟩ = some (Value.slice ao0 g.owner.length cap0) := hB9.cell 0 rfl; have d1 : w9.cell? ⟨w.heap.size, 1, none⟩ = some (Value.slice ao1 g.prio.length cap1) := hB9.cell 1 rfl; have d2 : w9.cell? ⟨w.heap.size, 2, none⟩ = some (Value.slice ao2 g.succ.length cap2) := hB9.cell 2 rfl) | (go_at_call_of 21 vb; refine (Not_c _ _ lb (IsArr.below ib hz9)).mono ?_; rintro e w10 ⟨vnb, rfl, hnb, hs10⟩; have hB10 := hB9.step hs10; have hz10 := hz9.trans (hs10.mono hz9.size); have d0 : w10.cell? ⟨w.heap.size, 0, none⟩ = some (Value.slice ao0 g.owner.length cap0) := hB10.cell 0 rfl; have d1 : w10.cell? ⟨w.heap.size, 1, none⟩ = some (Value.slice ao1 g.prio.length cap1) := hB10.cell 1 rfl; have d2 : w10.cell? ⟨w.heap.size, 2, none⟩ = some (Value.slice ao2 g.succ.length cap2) := hB10.cell 2 rfl) | (go_at_call 13; refine (Bools_c _ _ _ lc (notL lb) (IsArr.below ic hz10) (hnb.is hnlb)).mono ?_; rintro e w11 ⟨rfl, n11, hx11⟩; rw [hBQ.out]; have hs11 : Below w10.heap.size w10 w11 := (by rw [hx11]; exact belD (Below.refl _ _) _); clear hx11; have hB11 := hB10.step hs11; have d0 : w11.cell? ⟨w.heap.size, 0, none⟩ = some (Value.slice ao0 g.owner.length cap0) := hB11.cell 0 rfl; have d1 : w11.cell? ⟨w.heap.size, 1, none⟩ = some (Value.slice ao1 g.prio.length cap1) := hB11.cell 1 rfl; have d2 : w11.cell? ⟨w.heap.size, 2, none⟩ = some (Value.slice ao2 g.succ.length cap2) := hB11.cell 2 rfl))
      all_goals go_wp2
      all_goals go_ret
      all_goals exact ⟨rfl, hB11.bl⟩

end Go.Proofs.Ytjppebbeobgmoaa
