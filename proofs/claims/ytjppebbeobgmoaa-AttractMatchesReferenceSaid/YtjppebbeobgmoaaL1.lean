/- The law AttractMatchesReference returns true: its walk. -/
import Derived.Test.YtjppebbeobgmoaaC17
import Derived.Deep.RegionHeld3
namespace Go.Proofs.Ytjppebbeobgmoaa
open Go.RowKit

theorem small_succ {g : Gm} {m : Int} (h : smallB g m = true) : ∀ i, (g.succ.getD i []).length ≤ 1000 := fun i => by
  simp only [smallB, Bool.and_eq_true, List.all_eq_true, decide_eq_true_eq] at h
  rcases Nat.lt_or_ge i g.succ.length with hi | hi
  · rw [getD_lt _ _ _ hi]
    have := h.2 _ (List.getElem_mem hi)
    omega
  · simp [List.getD, Nat.not_lt.2 hi]

theorem attQ_eq' {g : Gm} {p : Int} {t : List Bool} (F : Fits g p t.length) (hS : ∀ i, (g.succ.getD i []).length ≤ 1000) : (attQ g p t).inn = (attrL g p t).1 ∧ (attQ g p t).mv = (attrL g p t).2 :=
  attQ_eq g p t F.rg F.ne hS

theorem closed_eq' {g : Gm} {p : Int} {t : List Bool} (F : Fits g p t.length) (hS : ∀ i, (g.succ.getD i []).length ≤ 1000) : closedQ g p t = closedL g p t :=
  closed_eq t F.pl (fun i hi => by have := F.ow i hi; omega) F.rg F.ne hS

theorem mv_range {g : Gm} {p : Int} {t : List Bool} (h3 : t.length ≤ 3000) (hS : ∀ i, (g.succ.getD i []).length ≤ 1000) : ∀ x ∈ (attQ g p t).mv, I64 x := fun x hx => by
  obtain ⟨j, hj, e⟩ := mem_getD hx
  have h := (attQ_ok g p t hS).mr j
  rw [e] at h
  have hb : t.length * (1000 * t.length) ≤ 3000 * (1000 * 3000) := Nat.mul_le_mul h3 (Nat.mul_le_mul (Nat.le_refl _) h3)
  unfold I64
  omega

set_option maxRecDepth 100000 in
set_option maxHeartbeats 8000000 in
theorem L1_walk (w : World) (vg vs : Value) (g : Gm) (p : Int) (s : List Bool) (hg : IsGame w vg g) (hs : IsBools w vs s) :
    Calls Try.prog 3 #[vg, .int .i64 p, vs] w (Calm (.bool true) w) := by
  have hgx := hg
  have hsx := hs
  obtain ⟨v0, v1, v2, rfl, ⟨⟨ao0, cap0, b0, off0, rfl, g0⟩, _⟩, ⟨⟨ao1, cap1, b1, off1, rfl, g1⟩, _⟩, ⟨V, ⟨ao2, cap2, b2, off2, rfl, g2⟩, hr⟩⟩ := hg
  obtain ⟨aos, caps, bs, offs, rfl, hs⟩ := hs
  have hns := hs.nb
  clear hs g0 g1 g2 hr
  cases hsm : smallB g 24
  · go_enter Try.func3, Try.ntmps3
    go_wp2_with fail
    refine (head_c _).mono ?_
    rintro e w1 ⟨rfl, hb1⟩
    have hB1 := Boxed.start hb1
    have d0 : w1.cell? ⟨w.heap.size, 0, none⟩ = some (Value.slice ao0 g.owner.length cap0) := hB1.cell 0 rfl
    have d1 : w1.cell? ⟨w.heap.size, 1, none⟩ = some (Value.slice ao1 g.prio.length cap1) := hB1.cell 1 rfl
    have d2 : w1.cell? ⟨w.heap.size, 2, none⟩ = some (Value.slice ao2 g.succ.length cap2) := hB1.cell 2 rfl
    clear hb1
    go_wp2_with fail
    refine (Small_c _ _ g 24 (hgx.below hB1.bl)).mono ?_
    rintro e w2 ⟨rfl, hb2⟩
    rw [hsm]
    go_wp2
    go_ret
    exact ⟨rfl, hB1.bl.trans (hb2.mono hB1.bl.size)⟩
  have hS := small_succ hsm
  by_cases h30 : s.length ≤ 30
  case neg =>
    go_enter Try.func3, Try.ntmps3
    go_wp2_with fail
    refine (head_c _).mono ?_
    rintro e w1 ⟨rfl, hb1⟩
    have hB1 := Boxed.start hb1
    have d0 : w1.cell? ⟨w.heap.size, 0, none⟩ = some (Value.slice ao0 g.owner.length cap0) := hB1.cell 0 rfl
    have d1 : w1.cell? ⟨w.heap.size, 1, none⟩ = some (Value.slice ao1 g.prio.length cap1) := hB1.cell 1 rfl
    have d2 : w1.cell? ⟨w.heap.size, 2, none⟩ = some (Value.slice ao2 g.succ.length cap2) := hB1.cell 2 rfl
    clear hb1
    go_wp2_with fail
    refine (Small_c _ _ g 24 (hgx.below hB1.bl)).mono ?_
    rintro e w2 ⟨rfl, hb2⟩
    rw [hsm]
    go_wp2
    go_ret
    exact ⟨rfl, hB1.bl.trans (hb2.mono hB1.bl.size)⟩
  -- the lists, the same on both sides
  have hAB : Hid ((if fitsB g p s.length then (attQ g p s).inn else []) = (if fitsB g p s.length then (attrL g p s).1 else [])) := by
    show _ = _
    cases hf : fitsB g p s.length
    · rfl
    · rw [(attQ_eq' (fits_of hf) hS).1]
  have hMN : Hid ((if fitsB g p s.length then (attQ g p s).mv else []) = (if fitsB g p s.length then (attrL g p s).2 else [])) := by
    show _ = _
    cases hf : fitsB g p s.length
    · rfl
    · rw [(attQ_eq' (fits_of hf) hS).2]
  have hCD : Hid ((if fitsB g p s.length then closedQ g p s else []) = (if fitsB g p s.length then closedL g p s else [])) := by
    show _ = _
    cases hf : fitsB g p s.length
    · rfl
    · rw [closed_eq' (fits_of hf) hS]
  have hla : Hid ((if fitsB g p s.length then (attQ g p s).inn else []).length ≤ maxN) := by
    show _ ≤ _
    split
    · rw [(attQ_ok g p s hS).li]; exact hns
    · exact Nat.zero_le _
  have hlm : Hid ((if fitsB g p s.length then (attQ g p s).mv else []).length ≤ maxN ∧ ∀ x ∈ (if fitsB g p s.length then (attQ g p s).mv else []), I64 x) := by
    show _ ∧ _
    split
    · exact ⟨by rw [(attQ_ok g p s hS).lm]; exact hns, mv_range (by omega) hS⟩
    · exact ⟨Nat.zero_le _, by simp⟩
  have hlc : Hid ((if fitsB g p s.length then closedL g p s else []).length ≤ maxN) := by
    show _ ≤ _
    split
    · rw [show (closedL g p s).length = s.length from clRounds_len _ _ _ _]; exact hns
    · exact Nat.zero_le _
  generalize hGA : (if fitsB g p s.length then (attQ g p s).inn else []) = la at *
  generalize hGM : (if fitsB g p s.length then (attQ g p s).mv else []) = lm at *
  generalize hGC : (if fitsB g p s.length then closedL g p s else []) = lc at *
  have HGA := Lib.hid hGA
  have HGM := Lib.hid hGM
  have HGC := Lib.hid hGC
  clear hGA hGM hGC
  go_enter Try.func3, Try.ntmps3
  go_wp2_with fail
  refine (head_c _).mono ?_
  rintro e w1 ⟨rfl, hb1⟩
  have hB1 := Boxed.start hb1
  have d0 : w1.cell? ⟨w.heap.size, 0, none⟩ = some (Value.slice ao0 g.owner.length cap0) := hB1.cell 0 rfl
  have d1 : w1.cell? ⟨w.heap.size, 1, none⟩ = some (Value.slice ao1 g.prio.length cap1) := hB1.cell 1 rfl
  have d2 : w1.cell? ⟨w.heap.size, 2, none⟩ = some (Value.slice ao2 g.succ.length cap2) := hB1.cell 2 rfl
  clear hb1
  go_wp2_with fail
  refine (Small_c _ _ g 24 (hgx.below hB1.bl)).mono ?_
  rintro e w2 ⟨rfl, hb2⟩
  have hB2 := hB1.step hb2
  rw [hsm]
  clear d0 d1 d2
  have d0 : w2.cell? ⟨w.heap.size, 0, none⟩ = some (Value.slice ao0 g.owner.length cap0) := hB2.cell 0 rfl
  have d1 : w2.cell? ⟨w.heap.size, 1, none⟩ = some (Value.slice ao1 g.prio.length cap1) := hB2.cell 1 rfl
  have d2 : w2.cell? ⟨w.heap.size, 2, none⟩ = some (Value.slice ao2 g.succ.length cap2) := hB2.cell 2 rfl
  clear hb2 hB1
  go_wp2_with fail
  refine (Attract_c _ _ _ g p s (hgx.below hB2.bl) (hsx.below hB2.bl) hS).mono ?_
  rintro e w3 ⟨va, vm, rfl, ha, hm, hb3⟩
  rw [HGA.out] at ha
  rw [HGM.out] at hm
  have hB3 := hB2.step hb3
  clear d0 d1 d2
  have d0 : w3.cell? ⟨w.heap.size, 0, none⟩ = some (Value.slice ao0 g.owner.length cap0) := hB3.cell 0 rfl
  have d1 : w3.cell? ⟨w.heap.size, 1, none⟩ = some (Value.slice ao1 g.prio.length cap1) := hB3.cell 1 rfl
  have d2 : w3.cell? ⟨w.heap.size, 2, none⟩ = some (Value.slice ao2 g.succ.length cap2) := hB3.cell 2 rfl
  clear hb3 hB2
  go_wp2_with fail
  refine (RAttract_c _ _ _ g p s (hgx.below hB3.bl) (hsx.below hB3.bl)).mono ?_
  rintro e w4 ⟨vb, vn, rfl, hb, hn, hb4⟩
  rw [← hAB.out] at hb
  rw [← hMN.out] at hn
  have hB4 := hB3.step hb4
  have hia : IsBools w4 va la := (ha.below hb4).is hla.out
  have hib : IsBools w4 vb la := hb.is hla.out
  have him : IsInts w4 vm lm := (hm.below hb4).is hlm.out.1 hlm.out.2
  have hin : IsInts w4 vn lm := hn.is hlm.out.1 hlm.out.2
  clear d0 d1 d2 hb4 hB3 ha hm hb hn hAB hMN hla HGA HGM
  have d0 : w4.cell? ⟨w.heap.size, 0, none⟩ = some (Value.slice ao0 g.owner.length cap0) := hB4.cell 0 rfl
  have d1 : w4.cell? ⟨w.heap.size, 1, none⟩ = some (Value.slice ao1 g.prio.length cap1) := hB4.cell 1 rfl
  have d2 : w4.cell? ⟨w.heap.size, 2, none⟩ = some (Value.slice ao2 g.succ.length cap2) := hB4.cell 2 rfl
  obtain ⟨z, hz⟩ : ∃ z, z = (fitsB g p s.length && trapB g p s) := ⟨_, rfl⟩
  have hTr : Hid (∀ W : World, Below w.heap.size w W → Calls Try.prog 15 #[.agg #[Value.slice ao0 g.owner.length cap0, Value.slice ao1 g.prio.length cap1, Value.slice ao2 g.succ.length cap2], .int .i64 p, Value.slice aos s.length caps] W (Calm (.bool z) W)) := fun W hW => by rw [hz]; exact Trap_c W _ _ g p s (hgx.below hW) (hsx.below hW)
  have hRT : Hid (∀ W : World, Below w.heap.size w W → Calls Try.prog 16 #[.agg #[Value.slice ao0 g.owner.length cap0, Value.slice ao1 g.prio.length cap1, Value.slice ao2 g.succ.length cap2], .int .i64 p, Value.slice aos s.length caps] W (Calm (.bool z) W)) := fun W hW => by rw [hz]; exact RTrap_c W _ _ g p s (hgx.below hW) (hsx.below hW)
  have hCl : Hid (∀ W : World, Below w.heap.size w W → Calls Try.prog 17 #[.agg #[Value.slice ao0 g.owner.length cap0, Value.slice ao1 g.prio.length cap1, Value.slice ao2 g.succ.length cap2], .int .i64 p, Value.slice aos s.length caps] W (SetOr (fitsB g p s.length) (closedQ g p s) W)) := fun W hW => Closed_c W _ _ g p s (hgx.below hW) (hsx.below hW) hS
  have hRC : Hid (∀ W : World, Below w.heap.size w W → Calls Try.prog 18 #[.agg #[Value.slice ao0 g.owner.length cap0, Value.slice ao1 g.prio.length cap1, Value.slice ao2 g.succ.length cap2], .int .i64 p, Value.slice aos s.length caps] W (SetOr (fitsB g p s.length) (closedL g p s) W)) := fun W hW => RClosed_c W _ _ g p s (hgx.below hW) (hsx.below hW)
  clear hz
  go_wp2_with fail
  cases z
  all_goals
    go_region_held3 (fun w' => w'.cell? ⟨w.heap.size, 0, none⟩ = some (Value.slice ao0 g.owner.length cap0) ∧ w'.cell? ⟨w.heap.size, 1, none⟩ = some (Value.slice ao1 g.prio.length cap1) ∧ w'.cell? ⟨w.heap.size, 2, none⟩ = some (Value.slice ao2 g.succ.length cap2)) (exact ⟨d0, d1, d2⟩) (first | (go_at_call_of 13 va; refine (Bools_c _ _ _ la la (IsArr.below hia (Below.drew (Below.refl _ _))) (IsArr.below hib (Below.drew (Below.refl _ _)))).mono ?_; rintro e w5 ⟨rfl, n5, hx5⟩; rw [decide_eq_true (rfl : la = la)]; have hs5 : Below w4.heap.size w4 w5 := (by rw [hx5]; exact belD (Below.drew (Below.refl _ _)) _); clear hx5; have hB5 := hB4.step hs5; have him5 := him.below hs5; have hin5 := hin.below hs5; have d0 : w5.cell? ⟨w.heap.size, 0, none⟩ = some (Value.slice ao0 g.owner.length cap0) := hB5.cell 0 rfl; have d1 : w5.cell? ⟨w.heap.size, 1, none⟩ = some (Value.slice ao1 g.prio.length cap1) := hB5.cell 1 rfl; have d2 : w5.cell? ⟨w.heap.size, 2, none⟩ = some (Value.slice ao2 g.succ.length cap2) := hB5.cell 2 rfl) | (go_at_call 14; refine (Ints_c _ _ _ lm lm him5 hin5).mono ?_; rintro e w6 ⟨rfl, n6, hx6⟩; rw [decide_eq_true (rfl : lm = lm)]; have hs6 : Below w5.heap.size w5 w6 := (by rw [hx6]; exact belD (Below.refl _ _) _); clear hx6; have hB6 := hB5.step hs6; have d0 : w6.cell? ⟨w.heap.size, 0, none⟩ = some (Value.slice ao0 g.owner.length cap0) := hB6.cell 0 rfl; have d1 : w6.cell? ⟨w.heap.size, 1, none⟩ = some (Value.slice ao1 g.prio.length cap1) := hB6.cell 1 rfl; have d2 : w6.cell? ⟨w.heap.size, 2, none⟩ = some (Value.slice ao2 g.succ.length cap2) := hB6.cell 2 rfl) | (go_at_call 15; refine (hTr.out _ (hB6.bl)).mono ?_; rintro e w7 ⟨rfl, hs7⟩; have hB7 := hB6.step hs7; have d0 : w7.cell? ⟨w.heap.size, 0, none⟩ = some (Value.slice ao0 g.owner.length cap0) := hB7.cell 0 rfl; have d1 : w7.cell? ⟨w.heap.size, 1, none⟩ = some (Value.slice ao1 g.prio.length cap1) := hB7.cell 1 rfl; have d2 : w7.cell? ⟨w.heap.size, 2, none⟩ = some (Value.slice ao2 g.succ.length cap2) := hB7.cell 2 rfl) | (go_at_call 16; refine (hRT.out _ (hB7.bl)).mono ?_; rintro e w8 ⟨rfl, hs8⟩; have hB8 := hB7.step hs8; have d0 : w8.cell? ⟨w.heap.size, 0, none⟩ = some (Value.slice ao0 g.owner.length cap0) := hB8.cell 0 rfl; have d1 : w8.cell? ⟨w.heap.size, 1, none⟩ = some (Value.slice ao1 g.prio.length cap1) := hB8.cell 1 rfl; have d2 : w8.cell? ⟨w.heap.size, 2, none⟩ = some (Value.slice ao2 g.succ.length cap2) := hB8.cell 2 rfl) | (go_at_call 17; refine (hCl.out _ (hB8.bl)).mono ?_; rintro e w9 ⟨vc, rfl, hc9, hs9, -⟩; rw [hCD.out] at hc9; have hB9 := hB8.step hs9; have d0 : w9.cell? ⟨w.heap.size, 0, none⟩ = some (Value.slice ao0 g.owner.length cap0) := hB9.cell 0 rfl; have d1 : w9.cell? ⟨w.heap.size, 1, none⟩ = some (Value.slice ao1 g.prio.length cap1) := hB9.cell 1 rfl; have d2 : w9.cell? ⟨w.heap.size, 2, none⟩ = some (Value.slice ao2 g.succ.length cap2) := hB9.cell 2 rfl) | (go_at_call 18; refine (hRC.out _ (hB9.bl)).mono ?_; rintro e w10 ⟨vd, rfl, hd10, hs10, -⟩; rw [HGC.out] at hd10; have hB10 := hB9.step hs10; have hc10 := hc9.below hs10; have d0 : w10.cell? ⟨w.heap.size, 0, none⟩ = some (Value.slice ao0 g.owner.length cap0) := hB10.cell 0 rfl; have d1 : w10.cell? ⟨w.heap.size, 1, none⟩ = some (Value.slice ao1 g.prio.length cap1) := hB10.cell 1 rfl; have d2 : w10.cell? ⟨w.heap.size, 2, none⟩ = some (Value.slice ao2 g.succ.length cap2) := hB10.cell 2 rfl) | (go_at_call_of 13 vc; refine (Bools_c _ _ _ lc lc (hc10.is hlc.out) (hd10.is hlc.out)).mono ?_; rintro e w11 ⟨rfl, n11, hx11⟩; rw [decide_eq_true (rfl : lc = lc)]; have hs11 : Below w10.heap.size w10 w11 := (by rw [hx11]; exact belD (Below.refl _ _) _); clear hx11; have hB11 := hB10.step hs11; have d0 : w11.cell? ⟨w.heap.size, 0, none⟩ = some (Value.slice ao0 g.owner.length cap0) := hB11.cell 0 rfl; have d1 : w11.cell? ⟨w.heap.size, 1, none⟩ = some (Value.slice ao1 g.prio.length cap1) := hB11.cell 1 rfl; have d2 : w11.cell? ⟨w.heap.size, 2, none⟩ = some (Value.slice ao2 g.succ.length cap2) := hB11.cell 2 rfl))
    all_goals go_wp2
    all_goals go_ret
    all_goals exact ⟨rfl, hB11.bl⟩

end Go.Proofs.Ytjppebbeobgmoaa
