/- What the recursive check of a strategy's graph returns. -/
import Derived.Test.YtkbiopjinegckaaSt11
import Derived.BigQuiet
namespace Go.Proofs.Ytkbiopjinegckaa
open Go.RowKit

/-- The captured boxes of the check. -/
structure Ck (w : World) (zr zp zc gb ob : Nat) (p : Int) : Prop where
  r : w.heap[zr]? = some (.cells #[.pointer (some ⟨gb, 0, none⟩)] 59 (0, 0))
  pl : w.heap[zp]? = some (.cells #[.int .i64 p] 3 (0, 0))
  c : w.heap[zc]? = some (.cells #[.func (.func 45) #[] #[.pointer (some ⟨zr, 0, none⟩), .pointer (some ⟨zp, 0, none⟩), .pointer (some ⟨zc, 0, none⟩)]] 73 (0, 0))
  ne : zr ≠ ob ∧ zp ≠ ob ∧ zc ≠ ob
theorem Ck.step {w W : World} {zr zp zc gb ob : Nat} {p : Int} (h : Ck w zr zp zc gb ob p) (ho : Only (fun k => k = ob) w W) : Ck W zr zp zc gb ob p :=
  ⟨(ho.block _ (Array.getElem?_eq_some_iff.1 h.r).1 h.ne.1).trans h.r, (ho.block _ (Array.getElem?_eq_some_iff.1 h.pl).1 h.ne.2.1).trans h.pl, (ho.block _ (Array.getElem?_eq_some_iff.1 h.c).1 h.ne.2.2).trans h.c, h.ne⟩
/-- What is known of the graph. -/
structure GXn (n : Nat) (prio : List Int) (nx : List (List Int)) (p : Int) : Prop where
  n3 : n ≤ 3000
  pn : prio.length = n
  pr : ∀ v, v < n → 0 ≤ prio.getD v 0 ∧ prio.getD v 0 ≤ 30000
  rg : ∀ v, v < n → ∀ x ∈ nx.getD v [], 0 ≤ x ∧ x < n
  pl : 0 ≤ p ∧ p ≤ 1
theorem GXn.gx {n : Nat} {prio : List Int} {nx : List (List Int)} {p : Int} (h : GXn n prio nx p) {A : Nat → Prop} (hA : ∀ v, A v → v < n) : GX n nx A := ⟨h.n3, h.rg, hA⟩
theorem OI.kpO {w : World} {B ob n : Nat} {v : Value} {l : List Nat} (h : OI w B v (castL l)) (hb : ob < B) (hl : ∀ x ∈ l, x < n) (hn : n ≤ 100000) (hll : l.length ≤ 100000) : KpO ob w v (castL l) := fun W hW =>
  (h.only hW fun k hk hh => by
    have h1 := h.ge k hk
    have h2 := h.lt' k hk
    rcases hh with e | e <;> omega).is (by rw [castL_len]; unfold maxN; omega) (castL_i64 hl hn)

def ChkOut (w : World) (gb nb ob n : Nat) (V : Nat → Value) (vp : Value) (prio : List Int) (nx : List (List Int)) (p : Int) (part : List Nat) (e : Ending) (w' : World) : Prop :=
  ∃ b : Bool, e = .returned (.bool b) ∧ (b = true ↔ GoodL nx prio p part) ∧ GS w' gb nb ob n V vp prio nx (List.replicate n false) ∧ Only (fun k => k = ob) w w'

set_option maxRecDepth 100000 in
set_option maxHeartbeats 8000000 in
theorem check_c (gb nb ob n : Nat) (V : Nat → Value) (vp : Value) (prio : List Int) (nx : List (List Int)) (p : Int) (zr zp zc : Nat) (hx : GXn n prio nx p) (m : Nat) : ∀ (w : World) (vl : Value) (part : List Nat), part.length < m → (∀ v ∈ part, v < n) → part.length ≤ 3000 →
    GS w gb nb ob n V vp prio nx (List.replicate n false) → KpO ob w vl (castL part) → Ck w zr zp zc gb ob p →
    Calls Try.prog 45 #[vl, .pointer (some ⟨zr, 0, none⟩), .pointer (some ⟨zp, 0, none⟩), .pointer (some ⟨zc, 0, none⟩)] w (ChkOut w gb nb ob n V vp prio nx p part) := by
  induction m with
  | zero => intro _ _ _ h; exact absurd h (by omega)
  | succ m ih =>
  intro w vl part hm hpn hp3 hS hl hc
  have HIH := Lib.hid ih
  have HX := Lib.hid hx
  have HPN := Lib.hid hpn
  have HM := Lib.hid hm
  have hn3 := hx.n3
  have HCk := Lib.hid hc
  have HCmp := Lib.hid (components_c w gb nb ob n V vp vl prio nx part hS hl (hx.gx hpn))
  obtain ⟨aP, cP, hvp⟩ := hS.now.2.1.shape
  rw [hx.pn] at hvp
  subst hvp
  have q1 := cell_of_row _ _ 0 _ _ _ hc.r
  clear ih hx hpn hS hl hc hm
  go_enter Try.func45, Try.ntmps45
  go_wp2
  go_step3
  go_wp2
  go_step3
  go_wp2_with fail
  refine HCmp.out.mono ?_
  rintro e w1 ⟨aA, cA, bA, U, cs, rfl, hA, hcl, hU, hS1, hO1, hC⟩
  have HA := Lib.hid hA
  have HU := Lib.hid hU
  have HS1 := Lib.hid hS1
  have HO1 := Lib.hid hO1
  have HC := Lib.hid hC
  clear q1 HCmp hA hU hS1 hO1 hC
  go_wp2
  go_loopg [18] cs.length (fun gh i wr => ∃ k : Nat, gh = cs.length - k ∧ i = .int .i64 k ∧ k ≤ cs.length ∧ Hid (GS wr gb nb ob n V (.slice aP n cP) prio nx (List.replicate n false)) ∧ Hid (Only (fun k => k = ob) w wr) ∧ Hid (Only (fun k => k = ob ∨ w1.heap.size ≤ k) w1 wr) ∧ Hid (∀ j, j < k → GoodL nx prio p (cs.getD j [])))
  case atStart => exact ⟨0, rfl, rfl, by omega, HS1, HO1, Only.refl _ _, fun j hj => absurd hj (by omega)⟩
  case round =>
    clear HS1 HO1
    obtain ⟨k, hgk, rfl, hk, HSr, HOw, HOr, HGd⟩ := hrel
    have HGK := Lib.hid hgk
    clear hgk
    obtain ⟨wo, rfl⟩ : ∃ wo : World, wo = wr := ⟨_, rfl⟩
    by_cases hlt : k < cs.length
    · obtain rfl := HA.out (by omega)
      obtain ⟨eU, iU⟩ := HU.out wo HOr.out k hlt
      obtain ⟨aC, cC, hvU⟩ := iU.shape
      rw [castL_len] at hvU
      have HUc : Hid (∀ W', Only (fun k => k = ob ∨ w1.heap.size ≤ k) w1 W' → IsInts W' (.slice aC (cs.getD k []).length cC) (castL (cs.getD k []))) := fun W' hW => hvU ▸ (HU.out W' hW k hlt).2
      rw [hvU] at eU
      have hcm : cs.getD k [] ∈ cs := by rw [getD_lt _ _ _ hlt]; exact List.getElem_mem hlt
      have HCm := Lib.hid hcm
      obtain ⟨hc1, hc2, hc3⟩ := HC.out.ne _ hcm
      have hcn : ∀ v ∈ cs.getD k [], v < n := fun v hv => HPN.out v (hc3 v hv)
      have hcl3 : (cs.getD k []).length ≤ 3000 := by
        have := nd_len hc2 hcn
        omega
      have hclp : (cs.getD k []).length ≤ part.length := List.Nodup.length_le_of_subset hc2 hc3
      have HCn := Lib.hid hcn
      have HC1 : Hid (cs.getD k [] ≠ [] ∧ (cs.getD k []).Nodup ∧ ∀ x ∈ cs.getD k [], x ∈ part) := ⟨hc1, hc2, hc3⟩
      have HCE := Lib.hid (HC.out.eq _ hcm)
      have HGs : Hid (∀ b, GoodL nx prio p (cs.getD k []) → ∀ j, j < k + 1 → b = true → GoodL nx prio p (cs.getD j [])) := fun b h j hj _ => by
        by_cases e : j = k
        · rw [e]; exact h
        · exact HGd.out j (by omega)
      clear hcm hc1 hc2 hc3 hcn iU hvU
      generalize hce : cs.getD k [] = c at *
      clear hce
      have HCk1 := Lib.hid (HCk.out.step HOw.out)
      have q1 := cell_of_row _ _ 0 _ _ _ HCk1.out.r
      have q2 := cell_of_row _ _ 0 _ _ _ HCk1.out.pl
      have q3 := cell_of_row _ _ 0 _ _ _ HSr.out.now.1
      have HPr := Lib.hid HSr.out.now.2.1
      have HUo := Lib.hid (HUc.out wo HOr.out)
      go_wp2
      go_loopg [8, 24] c.length (fun gh b i wi => ∃ (j nn : Nat), gh = c.length - j ∧ i = .int .i64 j ∧ b = .int .i64 (badM prio p (c.take j)) ∧ j ≤ c.length ∧ wi = wo.drewN nn)
      case atStart => exact ⟨0, 0, rfl, rfl, rfl, by omega, rfl⟩
      case round =>
        obtain ⟨j, nn, hgj, rfl, rfl, hj, rfl⟩ := hrel
        have HGJ := Lib.hid hgj
        clear hgj
        by_cases hjl : j < c.length
        · obtain ⟨bC, oC, had, -, hdt⟩ := HUo.out.dat
          obtain rfl := had (by omega)
          have ev := hdt j hjl
          rw [castL_get hjl] at ev
          have hvn : c.getD j 0 < n := HCn.out _ (by rw [getD_lt _ _ _ hjl]; exact List.getElem_mem hjl)
          have HTk : Hid (c.take (j + 1) = c.take j ++ [c.getD j 0]) := by show _ = _; rw [List.take_succ_eq_append_getElem hjl, getD_lt _ _ _ hjl]
          obtain ⟨bP, oP, hpd, -, hpt⟩ := HPr.out.dat
          obtain rfl := hpd (by omega)
          generalize c.getD j 0 = v at *
          have ep := hpt v hvn
          obtain ⟨p0, p1⟩ := HX.out.pr v hvn
          have HBS := Lib.hid (badM_snoc prio p (c.take j) v)
          have hpv : prF prio v = prio.getD v 0 := rfl
          have HPV := Lib.hid hpv
          have HBD : Hid (badF prio p v ↔ prio.getD v 0 % 2 ≠ p) := Iff.rfl
          clear had hdt hpd hpt hpv
          generalize prio.getD v 0 = pv at *
          generalize badM prio p (c.take j) = bm at *
          have hvi : (v : Int) < n := by omega
          have hmd : Int.tmod pv 2 = pv % 2 := Int.tmod_eq_emod_of_nonneg p0
          cases hb : (pv % 2 != p)
          · have HBn : Hid (badM prio p (c.take (j + 1)) = bm) := by
              show _ = _
              rw [HTk.out, HBS.out, if_neg fun h => HBD.out.1 h (by simpa using hb)]
            go_wp2
            go_quiet (fail)
            go_wp2
            go_roundg (c.length - (j + 1))
            case measure => have := HGJ.out; omega
            case rel => exact ⟨j + 1, _, rfl, by go_num, by rw [HBn.out], by omega, rfl⟩
          · have HBn : Hid (badM prio p (c.take (j + 1)) = min bm pv) := by
              show _ = _
              rw [HTk.out, HBS.out, if_pos (HBD.out.2 (by simpa using hb)), HPV.out]
            go_wp2
            go_quiet (fail)
            go_wp2
            all_goals
              go_roundg (c.length - (j + 1))
              case measure => have := HGJ.out; omega
              case rel => exact ⟨j + 1, _, rfl, by go_num, by rw [HBn.out]; congr 1; omega, by omega, rfl⟩
        · obtain rfl : j = c.length := by omega
          rw [List.take_length]
          have hms := (badM_spec prio p c).2.2
          have HMe : Hid (∀ q, badM prio p c = q → restL prio q c = restL prio (badM prio p c) c) := fun q h => by rw [h]
          have HGN : Hid ((restL prio (badM prio p c) c = [] → GoodL nx prio p c) ∧ (GoodL nx prio p c ↔ GoodL nx prio p (restL prio (badM prio p c) c))) := ⟨good_none, good_rest c⟩
          have HGF : Hid ((∀ v ∈ c, badM prio p c ≤ prF prio v) → (GoodL nx prio p c ↔ ¬ ∃ x y, x ∈ c ∧ y ∈ c ∧ EG nx x y)) := fun h => good_full (A := (· ∈ part)) HC1.out.2.2 (HCE.out) HC1.out.1 (fun x hx => by have := (HX.out.pr x (HCn.out x hx)).2; unfold prF maxI; omega) h
          have HNo : Hid (¬ GoodL nx prio p c → ¬ GoodL nx prio p part) := fun h k => h ((good_comps HC.out).1 k c HCm.out)
          unfold maxI at hms
          clear HMe q1 q2 q3
          generalize badM prio p c = bm at *
          go_wp2
          go_loopg [11, 50] c.length (fun gh va i wi => ∃ j : Nat, gh = c.length - j ∧ i = .int .i64 j ∧ j ≤ c.length ∧ Hid (OI wi wo.heap.size va (castL (restL prio bm (c.take j)))) ∧ Hid (Below wo.heap.size wo wi))
          case atStart => exact ⟨0, rfl, rfl, by omega, OI_nil _ _, below_draws _ _ _⟩
          case round =>
            obtain ⟨j, hgj, rfl, hj, HOI, HBi⟩ := hrel
            have HGJ := Lib.hid hgj
            clear hgj
            have hBsz := HBi.out.size
            have hrl : (restL prio bm (c.take j)).length ≤ 3000 := Nat.le_trans (restL_len _ _ _) (by rw [List.length_take]; omega)
            by_cases hjl : j < c.length
            · obtain ⟨bC, oC, had, -, hdt⟩ := HUo.out.dat
              obtain rfl := had (by omega)
              have ev := cellB HBi.out (hdt j hjl)
              rw [castL_get hjl] at ev
              have hvn : c.getD j 0 < n := HCn.out _ (by rw [getD_lt _ _ _ hjl]; exact List.getElem_mem hjl)
              have HTk : Hid (c.take (j + 1) = c.take j ++ [c.getD j 0]) := by show _ = _; rw [List.take_succ_eq_append_getElem hjl, getD_lt _ _ _ hjl]
              obtain ⟨bP, oP, hpd, -, hpt⟩ := HPr.out.dat
              obtain rfl := hpd (by omega)
              generalize c.getD j 0 = v at *
              have ep := cellB HBi.out (hpt v hvn)
              obtain ⟨p0, p1⟩ := HX.out.pr v hvn
              have HRS := Lib.hid (restL_snoc prio bm (c.take j) v)
              have hpv : prF prio v = prio.getD v 0 := rfl
              have HPV := Lib.hid hpv
              have q1 := cellB HBi.out (cell_of_row _ _ 0 _ _ _ HCk1.out.r)
              have q3 := cellB HBi.out (cell_of_row _ _ 0 _ _ _ HSr.out.now.1)
              clear had hdt hpd hpt hpv
              generalize prio.getD v 0 = pv at *
              have hvi : (v : Int) < n := by omega
              by_cases hge : bm ≤ pv
              · have HRn : Hid (castL (restL prio bm (c.take (j + 1))) = castL (restL prio bm (c.take j)) ++ [(v : Int)]) := by
                  show _ = _
                  rw [HTk.out, HRS.out, if_pos (by rw [HPV.out]; exact hge), castL_app]; rfl
                have hge1 : decide (bm ≤ pv) = true := by simpa using hge
                go_wp2_with (at_builtin; refine app_int rfl _ _ (v : Int) rfl wo.heap.size _ _ HOI.out rfl _ (by simp) rfl (by rw [castL_len]; omega) hBsz ?_; intro v' w' hown' hg hmv; have HO2 := Lib.hid hown'; have HB2 := Lib.hid (HBi.out.grown hg hBsz (fun g h => HOI.out.ge g h)); clear hown' hg hmv)
                go_roundg (c.length - (j + 1))
                case measure => have := HGJ.out; omega
                case rel => exact ⟨j + 1, rfl, by go_num, by omega, by rw [HRn.out]; exact HO2, HB2⟩
              · have HRn : Hid (restL prio bm (c.take (j + 1)) = restL prio bm (c.take j)) := by
                  show _ = _
                  rw [HTk.out, HRS.out, if_neg (by rw [HPV.out]; exact hge)]
                have hge1 : decide (bm ≤ pv) = false := by simpa using hge
                go_wp2
                go_roundg (c.length - (j + 1))
                case measure => have := HGJ.out; omega
                case rel => exact ⟨j + 1, rfl, by go_num, by omega, by rw [HRn.out]; exact HOI, HBi⟩
            · obtain rfl : j = c.length := by omega
              rw [List.take_length] at HOI hrl
              have HRC : Hid (∀ x ∈ restL prio bm c, x ∈ c) := fun x hx => (restL_mem.1 hx).1
              have HRF : Hid ((restL prio bm c).length = c.length → ∀ v ∈ c, bm ≤ prF prio v) := fun h => restL_full h
              have hrc : (restL prio bm c).length ≤ c.length := restL_len _ _ _
              obtain ⟨aR, cR, hva⟩ := HOI.out.slice
              rw [castL_len] at hva
              subst hva
              generalize restL prio bm c = rest at *
              have HS2 := Lib.hid (HSr.out.below HBi.out)
              have HOw2 : Hid (Only (fun k => k = ob) w wr) := HOw.out.trans (Only.of_below HBi.out)
              have HOr2 : Hid (Only (fun k => k = ob ∨ w1.heap.size ≤ k) w1 wr) := HOr.out.trans (Only.of_below HBi.out)
              have HCk2 := Lib.hid (HCk.out.step HOw2.out)
              have hobl : ob < wo.heap.size := HSr.out.lt
              have HKp : Hid (KpO ob wr (.slice aR rest.length cR) (castL rest)) := HOI.out.kpO hobl (fun x hx => HCn.out x (HRC.out x hx)) (by omega) (by omega)
              by_cases h0 : rest.length = 0
              · have HG0 : Hid (GoodL nx prio p c) := HGN.out.1 (List.eq_nil_of_length_eq_zero h0)
                have h0' : ((rest.length : Int) == 0) = true := by simp [h0]
                clear h0
                go_wp2
                go_roundg (cs.length - (k + 1))
                case measure => have := HGK.out; omega
                case rel => exact ⟨k + 1, rfl, by go_num, by omega, HS2, HOw2, HOr2, fun j hj => HGs.out true HG0.out j hj rfl⟩
              · have h0' : ((rest.length : Int) == 0) = false := by rw [beq_eq_false_iff_ne]; omega
                clear h0
                by_cases h1 : rest.length < c.length
                · have h1' : decide (rest.length < c.length) = true := by simpa using h1
                  have q4 := cell_of_row _ _ 0 _ _ _ HCk2.out.c
                  go_wp2_with fail
                  refine (HIH.out wr _ rest (by have := HM.out; omega) (fun x hx => HCn.out x (HRC.out x hx)) (by omega) HS2.out HKp.out HCk2.out).mono ?_
                  rintro e w9 ⟨b, rfl, hb, hS9, hO9⟩
                  have HB := Lib.hid hb
                  have HS9 := Lib.hid hS9
                  have HOw9 : Hid (Only (fun k => k = ob) w w9) := HOw2.out.trans hO9
                  have HOr9 : Hid (Only (fun k => k = ob ∨ w1.heap.size ≤ k) w1 w9) := HOr2.out.trans (hO9.mono fun _ _ e => .inl e)
                  clear hb hS9 hO9 q4
                  cases b
                  · have HBad : Hid (¬ GoodL nx prio p part) := HNo.out fun h => by have := HB.out.2 (HGN.out.2.1 h); cases this
                    go_wp2
                    (try rw [Exit.noGoto_ret])
                    go_ret
                    exact ⟨false, rfl, ⟨fun h => absurd h (by simp), fun h => absurd h HBad.out⟩, HS9.out, HOw9.out⟩
                  · have HG0 : Hid (GoodL nx prio p c) := HGN.out.2.2 (HB.out.1 rfl)
                    go_wp2
                    go_roundg (cs.length - (k + 1))
                    case measure => have := HGK.out; omega
                    case rel => exact ⟨k + 1, rfl, by go_num, by omega, HS9, HOw9, HOr9, fun j hj => HGs.out true HG0.out j hj rfl⟩
                · have h1' : decide (rest.length < c.length) = false := by simpa using h1
                  have HG2 := Lib.hid (HGF.out (HRF.out (by omega)))
                  clear h1
                  by_cases h2 : 1 < c.length
                  · have h2' : decide ((1 : Int) < (c.length : Int)) = true := by simp; omega
                    have HBad : Hid (¬ GoodL nx prio p part) := HNo.out fun h => HG2.out.1 h (good_two (A := (· ∈ part)) HC1.out.2.2 HCE.out HC1.out.2.1 h2)
                    clear h2
                    go_wp2
                    go_quiet (fail)
                    go_wp2
                    (try rw [Exit.noGoto_ret])
                    go_ret
                    exact ⟨false, rfl, ⟨fun h => absurd h (by simp), fun h => absurd h HBad.out⟩, HS2.out.below (below_draws _ _ _), HOw2.out.trans (Only.of_below (below_draws _ _ _))⟩
                  · have h2' : decide ((1 : Int) < (c.length : Int)) = false := by simp; omega
                    have hcl1 : c.length = 1 := by
                      have : c.length ≠ 0 := fun e => HC1.out.1 (List.eq_nil_of_length_eq_zero e)
                      omega
                    have hc0 : 0 < c.length := by omega
                    have hc0' : (0 : Int) < c.length := by omega
                    obtain ⟨bC, oC, had, -, hdt⟩ := (HUo.out.below HBi.out).dat
                    obtain rfl := had (by omega)
                    have ev := hdt 0 hc0
                    rw [castL_get hc0, Nat.add_zero] at ev
                    have hvn : c.getD 0 0 < n := HCn.out _ (by rw [getD_lt _ _ _ hc0]; exact List.getElem_mem hc0)
                    have HSing : Hid (c = [c.getD 0 0]) := by
                      show _ = _
                      match c, hcl1 with
                      | [x], _ => rfl
                    have q5 := cell_of_row _ _ 0 _ _ _ HCk2.out.r
                    have q6 := cell_of_row _ _ 1 _ _ _ HS2.out.now.1
                    generalize c.getD 0 0 = x at *
                    obtain ⟨e7, i7⟩ := HS2.out.now.2.2 x hvn
                    obtain ⟨aV, cV, hvV⟩ := i7.shape
                    rw [hvV] at e7 i7
                    have HCt : Hid (∀ n', Calls Try.prog 32 #[.slice aV (nx.getD x []).length cV, .int .i64 (x : Int)] (wr.drewN n') (Quiet (.bool (decide ((x : Int) ∈ nx.getD x []))) (wr.drewN n'))) := fun n' => Contains_c _ _ _ _ (i7.below (below_draws _ _ _))
                    have HEx : Hid ((∃ a b, a ∈ c ∧ b ∈ c ∧ EG nx a b) ↔ (x : Int) ∈ nx.getD x []) := by
                      rw [HSing.out]
                      refine ⟨fun ⟨a, b, ha, hb, he⟩ => ?_, fun h => ⟨x, x, by simp, by simp, h⟩⟩
                      rw [List.mem_singleton] at ha hb
                      subst ha hb
                      exact he
                    have hxi : (x : Int) < n := by omega
                    have hoc : bC = bC := rfl
                    clear h2 hcl1 had hdt hvV i7 hoc
                    generalize (nx.getD x []).length = lx at *
                    cases hd : decide ((x : Int) ∈ nx.getD x [])
                    · have HG0 : Hid (GoodL nx prio p c) := HG2.out.2 fun h => of_decide_eq_false hd (HEx.out.1 h)
                      rw [hd] at HCt
                      clear hd
                      go_wp2
                      go_quiet ((go_at_call 32; refine (HCt.out _).mono ?_; rintro e w' ⟨rfl, n, rfl⟩; exact ⟨rfl, _, by rw [World.drewN_drewN]⟩))
                      go_wp2
                      go_roundg (cs.length - (k + 1))
                      case measure => have := HGK.out; omega
                      case rel => exact ⟨k + 1, rfl, by go_num, by omega, HS2.out.below (below_draws _ _ _), HOw2.out.trans (Only.of_below (below_draws _ _ _)), HOr2.out.trans (Only.of_below (below_draws _ _ _)), fun j hj => HGs.out true HG0.out j hj rfl⟩
                    · have HBad : Hid (¬ GoodL nx prio p part) := HNo.out fun h => HG2.out.1 h (HEx.out.2 (of_decide_eq_true hd))
                      rw [hd] at HCt
                      clear hd
                      go_wp2
                      go_quiet ((go_at_call 32; refine (HCt.out _).mono ?_; rintro e w' ⟨rfl, n, rfl⟩; exact ⟨rfl, _, by rw [World.drewN_drewN]⟩))
                      go_wp2
                      (try rw [Exit.noGoto_ret])
                      go_ret
                      exact ⟨false, rfl, ⟨fun h => absurd h (by simp), fun h => absurd h HBad.out⟩, HS2.out.below (below_draws _ _ _), HOw2.out.trans (Only.of_below (below_draws _ _ _))⟩
    · obtain rfl : k = cs.length := by omega
      have HFin : Hid (GoodL nx prio p part) := (good_comps HC.out).2 fun c hc => by
        obtain ⟨j, hj, rfl⟩ := List.getElem_of_mem hc
        have := HGd.out j hj
        rw [getD_lt _ _ _ hj] at this
        exact this
      go_wp2
      (try rw [Exit.noGoto_ret])
      go_ret
      exact ⟨true, rfl, ⟨fun _ => HFin.out, fun _ => rfl⟩, HSr.out, HOw.out⟩

end Go.Proofs.Ytkbiopjinegckaa
