/- Choose, by the reference. -/
import Derived.Test.YtijkjhcigdfdgaaQRkR11
namespace Go.Proofs.Ytijkjhcigdfdgaa
open Go.RowKit

noncomputable def choG (g : Gm) (p : Int) (m : List (List Int)) : List Int := match viewG g p with | some h => if pmB h m = true then choV h m else [] | none => []
/-- The best of the first k. -/
def bT (f : Nat → Nat) (l : List Int) (k : Nat) : Int := (l.take k).foldl (fun b x => if f x.toNat < f b.toNat then x else b) (l.getD 0 0)
section
variable {f : Nat → Nat} {l : List Int} {k : Nat}
theorem bT_zero : bT f l 0 = l.getD 0 0 := by simp [bT]
theorem bT_step (h : k < l.length) : bT f l (k + 1) = if f (l.getD k 0).toNat < f (bT f l k).toNat then l.getD k 0 else bT f l k := by
  unfold bT
  rw [List.take_succ_eq_append_getElem h, ← getD_lt _ 0 _ h, List.foldl_append]; rfl
theorem bT_all : bT f l l.length = bestI f l := by unfold bT bestI; rw [List.take_length]
theorem bT_mem (h : l ≠ []) : ∀ k, k ≤ l.length → bT f l k ∈ l := by
  have h0 : l.getD 0 0 ∈ l := by rw [getD_lt _ _ _ (List.length_pos_iff.2 h)]; exact List.getElem_mem _
  intro k
  induction k with
  | zero => intro _; rw [bT_zero]; exact h0
  | succ k ih =>
    intro hk
    rw [bT_step (by omega)]
    split
    · rw [getD_lt _ _ _ (by omega)]; exact List.getElem_mem _
    · exact ih (by omega)
end
theorem pmB_of {h : Gm} {m : List (List Int)} (e : pmB h m = true) : m.length = h.owner.length ∧ ∀ u, u < h.owner.length → meB (moG h) (m.getD u []) = true := by
  unfold pmB at e
  simp only [Bool.and_eq_true, decide_eq_true_eq] at e
  refine ⟨e.1.1, fun u hu => ?_⟩
  rw [getD_lt _ _ _ (by omega)]
  exact List.all_eq_true.1 e.1.2 _ (List.getElem_mem _)
/-- What is chosen at a position. -/
def choA (h : Gm) (m : List (List Int)) (v : Nat) : Int := if own h v = 0 ∧ m.getD v [] ≠ [] then bestI (fun u => cdN (moG h) (m.getD u [])) (h.succ.getD v []) else -1
theorem choV_eq (h : Gm) (m : List (List Int)) : choV h m = (List.range h.owner.length).map (choA h m) := rfl

set_option maxRecDepth 100000 in
set_option maxHeartbeats 8000000 in
theorem RChoose_c (w : World) (vg vm : Value) (g : Gm) (p : Int) (m : List (List Int)) (hg : IsGame w vg g) (hm : IsRows w vm m) (hn : g.prio.length ≤ 3000) :
    Calls Try.prog 20 #[vg, .int .i64 p, vm] w (NewSet (choG g p m) w) := by
  have HC : Hid (∀ W, Below w.heap.size w W → Calls Try.prog 38 #[vg, .int .i64 p] W (RViewOut g p W)) := fun W h => rview_c W vg g p (hg.below h) hn
  have HWK : Hid (∀ W v h, Below w.heap.size w W → viewG g p = some h → IsGame W v h → Calls Try.prog 43 #[v, vm] W (Calm (.bool (pmB h m)) W)) := fun W v h hW e hv => rvalid_c W v vm h m hv (hm.below hW) (view_valid e).1
  obtain ⟨v0, v1, v2, rfl, -⟩ := hg
  obtain ⟨a3, c3, b3, o3, M, rfl, d3, n3, f3⟩ := hm.data
  clear hn hm
  have HD3 := Lib.hid d3
  have HF3 := Lib.hid f3
  clear d3 f3
  have hB : Below w.heap.size w (w.alloc (.cells #[v0, v1, v2] 25)) := (by repeat (first | exact Below.refl _ _ | assumption | (refine belA ?_ _) | (refine belD ?_ _)))
  have hx : (w.alloc (.cells #[v0, v1, v2] 25)).heap[w.heap.size]? = some (.cells #[v0, v1, v2] 25 (0, 0)) := (by (repeat (rw [alloc_get]; first | rw [if_pos (by first | (simp; done) | (simp; omega))] | rw [if_neg (by first | (simp; done) | (simp; omega))])); (try rfl))
  go_enter Try.func20, Try.ntmps20
  go_upto_region 1 with (fail)
  generalize (w.alloc (.cells #[v0, v1, v2] 25)) = w1 at *
  have q0 := cell_of_row _ _ 0 _ _ _ hx
  have q1 := cell_of_row _ _ 1 _ _ _ hx
  have q2 := cell_of_row _ _ 2 _ _ _ hx
  have HB := Lib.hid hB
  clear hx hB
  go_wp2_with fail
  refine (HC.out _ HB.out).mono ?_
  intro e w2 ho
  clear q0 q1 q2
  cases hv : viewG g p with
  | none =>
    unfold RViewOut at ho
    rw [hv] at ho
    obtain ⟨rfl, hb⟩ := ho
    have HB2 := Lib.hid (HB.out.trans (hb.mono HB.out.size))
    have HV : Hid (choG g p m = []) := by show _ = _; unfold choG; rw [hv]
    clear hb hv
    unfold nilGm
    go_wp2
    go_ret
    exact ⟨_, rfl, by rw [HV.out]; exact OI_nil _ _, HB2.out.alloc HB2.out.size _⟩
  | some h =>
    have HH := Lib.hid hv
    have HVH := Lib.hid (view_valid hv)
    unfold RViewOut at ho
    rw [hv] at ho
    obtain ⟨v, rfl, hgg, hb⟩ := ho
    have HB2 := Lib.hid (HB.out.trans (hb.mono HB.out.size))
    have HVV := Lib.hid hgg
    obtain ⟨y0, z0, y1, z1, y2, z2, rfl⟩ := hgg.shape
    have hB4 : Below w2.heap.size w2 (w2.alloc (.cells #[.slice y0 h.owner.length z0, .slice y1 h.prio.length z1, .slice y2 h.succ.length z2] 25)) := bel_box _
    have HX4 : Hid ((w2.alloc (.cells #[.slice y0 h.owner.length z0, .slice y1 h.prio.length z1, .slice y2 h.succ.length z2] 25)).heap[w2.heap.size]? = some (.cells #[.slice y0 h.owner.length z0, .slice y1 h.prio.length z1, .slice y2 h.succ.length z2] 25 (0, 0))) := heap_alloc_new _ _
    have HV : Hid (choG g p m = if pmB h m = true then choV h m else []) := by show _ = _; unfold choG; rw [hv]
    have HB4 := Lib.hid (HB2.out.trans (hB4.mono HB2.out.size))
    have HV4 := Lib.hid (HVV.out.below hB4)
    have HC2 := Lib.hid (HWK.out _ _ h HB4.out HH.out HV4.out)
    clear hB4 hb hv hgg HVV HC HWK HB2
    go_upto_region 2 with (fail)
    generalize (w2.alloc (.cells #[.slice y0 h.owner.length z0, .slice y1 h.prio.length z1, .slice y2 h.succ.length z2] 25)) = w3 at *
    generalize w2.heap.size = z at *
    have q0 := cell_of_row _ _ 0 _ _ _ HX4.out
    have q1 := cell_of_row _ _ 1 _ _ _ HX4.out
    have q2 := cell_of_row _ _ 2 _ _ _ HX4.out
    go_wp2_with fail
    refine HC2.out.mono ?_
    rintro e w4 ⟨rfl, hb⟩
    have HB5 := Lib.hid (HB4.out.trans (hb.mono HB4.out.size))
    have HV5 := Lib.hid (HV4.out.below hb)
    replace q0 := cellB hb q0
    replace q1 := cellB hb q1
    replace q2 := cellB hb q2
    clear hb HC2 HX4 HV4 HB4 HB
    cases hpm : pmB h m with
    | false =>
      have HE : Hid (choG g p m = []) := by show _ = _; rw [HV.out, hpm]; rfl
      clear hpm
      go_wp2
      go_ret
      exact ⟨_, rfl, by rw [HE.out]; exact OI_nil _ _, HB5.out⟩
    | true =>
      have HE : Hid (choG g p m = (List.range h.owner.length).map (choA h m)) := by show _ = _; rw [HV.out, hpm, if_pos rfl, choV_eq]
      obtain ⟨hml, hmm⟩ := pmB_of hpm
      obtain ⟨la, lb, lc⟩ := valid_lens HVH.out.1
      have HEE := Lib.hid (re_valid HVH.out.1)
      have HMM := Lib.hid hmm
      clear hpm HV hmm HH
      obtain ⟨g0, -, g2⟩ := HV5.out.parts3
      obtain ⟨b0, o0, e0, -, d0⟩ := g0.dat
      obtain ⟨V, ⟨a2, c2, b2, o2, e2, A2⟩, R2⟩ := g2
      obtain ⟨rfl, -, rfl⟩ : y2 = a2 ∧ True ∧ z2 = c2 := by
        injection e2 with e1 e2 e3
        exact ⟨e1, trivial, e3⟩
      rw [lc] at A2 R2
      have HD0 := Lib.hid d0
      have HA2 : Hid (∀ j, j < h.owner.length → w4.cell? ⟨b2, o2 + j, none⟩ = some (V j)) := fun j hj => A2.el j hj
      have HR2 := Lib.hid R2
      have HAD : Hid (0 < h.owner.length → y2 = some ⟨b2, o2, none⟩ ∧ y0 = some ⟨b0, o0, none⟩) := fun hp => ⟨A2.ad hp, e0 hp⟩
      have nn2 := A2.nb
      rw [hml] at n3 HD3 HF3
      rw [lb, lc] at q0 q1 q2 HV5
      rw [hml]
      clear g0 d0 e0 e2 A2 R2 hml lb lc HV5 HVH
      have HCA : Hid (∀ v, v < h.owner.length → choA h m v = if own h v = 0 ∧ m.getD v [] ≠ [] then bestI (fun u => cdN (moG h) (m.getD u [])) (h.succ.getD v []) else -1) := fun v _ => rfl
      have HLS : Hid (∀ W i j, Below w.heap.size w W → i < h.owner.length → j < h.owner.length → Calls Try.prog 22 #[M i, M j] W (Quiet (.bool (decide (cdN (moG h) (m.getD i []) < cdN (moG h) (m.getD j [])))) W)) := fun W i j hW hi hj => by
        rw [← less_bef (HMM.out i hi) (HMM.out j hj)]
        exact Less_c W _ _ _ _ ((HF3.out i hi).2.below hW) ((HF3.out j hj).2.below hW)
      have HOW : Hid (∀ v, own h v = h.owner.getD v 0) := fun _ => rfl
      obtain ⟨cf, hcf⟩ : ∃ cf : Nat → Nat, ∀ u, cf u = cdN (moG h) (m.getD u []) := ⟨_, fun _ => rfl⟩
      have HCF : Hid ((fun u => cdN (moG h) (m.getD u [])) = cf) := funext fun u => (hcf u).symm
      rw [HCF.out] at HCA
      simp only [← hcf] at HLS
      clear hcf HMM HCF
      obtain ⟨ch, hch⟩ : ∃ ch : Nat → Int, ch = choA h m := ⟨_, rfl⟩
      rw [← hch] at HE HCA
      clear hch
      generalize choG g p m = res at *
      have HF1 : Hid (∀ j, j < h.owner.length → w.cell? ⟨b3, o3 + j, none⟩ = some (M j)) := fun j hj => (HF3.out j hj).1
      have HF2 : Hid (∀ j, j < h.owner.length → IsInts w (M j) (m.getD j [])) := fun j hj => (HF3.out j hj).2
      clear HF3
      generalize h.owner.length = n at *
      go_wp2_with fail
      go_loopg [9, 10] n (fun gh o i wr => ∃ k : Nat, gh = n - k ∧ i = .int .i64 (k : Int) ∧ k ≤ n ∧ Hid (OI wr w4.heap.size o ((List.range k).map ch)) ∧ Hid (Below w4.heap.size w4 wr))
      case atStart => exact ⟨0, rfl, rfl, by omega, OI_nil _ _, Below.refl _ _⟩
      case round =>
        obtain ⟨k, hgk, rfl, hk, HO, HB⟩ := hrel
        have HGK := Lib.hid hgk
        clear hgk
        have HBX := Lib.hid (HB5.out.trans (HB.out.mono HB5.out.size))
        by_cases hlt : k < n
        · as_aux_lemma =>
          obtain ⟨rfl, rfl⟩ := HAD.out (by omega)
          obtain rfl := HD3.out (by omega)
          have i1 : (k : Int) < (n : Int) := by omega
          have q0r := cellB HB.out q0
          have q2r := cellB HB.out q2
          have k0 := cellB HB.out (HD0.out k hlt)
          have k2 := cellB HB.out (HA2.out k hlt)
          obtain ⟨sa, cs, es⟩ := (HR2.out k hlt).shape
          have hrs := HR2.out k hlt
          rw [es] at hrs k2
          obtain ⟨bs, os, ds, ns, fs⟩ := hrs.dat
          have e1 := cellB HBX.out (HF1.out k hlt)
          obtain ⟨am, cm, hMk⟩ := (HF2.out k hlt).shape
          rw [hMk] at e1
          have HCK := Lib.hid (HCA.out k hlt)
          rw [HOW.out k] at HCK
          have HRS : Hid ((List.range (k + 1)).map ch = (List.range k).map ch ++ [ch k]) := by show _ = _; rw [List.range_succ, List.map_append]; rfl
          have hln : ((List.range k).map ch).length < 17592186043904 := by rw [List.length_map, List.length_range]; omega
          have HOO := Lib.hid (HEE.out.ow k hlt)
          have HSN := Lib.hid (HEE.out.so k hlt)
          have HSE := Lib.hid (HEE.out.ed k hlt)
          have HFS : Hid (∀ j, j < (h.succ.getD k []).length → w4.cell? ⟨bs, os + j, none⟩ = some (.int .i64 ((h.succ.getD k []).getD j 0))) := fs
          obtain rfl := ds (List.length_pos_iff.2 HSN.out)
          clear hMk hrs es fs ds
          by_cases hno : h.owner.getD k 0 = 0 ∧ m.getD k [] ≠ []
          · obtain ⟨ho, hne⟩ := hno
            have HCK2 : Hid (ch k = bestI cf (h.succ.getD k [])) := by show _ = _; rw [HCK.out, if_pos ⟨ho, hne⟩]
            have t5 : (((m.getD k []).length : Int) == 0) = false := by rw [beq_eq_false_iff_ne]; have := List.length_pos_iff.2 hne; omega
            rw [ho] at k0
            clear ho hne HCK HOO
            have HMEM : Hid (∀ j, j ≤ (h.succ.getD k []).length → ∃ u : Nat, bT cf (h.succ.getD k []) j = (u : Int) ∧ u < n) := fun j hj => HSE.out _ (bT_mem HSN.out j hj)
            have HALL : Hid (bT cf (h.succ.getD k []) (h.succ.getD k []).length = bestI cf (h.succ.getD k [])) := bT_all
            have HSTP : Hid (∀ j, j < (h.succ.getD k []).length → bT cf (h.succ.getD k []) (j + 1) = if cf ((h.succ.getD k []).getD j 0).toNat < cf (bT cf (h.succ.getD k []) j).toNat then (h.succ.getD k []).getD j 0 else bT cf (h.succ.getD k []) j) := fun j hj => bT_step hj
            have HB00 : Hid (bT cf (h.succ.getD k []) 0 = (h.succ.getD k []).getD 0 0) := bT_zero
            have hSp := List.length_pos_iff.2 HSN.out
            have c00 := cellB HB.out (HFS.out 0 hSp)
            rw [Nat.add_zero] at c00
            generalize (m.getD k []).length = lm at *
            generalize h.succ.getD k [] = S at *
            have i3 : (0 : Int) < (S.length : Int) := by omega
            generalize S.getD 0 0 = s0 at *
            obtain ⟨w5, rfl⟩ : ∃ w5, w5 = wr := ⟨_, rfl⟩
            go_upto_region 12 with (go_at_call 24; refine (Top_c _ _ _ _ _ t5).mono ?_; rintro e w' ⟨rfl, rfl⟩)
            go_loopg [11, 12] S.length (fun gh b i wr => ∃ j : Nat, gh = S.length - j ∧ b = .int .i64 (bT cf S j) ∧ i = .int .i64 (j : Int) ∧ j ≤ S.length ∧ Hid (∃ nd, wr = w5.drewN nd))
            case atStart => exact ⟨0, rfl, by rw [HB00.out], rfl, by omega, ⟨0, rfl⟩⟩
            case round =>
              obtain ⟨j, hgj, rfl, rfl, hj, HW⟩ := hrel
              have HGJ := Lib.hid hgj
              clear hgj
              obtain ⟨nd, hnd⟩ := HW.out
              have HND := Lib.hid hnd
              have HBW : Hid (Below w5.heap.size w5 wr) := by show Below _ _ _; rw [hnd]; exact below_draws _ _ _
              clear hnd HW
              have HBY := Lib.hid (HBX.out.trans (HBW.out.mono HBX.out.size))
              have q2s := cellB HBW.out q2r
              have k2s := cellB HBW.out k2
              by_cases hjl : j < S.length
              · as_aux_lemma =>
                have i4 : (j : Int) < (S.length : Int) := by omega
                obtain ⟨u, hu, hun⟩ := HSE.out (S.getD j 0) (by rw [getD_lt _ _ _ hjl]; exact List.getElem_mem hjl)
                obtain ⟨b, hb, hbn⟩ := HMEM.out j (by omega)
                have c1 := cellB (HB.out.trans (HBW.out.mono HB.out.size)) (HFS.out j hjl)
                rw [hu] at c1
                have c2 := cellB HBY.out (HF1.out u hun)
                have c4 := cellB HBY.out (HF1.out b hbn)
                have HST := Lib.hid (HSTP.out j hjl)
                rw [hu, hb, Int.toNat_natCast, Int.toNat_natCast] at HST
                rw [hb]
                have i5 : (u : Int) < (n : Int) := by omega
                have i6 : (b : Int) < (n : Int) := by omega
                have HLX : Hid (∀ W, Below w.heap.size w W → Calls Try.prog 22 #[M u, M b] W (Quiet (.bool (decide (cf u < cf b))) W)) := fun W hW => HLS.out W u b hW hun hbn
                clear hu hb
                generalize M u = Mu at *
                generalize M b = Mb at *
                by_cases hc : cf u < cf b
                · have HS2 : Hid (bT cf S (j + 1) = (u : Int)) := by show _ = _; rw [HST.out, if_pos hc]
                  rw [decide_eq_true hc] at HLX
                  clear hc
                  go_upto_region 14 with (fail)
                  go_quiet ((go_at_call 22; refine (HLX.out _ (by repeat (first | exact HBY.out | refine belD ?_ _))).mono ?_; rintro e w' ⟨rfl, n', rfl⟩; exact ⟨rfl, _, by rw [World.drewN_drewN]⟩))
                  go_wp2
                  go_roundg (S.length - (j + 1))
                  case measure => have := HGJ.out; omega
                  case rel => exact ⟨j + 1, rfl, by rw [HS2.out], by go_num, by omega, ⟨_, by rw [HND.out, World.drewN_drewN]⟩⟩
                · have HS2 : Hid (bT cf S (j + 1) = (b : Int)) := by show _ = _; rw [HST.out, if_neg hc]
                  rw [decide_eq_false hc] at HLX
                  clear hc
                  go_upto_region 14 with (fail)
                  go_quiet ((go_at_call 22; refine (HLX.out _ (by repeat (first | exact HBY.out | refine belD ?_ _))).mono ?_; rintro e w' ⟨rfl, n', rfl⟩; exact ⟨rfl, _, by rw [World.drewN_drewN]⟩))
                  go_wp2
                  go_roundg (S.length - (j + 1))
                  case measure => have := HGJ.out; omega
                  case rel => exact ⟨j + 1, rfl, by rw [HS2.out], by go_num, by omega, ⟨_, by rw [HND.out, World.drewN_drewN]⟩⟩
              · as_aux_lemma =>
                obtain rfl : j = S.length := by omega
                have i4 : ¬ (S.length : Int) < (S.length : Int) := by omega
                rw [HALL.out, ← HCK2.out]
                have HOW5 := Lib.hid (HO.out.below HBW.out)
                have HBN := Lib.hid (HB.out.trans (HBW.out.mono HB.out.size))
                have hbs : w4.heap.size ≤ wr.heap.size := HBN.out.size
                go_wp2_with (at_builtin; refine app_int rfl _ _ (ch k) rfl w4.heap.size _ _ HOW5.out rfl _ (by simp) rfl hln hbs ?_; intro v' w' hown' hg hmv)
                have HBM : Hid (Below w4.heap.size w4 w') := HBN.out.grown hg (by omega) (fun q hq => HOW5.out.ge q hq)
                clear hg hmv
                go_roundg (n - (k + 1))
                case measure => have := HGK.out; omega
                case rel => exact ⟨k + 1, rfl, by go_num, by omega, by rw [HRS.out]; exact hown', HBM⟩
          · have HCK2 : Hid (ch k = -1) := by show _ = _; rw [HCK.out, if_neg hno]
            have hbs : w4.heap.size ≤ wr.heap.size := HB.out.size
            by_cases ho : h.owner.getD k 0 = 0
            · have t5 : (((m.getD k []).length : Int) == 0) = true := by
                rw [beq_iff_eq]
                by_cases hne : m.getD k [] = []
                · rw [hne]; rfl
                · exact absurd ⟨ho, hne⟩ hno
              rw [ho] at k0
              clear ho hno HCK HOO
              generalize (m.getD k []).length = lm at *
              generalize h.succ.getD k [] = S at *
              go_upto_region 16 with (go_at_call 24; refine (Top_c _ _ _ _ _ t5).mono ?_; rintro e w' ⟨rfl, rfl⟩)
              go_wp2_with (at_builtin; refine app_int rfl _ _ (-1) rfl w4.heap.size _ _ HO.out rfl _ (by simp) rfl hln hbs ?_; intro v' w' hown' hg hmv)
              have HBM : Hid (Below w4.heap.size w4 w') := HB.out.grown hg (by omega) (fun q hq => HO.out.ge q hq)
              clear hg hmv
              go_roundg (n - (k + 1))
              case measure => have := HGK.out; omega
              case rel => exact ⟨k + 1, rfl, by go_num, by omega, by rw [HRS.out, HCK2.out]; exact hown', HBM⟩
            · have t6 : (h.owner.getD k 0 == 0) = false := by rw [beq_eq_false_iff_ne]; exact ho
              clear ho hno HCK HOO
              generalize h.owner.getD k 0 = ow at *
              generalize (m.getD k []).length = lm at *
              generalize h.succ.getD k [] = S at *
              go_upto_region 16 with (fail)
              go_wp2_with (at_builtin; refine app_int rfl _ _ (-1) rfl w4.heap.size _ _ HO.out rfl _ (by simp) rfl hln hbs ?_; intro v' w' hown' hg hmv)
              have HBM : Hid (Below w4.heap.size w4 w') := HB.out.grown hg (by omega) (fun q hq => HO.out.ge q hq)
              clear hg hmv
              go_roundg (n - (k + 1))
              case measure => have := HGK.out; omega
              case rel => exact ⟨k + 1, rfl, by go_num, by omega, by rw [HRS.out, HCK2.out]; exact hown', HBM⟩
        · as_aux_lemma =>
          obtain rfl : k = n := by omega
          have i1 : ¬ (k : Int) < (k : Int) := by omega
          go_wp2
          go_ret
          exact ⟨_, rfl, by rw [HE.out]; exact HO.out.base HB5.out.size, HBX.out⟩

end Go.Proofs.Ytijkjhcigdfdgaa
