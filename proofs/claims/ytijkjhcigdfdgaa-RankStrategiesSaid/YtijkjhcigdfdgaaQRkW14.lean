/- Choose. -/
import Derived.Test.YtijkjhcigdfdgaaQRkR12
import Derived.Test.YtijkjhcigdfdgaaQRkW13
namespace Go.Proofs.Ytijkjhcigdfdgaa
open Go.RowKit

theorem info_digits : (Try.prog.info? 66).map (fun i => (i.zero, i.size, i.bytes)) = some (some (.slice none 0 0), 1, 24) := by kernel_rfl
/-- What has been done of a row: the first k. -/
def doneV {α : Type} (n k : Nat) (f : Nat → α) (z : α) : List α := (List.range n).map fun j => if j < k then f j else z
section
variable {α : Type} {n k : Nat} {f : Nat → α} {z : α}
theorem done_len : (doneV n k f z).length = n := by simp [doneV]
theorem done_zero : List.replicate n z = doneV n 0 f z := by
  apply List.ext_getElem (by simp [doneV])
  intro i h1 h2
  simp [doneV]
theorem done_set (x : α) (h : x = f k) : (doneV n k f z).set k x = doneV n (k + 1) f z := by
  apply List.ext_getElem (by simp [doneV])
  intro i h1 h2
  rw [List.getElem_set]
  simp only [doneV, List.getElem_map, List.getElem_range]
  by_cases e : k = i
  · subst e; rw [if_pos rfl, if_pos (by omega)]; exact h
  · rw [if_neg e]
    by_cases h3 : i < k
    · rw [if_pos h3, if_pos (by omega)]
    · rw [if_neg h3, if_neg (by omega)]
theorem done_all : doneV n n f z = (List.range n).map f := by
  unfold doneV
  apply List.map_congr_left
  intro i hi
  rw [if_pos (List.mem_range.1 hi)]
theorem done_at {j : Nat} (hj : j < n) : (doneV n k f z)[j]? = some (if j < k then f j else z) := by simp [doneV, hj]
end

set_option maxRecDepth 100000 in
set_option maxHeartbeats 8000000 in
theorem Choose_c (w : World) (vg vm : Value) (g : Gm) (p : Int) (m : List (List Int)) (hg : IsGame w vg g) (hm : IsRows w vm m) (hL : LookH g) :
    Calls Try.prog 19 #[vg, .int .i64 p, vm] w (NewSet (choG g p m) w) := by
  have HC : Hid (∀ W, Below w.heap.size w W → Calls Try.prog 33 #[vg, .int .i64 p] W (LookOut g p W)) := fun W h => look_c W vg g p (hg.below h) hL.s hL.n hL.h
  have HWK : Hid (∀ W v h, Below w.heap.size w W → viewG g p = some h → IsView W v h (moG h) → Calls Try.prog 42 #[v, vm] W (Calm (.bool (pmB h m)) W)) := fun W v h hW e hv => by
    have hv' := (view_valid e).1
    obtain ⟨la, lb, lc⟩ := valid_lens hv'
    exact prog_c W v vm h m h.owner.length hv (hm.below hW) (re_valid hv') (fun u hu => (pri_valid hv' hu).2.2) (fun u hu => ⟨(pri_valid hv' hu).1, (pri_valid hv' hu).2.1⟩) rfl lb lc
  obtain ⟨v0, v1, v2, rfl, -⟩ := hg
  obtain ⟨a3, c3, b3, o3, M, rfl, d3, n3, f3⟩ := hm.data
  clear hL hm
  have HD3 := Lib.hid d3
  have HF3 := Lib.hid f3
  clear d3 f3
  have hB : Below w.heap.size w (w.alloc (.cells #[v0, v1, v2] 25)) := (by repeat (first | exact Below.refl _ _ | assumption | (refine belA ?_ _) | (refine belD ?_ _)))
  have hx : (w.alloc (.cells #[v0, v1, v2] 25)).heap[w.heap.size]? = some (.cells #[v0, v1, v2] 25 (0, 0)) := (by (repeat (rw [alloc_get]; first | rw [if_pos (by first | (simp; done) | (simp; omega))] | rw [if_neg (by first | (simp; done) | (simp; omega))])); (try rfl))
  go_enter Try.func19, Try.ntmps19
  go_upto_region 1 with (fail)
  generalize (w.alloc (.cells #[v0, v1, v2] 25)) = w1 at *
  have q0 := cell_of_row _ _ 0 _ _ _ hx
  have q1 := cell_of_row _ _ 1 _ _ _ hx
  have q2 := cell_of_row _ _ 2 _ _ _ hx
  have HB := Lib.hid hB
  clear hx hB
  go_wp2_with fail
  refine (HC.out _ HB.out).mono ?_
  intro e w2 ho
  clear q0 q1 q2
  cases hv : viewG g p with
  | none =>
    unfold LookOut at ho
    rw [hv] at ho
    obtain ⟨rfl, hb⟩ := ho
    have HB2 := Lib.hid (HB.out.trans (hb.mono HB.out.size))
    have HV : Hid (choG g p m = []) := by show _ = _; unfold choG; rw [hv]
    clear hb hv
    unfold nilView
    go_wp2
    go_ret
    exact ⟨_, rfl, by rw [HV.out]; exact OI_nil _ _, HB2.out.alloc HB2.out.size _⟩
  | some h =>
    have HH := Lib.hid hv
    have HVH := Lib.hid (view_valid hv)
    unfold LookOut at ho
    rw [hv] at ho
    obtain ⟨v, rfl, hvv, hb⟩ := ho
    have HB2 := Lib.hid (HB.out.trans (hb.mono HB.out.size))
    have HVV := Lib.hid hvv
    obtain ⟨x0, x1, x2, x3, rfl, hgg, hgi⟩ := hvv
    have HGG := Lib.hid hgg
    obtain ⟨y0, z0, y1, z1, y2, z2, e3⟩ := hgg.shape
    obtain ⟨y3, z3, rfl⟩ := hgi.shape
    obtain ⟨rfl, rfl, rfl⟩ : x0 = _ ∧ x1 = _ ∧ x2 = _ := by simpa using e3
    have hB4 : Below w2.heap.size w2 (w2.alloc (.cells #[.slice y0 h.owner.length z0, .slice y1 h.prio.length z1, .slice y2 h.succ.length z2, .slice y3 (castM (moG h)).length z3] 49)) := bel_box _
    have HX4 : Hid ((w2.alloc (.cells #[.slice y0 h.owner.length z0, .slice y1 h.prio.length z1, .slice y2 h.succ.length z2, .slice y3 (castM (moG h)).length z3] 49)).heap[w2.heap.size]? = some (.cells #[.slice y0 h.owner.length z0, .slice y1 h.prio.length z1, .slice y2 h.succ.length z2, .slice y3 (castM (moG h)).length z3] 49 (0, 0))) := heap_alloc_new _ _
    have HV : Hid (choG g p m = if pmB h m = true then choV h m else []) := by show _ = _; unfold choG; rw [hv]
    have HB4 := Lib.hid (HB2.out.trans (hB4.mono HB2.out.size))
    have HV4 := Lib.hid (HGG.out.below hB4)
    have HC2 := Lib.hid (HWK.out _ _ h HB4.out HH.out (HVV.out.below hB4))
    clear hB4 hb hv hgg hgi e3 HVV HGG HC HWK HB2
    go_upto_region 2 with (fail)
    generalize (w2.alloc (.cells #[.slice y0 h.owner.length z0, .slice y1 h.prio.length z1, .slice y2 h.succ.length z2, .slice y3 (castM (moG h)).length z3] 49)) = w3 at *
    generalize w2.heap.size = z at *
    generalize (castM (moG h)).length = n5 at *
    have q0 := cell_of_row _ _ 0 _ _ _ HX4.out
    have q1 := cell_of_row _ _ 1 _ _ _ HX4.out
    have q2 := cell_of_row _ _ 2 _ _ _ HX4.out
    have q3 := cell_of_row _ _ 3 _ _ _ HX4.out
    go_wp2_with fail
    refine HC2.out.mono ?_
    rintro e w4 ⟨rfl, hb⟩
    have HB5 := Lib.hid (HB4.out.trans (hb.mono HB4.out.size))
    have HV5 := Lib.hid (HV4.out.below hb)
    replace q0 := cellB hb q0
    replace q2 := cellB hb q2
    clear hb HC2 HX4 HV4 HB4 HB q1 q3
    cases hpm : pmB h m with
    | false =>
      have HE : Hid (choG g p m = []) := by show _ = _; rw [HV.out, hpm]; rfl
      clear hpm
      go_wp2
      go_ret
      exact ⟨_, rfl, by rw [HE.out]; exact OI_nil _ _, HB5.out⟩
    | true =>
      have HE : Hid (choG g p m = (List.range h.owner.length).map (choA h m)) := by show _ = _; rw [HV.out, hpm, if_pos rfl, choV_eq]
      obtain ⟨hml, hmm⟩ := pmB_of hpm
      obtain ⟨la, lb, lc⟩ := valid_lens HVH.out.1
      have HEE := Lib.hid (re_valid HVH.out.1)
      have HMM := Lib.hid hmm
      clear hpm HV hmm HH
      obtain ⟨g0, -, g2⟩ := HV5.out.parts3
      obtain ⟨b0, o0, e0, -, d0⟩ := g0.dat
      obtain ⟨V, ⟨a2, c2, b2, o2, e2, A2⟩, R2⟩ := g2
      obtain ⟨rfl, -, rfl⟩ : y2 = a2 ∧ True ∧ z2 = c2 := by
        injection e2 with e1 e2 e3
        exact ⟨e1, trivial, e3⟩
      rw [lc] at A2 R2
      have HD0 := Lib.hid d0
      have HA2 : Hid (∀ j, j < h.owner.length → w4.cell? ⟨b2, o2 + j, none⟩ = some (V j)) := fun j hj => A2.el j hj
      have HR2 := Lib.hid R2
      have HAD : Hid (0 < h.owner.length → y2 = some ⟨b2, o2, none⟩ ∧ y0 = some ⟨b0, o0, none⟩) := fun hp => ⟨A2.ad hp, e0 hp⟩
      have nn2 := A2.nb
      have HML := Lib.hid hml
      rw [hml] at n3 HD3 HF3
      rw [lc] at q0 q2
      rw [hml]
      clear g0 d0 e0 e2 A2 R2 hml lb lc HV5 HVH
      have HCA : Hid (∀ v, v < h.owner.length → choA h m v = if h.owner.getD v 0 = 0 ∧ m.getD v [] ≠ [] then bestI (fun u => cdN (moG h) (m.getD u [])) (h.succ.getD v []) else -1) := fun v _ => rfl
      have HBF : Hid (∀ i j, i < h.owner.length → j < h.owner.length → befB (m.getD i []) (m.getD j []) = decide (cdN (moG h) (m.getD i []) < cdN (moG h) (m.getD j []))) := fun i j hi hj => bef_iff (HMM.out i hi) (HMM.out j hj)
      have HIM : Hid (∀ W va, IsArr W va h.owner.length M → Below w.heap.size w W → IsRows W va m) := fun W va ha hW => ⟨M, by rw [HML.out]; exact ha, fun j hj => (HF3.out j (by rw [← HML.out]; exact hj)).2.below hW⟩
      obtain ⟨cf, hcf⟩ : ∃ cf : Nat → Nat, ∀ u, cf u = cdN (moG h) (m.getD u []) := ⟨_, fun _ => rfl⟩
      have HCF : Hid ((fun u => cdN (moG h) (m.getD u [])) = cf) := funext fun u => (hcf u).symm
      rw [HCF.out] at HCA
      simp only [← hcf] at HBF
      clear hcf HMM HCF
      obtain ⟨ch, hch⟩ : ∃ ch : Nat → Int, ch = choA h m := ⟨_, rfl⟩
      rw [← hch] at HE HCA
      clear hch
      generalize choG g p m = res at *
      have HF1 : Hid (∀ j, j < h.owner.length → w.cell? ⟨b3, o3 + j, none⟩ = some (M j)) := fun j hj => (HF3.out j hj).1
      have HF2 : Hid (∀ j, j < h.owner.length → IsInts w (M j) (m.getD j [])) := fun j hj => (HF3.out j hj).2
      clear HF3
      generalize h.owner.length = n at *
      have hbs0 : w4.heap.size ≤ w4.heap.size := Nat.le_refl _
      go_upto_region 5 with (at_make; refine wpList_mk1 rfl _ _ _ 66 24 _ rfl Try.underlying65 info_digits rfl w4.heap.size n n rfl rfl rfl (by omega) (by omega) hbs0 ?_; intro w5 hown5 hg5)
      have HB6 : Hid (Below w4.heap.size w4 w5) := (Below.refl _ _).grown hg5 (Nat.le_refl _) (fun k hk => by cases hk)
      have HO5 : Hid (w5.ownsRow w4.heap.size 66 1 (.slice (some ⟨w4.heap.size, 0, none⟩) n n) n (doneV n 0 M (.slice none 0 0))) := by rw [← done_zero]; exact hown5
      clear hown5 hg5 hbs0
      go_wp2_with fail
      go_loopg [33] n (fun gh i wr => ∃ k : Nat, gh = n - k ∧ i = .int .i64 (k : Int) ∧ k ≤ n ∧ Hid (wr.ownsRow w4.heap.size 66 1 (.slice (some ⟨w4.heap.size, 0, none⟩) n n) n (doneV n k M (.slice none 0 0))) ∧ Hid (Below w4.heap.size w4 wr))
      case atStart => exact ⟨0, rfl, rfl, by omega, HO5, HB6⟩
      case round =>
        obtain ⟨k, hgk, rfl, hk, HO, HBr⟩ := hrel
        have HGK := Lib.hid hgk
        clear hgk HO5 HB6
        have HBX := Lib.hid (HB5.out.trans (HBr.out.mono HB5.out.size))
        by_cases hlt : k < n
        · as_aux_lemma =>
          obtain rfl := HD3.out (by omega)
          have i1 : (k : Int) < (n : Int) := by omega
          have e1 := cellB HBX.out (HF1.out k hlt)
          obtain ⟨am, cm, hMk⟩ := (HF2.out k hlt).shape
          rw [hMk] at e1
          have HMK := Lib.hid hMk
          have c1 := World.ownsRow.cellAt HO.out k (by omega)
          rw [done_at hlt, if_neg (by omega)] at c1
          have f1 := World.ownsRow.frozenAt HO.out k
          have HSET : Hid ((wr.setCell ⟨w4.heap.size, k, none⟩ (.slice am (m.getD k []).length cm)).ownsRow w4.heap.size 66 1 (.slice (some ⟨w4.heap.size, 0, none⟩) n n) n (doneV n (k + 1) M (.slice none 0 0))) := by
            have := (World.ownsRow.stored HO.out k (.slice am (m.getD k []).length cm)).1
            rw [done_set _ HMK.out.symm] at this
            exact this
          clear hMk
          generalize (m.getD k []).length = lm at *
          go_wp2
          go_roundg (n - (k + 1))
          case measure => have := HGK.out; omega
          case rel => exact ⟨k + 1, rfl, by go_num, by omega, HSET, HBr.out.trans ((Only.set (S := fun q => q = w4.heap.size) w4.heap.size k _ rfl).below _ (fun q e => by have e : q = w4.heap.size := e; omega) HBr.out.size)⟩
        · as_aux_lemma =>
          obtain rfl : k = n := by omega
          have i1 : ¬ (k : Int) < (k : Int) := by omega
          have HAL : Hid (∀ W, Below wr.heap.size wr W → IsRows W (.slice (some ⟨w4.heap.size, 0, none⟩) k k) m) := fun W hW => by
            refine HIM.out W _ ?_ (HBX.out.trans (hW.mono HBX.out.size))
            refine IsArr.below (ownsRow_arr HO.out (by unfold maxN; omega) _ fun j hj => ?_) hW
            rw [done_at hj, if_pos hj]
          obtain ⟨w6, rfl⟩ : ∃ w6, w6 = wr := ⟨_, rfl⟩
          have hbs : w6.heap.size ≤ w6.heap.size := Nat.le_refl _
          go_upto_region 11 with (at_make; refine mk_int rfl _ _ _ Try.underlying22 rfl w6.heap.size k k rfl rfl rfl (by omega) hbs ?_; intro w7 hown7 hg7)
          have HB7 : Hid (Below w6.heap.size w6 w7) := (Below.refl _ _).grown hg7 (Nat.le_refl _) (fun k hk => by cases hk)
          have HO7 : Hid (OI w7 w6.heap.size (.slice (some ⟨w6.heap.size, 0, none⟩) k k) (doneV k 0 ch 0)) := by show OI _ _ _ _; rw [← done_zero]; exact hown7
          clear hown7 hg7 HGK HO
          go_wp2_with fail
          go_loopg [48] k (fun gh i wr => ∃ j : Nat, gh = k - j ∧ i = .int .i64 (j : Int) ∧ j ≤ k ∧ Hid (OI wr w6.heap.size (.slice (some ⟨w6.heap.size, 0, none⟩) k k) (doneV k j ch 0)) ∧ Hid (Below w6.heap.size w6 wr))
          case atStart => exact ⟨0, rfl, rfl, by omega, HO7, HB7⟩
          case round =>
            obtain ⟨j, hgj, rfl, hj, HO, HBs⟩ := hrel
            have HGJ := Lib.hid hgj
            clear hgj HO7 HB7
            have HB64 := Lib.hid (HBr.out.trans (HBs.out.mono HBr.out.size))
            have HBY := Lib.hid (HBX.out.trans (HBs.out.mono HBX.out.size))
            by_cases hlt : j < k
            · as_aux_lemma =>
              obtain ⟨rfl, rfl⟩ := HAD.out (by omega)
              obtain rfl := HD3.out (by omega)
              have i1 : (j : Int) < (k : Int) := by omega
              have q0r := cellB HB64.out q0
              have q2r := cellB HB64.out q2
              have k0 := cellB HB64.out (HD0.out j hlt)
              have k2 := cellB HB64.out (HA2.out j hlt)
              obtain ⟨sa, cs, es⟩ := (HR2.out j hlt).shape
              have hrs := HR2.out j hlt
              rw [es] at hrs k2
              have HRS := Lib.hid hrs
              have e1 := cellB HBY.out (HF1.out j hlt)
              obtain ⟨am, cm, hMk⟩ := (HF2.out j hlt).shape
              rw [hMk] at e1
              have HCK := Lib.hid (HCA.out j hlt)
              have c1 := HO.out.at' done_len.symm j (by rw [done_len]; exact hlt)
              have f1 := HO.out.fz done_len.symm j
              have hbz : z < w4.heap.size := World.block_lt_of_cell? w4 _ q0
              have hb0 : b0 < w4.heap.size := World.block_lt_of_cell? w4 _ (HD0.out j hlt)
              have hb2 : b2 < w4.heap.size := World.block_lt_of_cell? w4 _ (HA2.out j hlt)
              have hb3 : b3 < w.heap.size := World.block_lt_of_cell? w _ (HF1.out j hlt)
              have hb3' : b3 < w4.heap.size := Nat.lt_of_lt_of_le hb3 HB5.out.size
              have h46 : w4.heap.size ≤ w6.heap.size := HBr.out.size
              have n0 : b0 ≠ w6.heap.size := by omega
              have n1 : b2 ≠ w6.heap.size := by omega
              have n2 : b3 ≠ w6.heap.size := by omega
              have n4 : z ≠ w6.heap.size := by omega
              have HLT : Hid (b0 < w4.heap.size ∧ b2 < w4.heap.size ∧ b3 < w4.heap.size ∧ z < w4.heap.size ∧ w4.heap.size ≤ w6.heap.size) := ⟨hb0, hb2, hb3', hbz, h46⟩
              have HOS : Hid (∀ x : Int, OI (wr.setCell ⟨w6.heap.size, j, none⟩ (.int .i64 x)) w6.heap.size (.slice (some ⟨w6.heap.size, 0, none⟩) k k) ((doneV k j ch 0).set j x)) := fun x => HO.out.set done_len.symm j x
              have HSO : Hid (∀ x : Int, Below w6.heap.size w6 (wr.setCell ⟨w6.heap.size, j, none⟩ (.int .i64 x))) := fun x => HBs.out.trans ((Only.set (S := fun q => q = w6.heap.size) w6.heap.size j _ rfl).below _ (fun q e => by have e : q = w6.heap.size := e; omega) HBs.out.size)
              clear hMk hrs es hb0 hb2 hb3 hb3' hbz h46
              by_cases hno : h.owner.getD j 0 = 0 ∧ m.getD j [] ≠ []
              · obtain ⟨ho, hne⟩ := hno
                have HCK2 : Hid (ch j = bestI cf (h.succ.getD j [])) := by show _ = _; rw [HCK.out, if_pos ⟨ho, hne⟩]
                have t5 : (0 : Int) < ((m.getD j []).length : Int) := by have := List.length_pos_iff.2 hne; omega
                have t6 : decide (0 < (m.getD j []).length) = true := decide_eq_true (by omega)
                rw [ho] at k0
                have HLD : Hid (∀ W, Below w6.heap.size w6 W → Calls Try.prog 44 #[.slice sa (h.succ.getD j []).length cs, .slice (some ⟨w4.heap.size, 0, none⟩) k k] W (Quiet (.int .i64 (ch j)) W)) := fun W hW => by
                  rw [HCK2.out]
                  exact leastD_c W _ _ _ m k cf (HRS.out.below (HBr.out.trans (hW.mono HBr.out.size))) (HAL.out W hW) HML.out (HEE.out.so j hlt) (HEE.out.ed j hlt) HBF.out
                clear ho hne HCK HCK2 HRS
                generalize (m.getD j []).length = lm at *
                generalize (h.succ.getD j []).length = ls at *
                go_upto_region 15 with (fail)
                have HB8 := Lib.hid (HSO.out (-1))
                have HO8 := Lib.hid (HOS.out (-1))
                have HSR : Hid ((((doneV k j ch 0).set j (-1)).set j (ch j)) = doneV k (j + 1) ch 0) := by show _ = _; rw [List.set_set]; exact done_set _ rfl
                have q0s := cellB (HBr.out.trans (HB8.out.mono HBr.out.size)) q0
                have q2s := cellB (HBr.out.trans (HB8.out.mono HBr.out.size)) q2
                have hB4 : ∀ {a : Addr} {v : Value}, w4.cell? a = some v → (wr.setCell ⟨w6.heap.size, j, none⟩ (.int .i64 (-1))).cell? a = some v := fun h => cellB (HBr.out.trans (HB8.out.mono HBr.out.size)) h
                have HH4 : Hid (∀ (a : Addr) (v : Value), wr.cell? a = some v → a.block ≠ w6.heap.size → (wr.setCell ⟨w6.heap.size, j, none⟩ (.int .i64 (-1))).cell? a = some v) := fun a v h1 h2 => by
                  rw [World.cell?_setCell_other _ _ _ _ (fun e => h2 (by first | rw [e] | rw [← e]))]; exact h1
                have k0s := HH4.out _ _ k0 n0
                have k2s := HH4.out _ _ k2 n1
                have e1s := HH4.out _ _ e1 n2
                have c1s := HO8.out.at' (by simp [done_len]) j (by simp [done_len]; exact hlt)
                have f1s := HO8.out.fz (by simp [done_len]) j
                clear hB4 HH4 q0r q2r k0 k2 e1 c1 f1
                generalize (wr.setCell ⟨w6.heap.size, j, none⟩ (.int .i64 (-1))) = w8 at *
                go_wp2_with fail
                refine (HLD.out _ HB8.out).mono ?_
                rintro e w9 ⟨rfl, n9, rfl⟩
                have c9 := cellD n9 c1s
                have f9 : (w8.drewN n9).frozen? ⟨w6.heap.size, j, none⟩ = false := f1s
                have HO9 := Lib.hid (HO8.out.below (below_draws _ _ n9))
                have HB9 := Lib.hid (HB8.out.trans (below_draws w8 _ n9))
                clear c1s f1s q0s q2s k0s k2s e1s
                go_wp2
                go_roundg (k - (j + 1))
                case measure => have := HGJ.out; omega
                case rel => exact ⟨j + 1, rfl, by go_num, by omega, by show OI _ _ _ _; rw [← HSR.out]; exact HO9.out.set (by simp [done_len]) j _, HB9.out.trans ((Only.set (S := fun q => q = w6.heap.size) w6.heap.size j _ rfl).below _ (fun q e => by have e : q = w6.heap.size := e; omega) HB9.out.size)⟩
              · have HCK2 : Hid (ch j = -1) := by show _ = _; rw [HCK.out, if_neg hno]
                have HSR : Hid ((doneV k j ch 0).set j (-1) = doneV k (j + 1) ch 0) := by show _ = _; exact done_set _ HCK2.out.symm
                by_cases ho : h.owner.getD j 0 = 0
                · have t5 : ¬ (0 : Int) < ((m.getD j []).length : Int) := by
                    by_cases hne : m.getD j [] = []
                    · rw [hne]; simp
                    · exact absurd ⟨ho, hne⟩ hno
                  have t6 : decide (0 < (m.getD j []).length) = false := decide_eq_false (by omega)
                  rw [ho] at k0
                  clear ho hno HCK HRS
                  generalize (m.getD j []).length = lm at *
                  generalize (h.succ.getD j []).length = ls at *
                  go_wp2
                  go_roundg (k - (j + 1))
                  case measure => have := HGJ.out; omega
                  case rel => exact ⟨j + 1, rfl, by go_num, by omega, by show OI _ _ _ _; rw [← HSR.out]; exact HOS.out _, HSO.out _⟩
                · have t6 : (h.owner.getD j 0 == 0) = false := by rw [beq_eq_false_iff_ne]; exact ho
                  clear ho hno HCK HRS
                  generalize h.owner.getD j 0 = ow at *
                  generalize (m.getD j []).length = lm at *
                  generalize (h.succ.getD j []).length = ls at *
                  go_wp2
                  go_roundg (k - (j + 1))
                  case measure => have := HGJ.out; omega
                  case rel => exact ⟨j + 1, rfl, by go_num, by omega, by show OI _ _ _ _; rw [← HSR.out]; exact HOS.out _, HSO.out _⟩
            · as_aux_lemma =>
              obtain rfl : j = k := by omega
              have i1 : ¬ (j : Int) < (j : Int) := by omega
              go_wp2
              go_ret
              exact ⟨_, rfl, by rw [HE.out, ← done_all (z := (0 : Int))]; exact HO.out.base HBX.out.size, HBY.out⟩

end Go.Proofs.Ytijkjhcigdfdgaa
