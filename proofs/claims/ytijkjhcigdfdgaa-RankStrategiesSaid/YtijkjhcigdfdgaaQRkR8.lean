/- What a position owes, by the reference. -/
import Derived.StillTailTactics
import Derived.Test.YtijkjhcigdfdgaaQRkR7
namespace Go.Proofs.Ytijkjhcigdfdgaa
open Go.RowKit

theorem dig_fit {mo : List Nat} (hl : mo.length ≤ 15001) (hmb : ∀ k, mo.getD k 0 ≤ 3000) (c : Nat) : (digL mo c).length ≤ 15001 ∧ ∀ x ∈ digL mo c, I64 x := by
  unfold digL
  split
  · exact ⟨by simp, fun x hx => by simp at hx⟩
  · split
    · exact ⟨by simp, fun x hx => by rw [List.mem_singleton.1 hx]; unfold I64; omega⟩
    · refine ⟨by simpa using hl, fun x hx => ?_⟩
      obtain ⟨i, -, rfl⟩ := List.mem_map.1 hx
      have := digN_le mo c i
      have := hmb i
      unfold I64; omega
theorem less_dig {mo : List Nat} {a b : Nat} (ha : a ≤ topN mo) (hb : b ≤ topN mo) : lessB (digL mo a) (digL mo b) = decide (a < b) := by
  rw [less_bef (dig_me mo a) (dig_me mo b), cd_dig ha, cd_dig hb]

set_option maxRecDepth 100000 in
set_option maxHeartbeats 8000000 in
theorem owed_c (w : World) (vg vb vm : Value) (g : Gm) (mo : List Nat) (m : List (List Int)) (f : Nat → Nat) (v n : Nat) (hg : IsGame w vg g) (hb : IsInts w vb (castM mo)) (hm : IsRows w vm m) (hE : RE g n) (h1 : g.owner.length = n) (h2 : g.prio.length = n) (h3 : g.succ.length = n) (h4 : m.length = n) (hv : v < n) (hM : ∀ u, u < n → m.getD u [] = digL mo (f u)) (hf : ∀ u, u < n → f u ≤ topN mo)
    (hq : pri g v = (prN g v : Int) ∧ prN g v ≤ 30001) (hp : partN (prN g v) ≤ mo.length) (hl : mo.length ≤ 15001) (hmb : ∀ k, mo.getD k 0 ≤ 3000) :
    Calls Try.prog 58 #[vg, vb, vm, .int .i64 (v : Int)] w (NewSet (digL mo (needN g mo f v)) w) := by
  have hSne := hE.so v hv
  have hSed := hE.ed v hv
  have HSL : Hid (bestA mo f (prN g v) (own g v) (g.succ.getD v []) (g.succ.getD v []).length = needN g mo f v) := bestA_all hSne fun x hx => by
    obtain ⟨j, rfl, hj⟩ := hSed x hx
    simpa using hf j hj
  have HDF := Lib.hid (dig_fit hl hmb)
  have hpr : g.prio.getD v 0 = (prN g v : Int) := hq.1
  have how : own g v = g.owner.getD v 0 := rfl
  have hoo := hE.ow v hv
  rw [how] at HSL hoo
  obtain ⟨ab, cb, rfl⟩ := hb.shape
  obtain ⟨M, ⟨a3, c3, b3, o3, rfl, A3⟩, R3⟩ := hm
  have HAL : Hid (∀ W u, Below w.heap.size w W → u < n → Calls Try.prog 71 #[.slice ab (castM mo).length cb, M u, .int .i64 (prN g v : Int)] W (NewSet (digL mo (alongN mo (f u) (prN g v))) W)) := fun W u h hu => by
    have hr := (R3 u (by omega)).below h
    have := ralong_c W _ _ mo _ (prN g v) (hb.below h) hr (by rw [hM u hu]; exact dig_me _ _) hp hl hmb hq.2
    rwa [hM u hu, cd_dig (hf u hu)] at this
  obtain ⟨v0, v1, v2, rfl, g0, g1, g2⟩ := hg
  obtain ⟨a0, c0, rfl⟩ := g0.shape
  obtain ⟨b0, o0, e0, n0, d0⟩ := g0.dat
  obtain ⟨a1, c1, rfl⟩ := g1.shape
  obtain ⟨b1, o1, e1, n1, d1⟩ := g1.dat
  obtain ⟨V, ⟨a2, c2, b2, o2, rfl, A2⟩, R2⟩ := g2
  obtain ⟨sa, cs, es⟩ := (R2 v (by omega)).shape
  have hrs := R2 v (by omega)
  rw [es] at hrs
  obtain ⟨bs, os, ds, ns, fs⟩ := hrs.dat
  rw [h1] at e0 n0 d0 ⊢
  rw [h2] at e1 n1 d1 ⊢
  rw [h3] at A2 ⊢
  rw [h4] at A3 ⊢
  obtain rfl := e0 (by omega)
  obtain rfl := e1 (by omega)
  obtain rfl := A2.ad (by omega)
  obtain rfl := A3.ad (by omega)
  have hSp : 0 < (g.succ.getD v []).length := List.length_pos_iff.2 hSne
  obtain rfl := ds hSp
  have k0 := d0 v hv
  have k1 := d1 v hv
  have k2 := A2.el v hv
  rw [es] at k2
  rw [hpr] at k1
  have nn2 := A2.nb
  have nn3 := A3.nb
  have s1 : (v : Int) < (n : Int) := by omega
  have HM3 : Hid (∀ j, j < n → w.cell? ⟨b3, o3 + j, none⟩ = some (M j)) := fun j hj => A3.el j hj
  have HFS : Hid (∀ j, j < (g.succ.getD v []).length → w.cell? ⟨bs, os + j, none⟩ = some (.int .i64 ((g.succ.getD v []).getD j 0))) := fs
  have HED : Hid (∀ x ∈ g.succ.getD v [], ∃ j : Nat, x = (j : Int) ∧ j < n) := hSed
  have HFT : Hid (∀ u, u < n → alongN mo (f u) (prN g v) ≤ topN mo) := fun u hu => along_le (hf u hu)
  have HBS : Hid (∀ k, k < (g.succ.getD v []).length → bestA mo f (prN g v) (g.owner.getD v 0) (g.succ.getD v []) (k + 1) = if g.owner.getD v 0 = 1 then max (bestA mo f (prN g v) (g.owner.getD v 0) (g.succ.getD v []) k) (alongN mo (f ((g.succ.getD v []).getD k 0).toNat) (prN g v)) else min (bestA mo f (prN g v) (g.owner.getD v 0) (g.succ.getD v []) k) (alongN mo (f ((g.succ.getD v []).getD k 0).toNat) (prN g v))) := fun k hk => bestA_step hk
  have HB1 : Hid (bestA mo f (prN g v) (g.owner.getD v 0) (g.succ.getD v []) 1 = alongN mo (f ((g.succ.getD v []).getD 0 0).toNat) (prN g v)) := bestA_one hSp
  clear hE hM hf hq hp hl hmb hpr how R3 A3 R2 A2 d0 d1 fs e0 e1 ds hrs es hSne hSed hb g0 g1 h1 h2 h3 h4
  generalize needN g mo f v = nd at *
  generalize g.owner.getD v 0 = ow at *
  generalize prN g v = p at *
  generalize g.succ.getD v [] = S at *
  generalize (castM mo).length = L at *
  obtain ⟨bA, hbA⟩ : ∃ bA : Nat → Nat, ∀ k, bA k = bestA mo f p ow S k := ⟨_, fun _ => rfl⟩
  simp only [← hbA] at HBS HB1 HSL
  clear hbA
  obtain ⟨R, hR0, hR1⟩ : ∃ R : Nat → List Int, R 0 = [] ∧ ∀ k, R (k + 1) = digL mo (bA (k + 1)) := ⟨fun k => if k = 0 then [] else digL mo (bA k), rfl, fun _ => rfl⟩
  have HR0 := Lib.hid hR0
  have HR1 := Lib.hid hR1
  clear hR0 hR1
  have hx : (w.alloc (.cells #[.slice (some ⟨b0, o0, none⟩) n c0, .slice (some ⟨b1, o1, none⟩) n c1, .slice (some ⟨b2, o2, none⟩) n c2] 25)).heap[w.heap.size]? = some (.cells #[.slice (some ⟨b0, o0, none⟩) n c0, .slice (some ⟨b1, o1, none⟩) n c1, .slice (some ⟨b2, o2, none⟩) n c2] 25 (0, 0)) := (by (repeat (rw [alloc_get]; first | rw [if_pos (by first | (simp; done) | (simp; omega))] | rw [if_neg (by first | (simp; done) | (simp; omega))])); (try rfl))
  have hB : Below w.heap.size w (w.alloc (.cells #[.slice (some ⟨b0, o0, none⟩) n c0, .slice (some ⟨b1, o1, none⟩) n c1, .slice (some ⟨b2, o2, none⟩) n c2] 25)) := (by repeat (first | exact Below.refl _ _ | assumption | (refine belA ?_ _) | (refine belD ?_ _)))
  go_enter Try.func58, Try.ntmps58
  go_upto_region 1 with (fail)
  generalize (w.alloc (.cells #[.slice (some ⟨b0, o0, none⟩) n c0, .slice (some ⟨b1, o1, none⟩) n c1, .slice (some ⟨b2, o2, none⟩) n c2] 25)) = w1 at *
  have q0 := cell_of_row _ _ 0 _ _ _ hx
  have q1 := cell_of_row _ _ 1 _ _ _ hx
  have q2 := cell_of_row _ _ 2 _ _ _ hx
  have HB0 := Lib.hid hB
  clear hx hB
  go_wp2_with fail
  go_loopg [9, 10] S.length (fun gh b i wr => ∃ k : Nat, gh = S.length - k ∧ i = .int .i64 (k : Int) ∧ k ≤ S.length ∧ Hid (OI wr w1.heap.size b (R k)) ∧ Hid (0 < k → bA k ≤ topN mo) ∧ Hid (Below w1.heap.size w1 wr))
  case atStart => exact ⟨0, rfl, rfl, by omega, by show OI _ _ _ _; rw [HR0.out]; exact OI_nil _ _, fun h => absurd h (by omega), Below.refl _ _⟩
  case round =>
    obtain ⟨k, hgk, rfl, hk, HO, HT, HB⟩ := hrel
    have HGK := Lib.hid hgk
    clear hgk
    have HBW := Lib.hid (HB0.out.trans (HB.out.mono HB0.out.size))
    have q0r := cellB HB.out q0
    have q1r := cellB HB.out q1
    have q2r := cellB HB.out q2
    have k0r := cellB HBW.out k0
    have k1r := cellB HBW.out k1
    have k2r := cellB HBW.out k2
    obtain ⟨ao, co, rfl⟩ := HO.out.slice
    by_cases hlt : k < S.length
    · as_aux_lemma =>
      obtain ⟨u, hu, hun⟩ := HED.out (S.getD k 0) (by rw [getD_lt _ _ _ hlt]; exact List.getElem_mem hlt)
      have r1 := cellB HBW.out (HFS.out k hlt)
      have r2 := cellB HBW.out (HM3.out u hun)
      rw [hu] at r1
      have i1 : (k : Int) < (S.length : Int) := by omega
      have i2 : (u : Int) < (n : Int) := by omega
      have HAU : Hid (∀ W, Below w.heap.size w W → Calls Try.prog 71 #[.slice ab L cb, M u, .int .i64 (p : Int)] W (NewSet (digL mo (alongN mo (f u) p)) W)) := fun W h => HAL.out W u h hun
      have HX : Hid (alongN mo (f u) p ≤ topN mo) := HFT.out u hun
      have HB1' : Hid (k = 0 → bA 1 = alongN mo (f u) p) := fun e => by rw [HB1.out]; subst e; rw [hu]; simp
      have HBS' : Hid (bA (k + 1) = if ow = 1 then max (bA k) (alongN mo (f u) p) else min (bA k) (alongN mo (f u) p)) := by
        have := HBS.out k hlt
        rw [hu, Int.toNat_natCast] at this
        exact this
      clear hu
      generalize alongN mo (f u) p = X at *
      generalize M u = Mu at *
      go_upto_region 5 with (fail)
      go_still_tail 17, (by kernel_rfl)
      change wpList _ _ _ _ _ wr.drew
      have hdr := Below.drew (Below.refl wr.heap.size wr)
      have HB5 := Lib.hid (HB.out.trans (hdr.mono HB.out.size))
      have HO5 := Lib.hid (HO.out.below hdr)
      clear r1 r2 q0r q1r q2r k0r k1r k2r HO HB HBW hdr
      generalize wr.drew = w5 at *
      go_wp2_with fail
      refine (HAU.out _ (HB0.out.trans (HB5.out.mono HB0.out.size))).mono ?_
      rintro e w6 ⟨vx, rfl, hox, hb6⟩
      have HB6 := Lib.hid (HB5.out.trans (hb6.mono HB5.out.size))
      have HO6 := Lib.hid (HO5.out.below hb6)
      have HX6 := Lib.hid (hox.base HB5.out.size)
      clear hb6 hox HO5 HB5
      obtain ⟨ax, cx, rfl⟩ := HX6.out.slice
      have HIX := Lib.hid (HX6.out.is (by have := (HDF.out X).1; unfold maxN; omega) (HDF.out X).2)
      have HBW := Lib.hid (HB0.out.trans (HB6.out.mono HB0.out.size))
      have q0r := cellB HB6.out q0
      have k0r := cellB HBW.out k0
      by_cases hk0 : k = 0
      · subst hk0
        have HE : Hid (R (0 + 1) = digL mo X) := by show _ = _; rw [HR1.out 0, HB1'.out rfl]
        have HT1 : Hid (0 < 0 + 1 → bA (0 + 1) ≤ topN mo) := fun _ => by rw [show 0 + 1 = 1 from rfl, HB1'.out rfl]; exact HX.out
        go_wp2
        go_roundg (S.length - (0 + 1))
        case measure => have := HGK.out; omega
        case rel => exact ⟨0 + 1, rfl, rfl, by omega, by show OI _ _ _ _; rw [HE.out]; exact HX6.out, HT1, HB6.out⟩
      · obtain ⟨q, rfl⟩ : ∃ q, k = q + 1 := ⟨k - 1, by omega⟩
        have t0 : (((q + 1 : Nat) : Int) == 0) = false := by rw [beq_eq_false_iff_ne]; omega
        have t0' : ((q : Int) + 1 == 0) = false := by rw [beq_eq_false_iff_ne]; omega
        have hbT := HT.out (by omega)
        have HIB : Hid (IsInts w6 (.slice ao (R (q + 1)).length co) (digL mo (bA (q + 1)))) := by
          have := HO6.out.is (by rw [HR1.out q]; have := (HDF.out (bA (q + 1))).1; unfold maxN; omega) (by rw [HR1.out q]; exact (HDF.out (bA (q + 1))).2)
          rw [HR1.out q] at this ⊢
          exact this
        have HL1 : Hid (∀ nq, Calls Try.prog 22 #[.slice ax (digL mo X).length cx, .slice ao (R (q + 1)).length co] (w6.drewN nq) (Quiet (.bool (decide (X < bA (q + 1)))) (w6.drewN nq))) := fun nq => by
          rw [← less_dig HX.out hbT]
          exact Less_c _ _ _ _ _ (HIX.out.below (below_draws _ _ _)) (HIB.out.below (below_draws _ _ _))
        have HL2 : Hid (∀ nq, Calls Try.prog 22 #[.slice ao (R (q + 1)).length co, .slice ax (digL mo X).length cx] (w6.drewN nq) (Quiet (.bool (decide (bA (q + 1) < X))) (w6.drewN nq))) := fun nq => by
          rw [← less_dig hbT HX.out]
          exact Less_c _ _ _ _ _ (HIB.out.below (below_draws _ _ _)) (HIX.out.below (below_draws _ _ _))
        have HRn := HR1.out q
        have HRn' := Lib.hid HRn
        clear HRn hk0
        rcases hoo with rfl | rfl
        · have hsel : bA (q + 1 + 1) = min (bA (q + 1)) X := by rw [HBS'.out, if_neg (by omega)]
          by_cases hc : X < bA (q + 1)
          · have HE : Hid (bA (q + 1 + 1) = X) := by show _ = _; omega
            have HL3 : Hid (Calls Try.prog 22 #[.slice ax (digL mo X).length cx, .slice ao (R (q + 1)).length co] w6 (Quiet (.bool true) w6)) := by have := HL1.out 0; rw [decide_eq_true hc] at this; exact this
            clear hc hsel HL1 HL2 hbT
            go_wp2_with fail
            refine HL3.out.mono ?_
            rintro e w7 ⟨rfl, n7, rfl⟩
            go_wp2
            go_roundg (S.length - (q + 1 + 1))
            case measure => have := HGK.out; omega
            case rel => exact ⟨q + 1 + 1, rfl, by go_num, by omega, by show OI _ _ _ _; rw [HR1.out (q + 1), HE.out]; exact HX6.out.below (below_draws _ _ _), fun _ => by rw [HE.out]; exact HX.out, HB6.out.trans (below_draws _ _ _)⟩
          · have HE : Hid (bA (q + 1 + 1) = bA (q + 1)) := by show _ = _; omega
            have HL3 : Hid (Calls Try.prog 22 #[.slice ax (digL mo X).length cx, .slice ao (R (q + 1)).length co] w6 (Quiet (.bool false) w6)) := by have := HL1.out 0; rw [decide_eq_false hc] at this; exact this
            have HBT := Lib.hid hbT
            clear hc hsel HL1 HL2 hbT
            go_wp2_with fail
            refine HL3.out.mono ?_
            rintro e w7 ⟨rfl, n7, rfl⟩
            have q0s := cellD n7 q0r
            have k0s := cellD n7 k0r
            go_wp2
            go_roundg (S.length - (q + 1 + 1))
            case measure => have := HGK.out; omega
            case rel => exact ⟨q + 1 + 1, rfl, by go_num, by omega, by show OI _ _ _ _; rw [HR1.out (q + 1), HE.out, ← HRn'.out]; exact HO6.out.below (below_draws _ _ _), fun _ => by rw [HE.out]; exact HBT.out, HB6.out.trans (below_draws _ _ _)⟩
        · have hsel : bA (q + 1 + 1) = max (bA (q + 1)) X := by rw [HBS'.out, if_pos rfl]
          by_cases hc : bA (q + 1) < X
          · have HE : Hid (bA (q + 1 + 1) = X) := by show _ = _; omega
            have HL3 : Hid (Calls Try.prog 22 #[.slice ao (R (q + 1)).length co, .slice ax (digL mo X).length cx] w6 (Quiet (.bool true) w6)) := by have := HL2.out 0; rw [decide_eq_true hc] at this; exact this
            clear hc hsel HL1 HL2 hbT
            go_wp2_with fail
            refine HL3.out.mono ?_
            rintro e w7 ⟨rfl, n7, rfl⟩
            go_wp2
            go_roundg (S.length - (q + 1 + 1))
            case measure => have := HGK.out; omega
            case rel => exact ⟨q + 1 + 1, rfl, by go_num, by omega, by show OI _ _ _ _; rw [HR1.out (q + 1), HE.out]; exact HX6.out.below (below_draws _ _ _), fun _ => by rw [HE.out]; exact HX.out, HB6.out.trans (below_draws _ _ _)⟩
          · have HE : Hid (bA (q + 1 + 1) = bA (q + 1)) := by show _ = _; omega
            have HL3 : Hid (Calls Try.prog 22 #[.slice ao (R (q + 1)).length co, .slice ax (digL mo X).length cx] w6 (Quiet (.bool false) w6)) := by have := HL2.out 0; rw [decide_eq_false hc] at this; exact this
            have HBT := Lib.hid hbT
            clear hc hsel HL1 HL2 hbT
            go_wp2_with fail
            refine HL3.out.mono ?_
            rintro e w7 ⟨rfl, n7, rfl⟩
            go_wp2
            go_roundg (S.length - (q + 1 + 1))
            case measure => have := HGK.out; omega
            case rel => exact ⟨q + 1 + 1, rfl, by go_num, by omega, by show OI _ _ _ _; rw [HR1.out (q + 1), HE.out, ← HRn'.out]; exact HO6.out.below (below_draws _ _ _), fun _ => by rw [HE.out]; exact HBT.out, HB6.out.trans (below_draws _ _ _)⟩
    · as_aux_lemma =>
      obtain rfl : k = S.length := by omega
      have i1 : ¬ (S.length : Int) < (S.length : Int) := by omega
      obtain ⟨q, hq⟩ : ∃ q, S.length = q + 1 := ⟨S.length - 1, by omega⟩
      have HE : Hid (R S.length = digL mo nd) := by show _ = _; rw [← HSL.out, hq, HR1.out q]
      clear hq
      go_wp2
      go_ret
      exact ⟨_, rfl, by rw [← HE.out]; exact HO.out.base HB0.out.size, HBW.out⟩

end Go.Proofs.Ytijkjhcigdfdgaa
