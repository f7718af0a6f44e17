/- What a position needs: the walk. -/
import Derived.Test.YtijkjhcigdfdgaaQRkW11
namespace Go.Proofs.Ytijkjhcigdfdgaa
open Go.RowKit

set_option maxRecDepth 100000 in
set_option maxHeartbeats 4000000 in
theorem need_c (w : World) (z v n : Nat) (v0 v1 v2 v3 vu va vb : Value) (g : Gm) (mo : List Nat) (A : List Int) (f : Nat → Nat) (hz : w.heap[z]? = some (.cells #[v0, v1, v2, v3, vu, va, vb] 57 (0, 0))) (hg : IsGame w (.agg #[v0, v1, v2]) g) (hU : IsInts w vu (unitsL mo)) (hA : IsInts w va A)
    (hE : RE g n) (h1 : g.owner.length = n) (h2 : g.prio.length = n) (h3 : g.succ.length = n) (h4 : A.length = n) (hv : v < n) (hf : ∀ i, i < n → A.getD i 0 = (f i : Int)) (hT : topN mo ≤ 2000000) (hc : ∀ i, i < n → f i ≤ topN mo) (hq : pri g v = (prN g v : Int) ∧ prN g v ≤ 30001) (hp : partN (prN g v) ≤ mo.length) :
    Calls Try.prog 51 #[.pointer (some ⟨z, 0, none⟩), .int .i64 (v : Int)] w (Quiet (.int .i64 (needN g mo f v : Int)) w) := by
  obtain ⟨g0, g1, g2⟩ := hg.parts3
  obtain ⟨a0, c0, rfl⟩ := g0.shape
  obtain ⟨b0, o0, e0, n0, d0⟩ := g0.dat
  obtain ⟨a1, c1, rfl⟩ := g1.shape
  obtain ⟨b1, o1, e1, n1, d1⟩ := g1.dat
  obtain ⟨V, ⟨a2, c2, b2, o2, rfl, A2⟩, R2⟩ := g2
  have hSne := hE.so v hv
  have hSed := hE.ed v hv
  obtain ⟨sa, cs, es⟩ := (R2 v (by omega)).shape
  have hrs := R2 v (by omega)
  rw [es] at hrs
  obtain ⟨bs, os, ds, ns, fs⟩ := hrs.dat
  obtain ⟨aa, ca, rfl⟩ := hA.shape
  obtain ⟨ba, oa, da, na, fa⟩ := hA.dat
  rw [h1] at e0 n0 d0 hz
  rw [h2] at e1 n1 d1 hz
  rw [h3] at A2 hz
  rw [h4] at da na fa hz
  obtain rfl := e0 (by omega)
  obtain rfl := e1 (by omega)
  obtain rfl := A2.ad (by omega)
  obtain rfl := da (by omega)
  obtain rfl := ds (List.length_pos_iff.2 hSne)
  have k0 := d0 v hv
  have k1 := d1 v hv
  have k2 := A2.el v hv
  rw [es] at k2
  have nn2 := A2.nb
  have q0 := cell_of_row _ _ 0 _ _ _ hz
  have q1 := cell_of_row _ _ 1 _ _ _ hz
  have q2 := cell_of_row _ _ 2 _ _ _ hz
  have q5 := cell_of_row _ _ 5 _ _ _ hz
  obtain ⟨b, hb, hbn⟩ := hSed _ (best_mem f hSne)
  have HMIN : Hid (f b = minF f (g.succ.getD v [])) := by show _ = _; rw [← best_min, hb]; simp
  have HLC : Hid (∀ W, Below w.heap.size w W → Calls Try.prog 70 #[.slice (some ⟨bs, os, none⟩) (g.succ.getD v []).length cs, .slice (some ⟨ba, oa, none⟩) n ca] W (Quiet (.int .i64 (b : Int)) W)) := fun W hW => by
    rw [← hb]
    rw [h4] at hA
    exact leastC_c W _ _ _ A n f (hrs.below hW) (hA.below hW) h4 hSne hSed hf
  have r1 := fa b hbn
  rw [hf b hbn] at r1
  have s1 : (v : Int) < (n : Int) := by omega
  have s2 : (b : Int) < (n : Int) := by omega
  have hbT := hc b hbn
  have hzl := (Array.getElem?_eq_some_iff.1 hz).1
  have HAL : Hid (∀ W (c : Nat), Below w.heap.size w W → c ≤ topN mo → Calls Try.prog 53 #[.pointer (some ⟨z, 0, none⟩), .int .i64 (c : Int), .int .i64 (prN g v : Int)] W (Quiet (.int .i64 (alongN mo c (prN g v) : Int)) W)) := fun W c hW hc => calong_c W z _ _ _ _ _ _ _ mo c _ ((hW.block _ hzl).trans hz) (hU.below hW) hT hc hq.2 hp
  have HN : Hid (needN g mo f v = alongN mo (if own g v = 1 then maxF f (g.succ.getD v []) else minF f (g.succ.getD v [])) (prN g v)) := rfl
  have hpr : g.prio.getD v 0 = (prN g v : Int) := hq.1
  rw [hpr] at k1
  have hoe : own g v = g.owner.getD v 0 := rfl
  rw [hoe] at HN
  have HFS : Hid (∀ j, j < (g.succ.getD v []).length → w.cell? ⟨bs, os + j, none⟩ = some (.int .i64 ((g.succ.getD v []).getD j 0))) := fs
  have HFA : Hid (∀ j, j < n → w.cell? ⟨ba, oa + j, none⟩ = some (.int .i64 (f j : Int))) := fun j hj => by rw [← hf j hj]; exact fa j hj
  have HED : Hid (∀ x ∈ g.succ.getD v [], ∃ j : Nat, x = (j : Int) ∧ j < n) := hSed
  have HMX : Hid (maxK f (minF f (g.succ.getD v [])) (g.succ.getD v []) = maxF f (g.succ.getD v [])) := maxK_min hSne
  have HCT : Hid (∀ i, i < n → f i ≤ topN mo) := hc
  have hST : minF f (g.succ.getD v []) ≤ topN mo := by rw [← HMIN.out]; exact hbT
  clear hb hc hT hq hp hf hE hg hA hU hz fa fs d0 d1 A2 R2 g0 g1 hrs hSne hSed es hpr hoe e0 e1 da ds
  generalize g.succ.getD v [] = S at *
  generalize prN g v = p at *
  generalize g.owner.getD v 0 = ow at *
  generalize needN g mo f v = nd at *
  generalize topN mo = T at *
  have HLN : Hid (S.length ≤ 9223372036854775807) := by show _ ≤ _; omega
  obtain ⟨w0, hw0⟩ : ∃ w0, w0 = w := ⟨_, rfl⟩
  go_enter Try.func51, Try.ntmps51
  go_upto_region 1 with (fail)
  go_quiet ((go_at_call 70; refine (HLC.out _ (by repeat (first | exact Below.refl _ _ | refine belD ?_ _))).mono ?_; rintro e w' ⟨rfl, n', rfl⟩; exact ⟨rfl, _, by rw [World.drewN_drewN]⟩))
  have HAQ : Hid (∀ (W : World) (c : Nat), Below w.heap.size w W → c ≤ T → Calls Try.prog 53 #[.pointer (some ⟨z, 0, none⟩), .int .i64 (c : Int), .int .i64 (p : Int)] W (Quiet (.int .i64 (alongN mo c p : Int)) W)) := HAL.out
  by_cases ho : ow = 1
  · have t1 : (ow == 1) = true := by rw [beq_iff_eq]; exact ho
    have HN2 : Hid (nd = alongN mo (maxF f S) p) := by show _ = _; rw [HN.out, if_pos ho]
    clear ho HN HAL
    go_upto_region 4 with (fail)
    go_loopg [5, 7, 48] S.length (fun gh m _ i wr => ∃ k nd : Nat, gh = S.length - k ∧ m = .int .i64 (maxK f (minF f S) (S.take k) : Int) ∧ i = .int .i64 (k : Int) ∧ k ≤ S.length ∧ Hid (maxK f (minF f S) (S.take k) ≤ T) ∧ Hid (wr = w.drewN nd))
    case atStart => exact ⟨0, _, rfl, by rw [HMIN.out]; rfl, rfl, by omega, hST, rfl⟩
    case round =>
      obtain ⟨k, nd, hgk, rfl, rfl, hk, HT, HW⟩ := hrel
      have HGK := Lib.hid hgk
      clear hgk
      have HBW : Hid (Below w.heap.size w wr) := by show Below _ _ _; rw [HW.out]; exact below_draws _ _ _
      have q0' := cellB HBW.out q0
      have q1' := cellB HBW.out q1
      have q5' := cellB HBW.out q5
      have k1' := cellB HBW.out k1
      by_cases hlt : k < S.length
      · have hk1 : (k : Int) < (S.length : Int) := by omega
        obtain ⟨u, hu, hun⟩ := HED.out (S.getD k 0) (by rw [getD_lt _ _ _ hlt]; exact List.getElem_mem hlt)
        have r1' := cellB HBW.out (HFS.out k hlt)
        have r2' := cellB HBW.out (HFA.out u hun)
        rw [hu] at r1'
        have u1 : (u : Int) < (n : Int) := by omega
        have HX : Hid (maxK f (minF f S) (S.take (k + 1)) = max (maxK f (minF f S) (S.take k)) (f u)) := by show _ = _; rw [maxK_take f _ hlt, hu, Int.toNat_natCast]
        have hfu := HCT.out u hun
        have hTk := HT.out
        clear hu
        generalize maxK f (minF f S) (S.take k) = mk at *
        generalize f u = fu at *
        go_wp2
        all_goals
          go_roundg (S.length - (k + 1))
          case measure => have := HGK.out; omega
          case rel => exact ⟨k + 1, _, rfl, by rw [HX.out]; congr 1; first | omega | (simp; omega), by go_num, by omega, by show _ ≤ _; rw [HX.out]; omega, HW.out⟩
      · have hd : ¬ (k : Int) < (S.length : Int) := by omega
        have HX : Hid (maxK f (minF f S) (S.take k) = maxF f S) := by show _ = _; rw [← HMX.out, List.take_of_length_le (by omega)]
        rw [HX.out] at HT ⊢
        have hTk := HT.out
        go_wp2_with fail
        refine (HAQ.out _ _ (by repeat (first | exact HBW.out | refine belD ?_ _)) hTk).mono ?_
        rintro e w' ⟨rfl, n', rfl⟩
        go_wp2
        go_ret
        exact ⟨by rw [HN2.out]; rfl, _, by rw [HW.out, World.drewN_drewN]⟩
  · have t1 : (ow == 1) = false := by rw [beq_eq_false_iff_ne]; exact ho
    have HN2 : Hid (nd = alongN mo (minF f S) p) := by show _ = _; rw [HN.out, if_neg ho]
    clear ho HN HAL
    have HM2 : Hid (f b = minF f S) := HMIN.out
    have hTk : f b ≤ T := hbT
    go_wp2_with fail
    refine (HAQ.out _ _ (by repeat (first | exact Below.refl _ _ | refine belD ?_ _)) hTk).mono ?_
    rintro e w' ⟨rfl, n', rfl⟩
    go_wp2
    go_ret
    exact ⟨by rw [HN2.out, ← HM2.out]; rfl, _, rfl⟩

end Go.Proofs.Ytijkjhcigdfdgaa
