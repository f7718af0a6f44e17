/- What a position keeps (plain, and its walk). -/
import Derived.Test.YtijkjhcigdfdgaaQRkW4
namespace Go.Proofs.Ytijkjhcigdfdgaa
open Go.RowKit

theorem al_iff {mo : List Nat} {a b : List Int} {p : Nat} (ha : meB mo a = true) (hna : a ≠ []) (hb : meB mo b = true) (hp : partN p ≤ mo.length) : alB a b p = true ↔ alongN mo (cdN mo b) p ≤ cdN mo a := by
  unfold alB
  by_cases hnb : b = []
  · have e := (cd_top hb).2 hnb
    have h1 : cdN mo a ≠ topN mo := fun e => hna ((cd_top ha).1 e)
    have h2 := cd_le ha
    rw [e, along_top, decide_eq_false (by simp [hnb])]
    simp; omega
  · have h1 : cdN mo b ≠ topN mo := fun e => hnb ((cd_top hb).1 e)
    have h2 := cd_le hb
    rw [along_iff (show cdN mo b < topN mo by omega), cd_div ha hna hp, cd_div hb hnb hp, decide_eq_true hnb, Bool.true_and, decide_eq_true_eq]
    have la : ∀ {l : List Int}, meB mo l = true → l ≠ [] → (∀ i, i < mo.length → 0 ≤ l.getD i 0 ∧ (l.getD i 0).toNat ≤ mo.getD i 0) ∧ mo.length ≤ l.length := by
      intro l h hn
      rcases meB_iff.1 h with h | ⟨h, h'⟩ | ⟨-, h, h'⟩
      · exact absurd h hn
      · subst h; exact ⟨fun i hi => by simp at hi, by simp⟩
      · exact ⟨fun i hi => by have := h' i hi; omega, by omega⟩
    obtain ⟨a1, a2⟩ := la ha hna
    obtain ⟨b1, b2⟩ := la hb hnb
    rw [cmp_take a1 b1 (partN p) hp (by omega) (by omega)]
    have : p % 2 < 2 := Nat.mod_lt _ (by omega)
    split
    · omega
    · split <;> omega

section
variable {g : Gm} {n v : Nat} {mo : List Nat} {m : List (List Int)}
theorem keep_iff (hE : RE g n) (hM : ∀ u, u < n → meB mo (m.getD u []) = true) (hp : ∀ u, u < n → partN (prN g u) ≤ mo.length) (hv : v < n) (ha : m.getD v [] ≠ []) :
    needN g mo (fun u => cdN mo (m.getD u [])) v ≤ cdN mo (m.getD v []) ↔ (own g v = 0 → ∃ x ∈ g.succ.getD v [], alB (m.getD v []) (m.getD x.toNat []) (prN g v) = true) ∧ (own g v ≠ 0 → ∀ x ∈ g.succ.getD v [], alB (m.getD v []) (m.getD x.toNat []) (prN g v) = true) := by
  rw [need_ge_iff hE (fun u hu => cd_le (hM u hu)) hv]
  have key : ∀ x ∈ g.succ.getD v [], alB (m.getD v []) (m.getD x.toNat []) (prN g v) = true ↔ alongN mo (cdN mo (m.getD x.toNat [])) (prN g v) ≤ cdN mo (m.getD v []) := fun x hx => by
    obtain ⟨j, rfl, hj⟩ := hE.ed v hv x hx
    exact al_iff (hM v hv) ha (hM _ (by simpa using hj)) (hp v hv)
  constructor
  · rintro ⟨h1, h2⟩
    refine ⟨fun h => ?_, fun h x hx => ?_⟩
    · obtain ⟨j, hj, e⟩ := h1 h
      exact ⟨(j : Int), hj, (key _ hj).2 (by simpa using e)⟩
    · obtain ⟨j, rfl, hj⟩ := hE.ed v hv x hx
      exact (key _ hx).2 (by simpa using h2 h j hx)
  · rintro ⟨h1, h2⟩
    refine ⟨fun h => ?_, fun h j hj => ?_⟩
    · obtain ⟨x, hx, e⟩ := h1 h
      obtain ⟨j, rfl, hj⟩ := hE.ed v hv x hx
      exact ⟨j, hx, by simpa using (key _ hx).1 e⟩
    · simpa using (key _ hj).1 (h2 h _ hj)
theorem keep_found (hE : RE g n) (hM : ∀ u, u < n → meB mo (m.getD u []) = true) (hp : ∀ u, u < n → partN (prN g u) ≤ mo.length) (hv : v < n) (ha : m.getD v [] ≠ []) {x : Int} (hx : x ∈ g.succ.getD v []) {o : Bool} (ho : o = decide (own g v = 0)) (h : alB (m.getD v []) (m.getD x.toNat []) (prN g v) = o) :
    decide (needN g mo (fun u => cdN mo (m.getD u [])) v ≤ cdN mo (m.getD v [])) = o := by
  rw [Bool.eq_iff_iff, decide_eq_true_eq, keep_iff hE hM hp hv ha]
  by_cases e : own g v = 0
  · rw [ho, decide_eq_true e] at h ⊢
    exact ⟨fun _ => rfl, fun _ => ⟨fun _ => ⟨x, hx, h⟩, fun h => absurd e h⟩⟩
  · rw [ho, decide_eq_false e] at h ⊢
    exact ⟨fun h' => by rw [← h]; exact h'.2 e x hx, fun h' => by simp at h'⟩
theorem keep_end (hE : RE g n) (hM : ∀ u, u < n → meB mo (m.getD u []) = true) (hp : ∀ u, u < n → partN (prN g u) ≤ mo.length) (hv : v < n) (ha : m.getD v [] ≠ []) {o : Bool} (ho : o = decide (own g v = 0)) (h : ∀ x ∈ g.succ.getD v [], alB (m.getD v []) (m.getD x.toNat []) (prN g v) = !o) :
    decide (needN g mo (fun u => cdN mo (m.getD u [])) v ≤ cdN mo (m.getD v [])) = !o := by
  rw [Bool.eq_iff_iff, decide_eq_true_eq, keep_iff hE hM hp hv ha]
  by_cases e : own g v = 0
  · rw [ho, decide_eq_true e] at h ⊢
    exact ⟨fun h' => by obtain ⟨x, hx, e'⟩ := h'.1 e; rw [h x hx] at e'; exact e', fun h' => by simp at h'⟩
  · rw [ho, decide_eq_false e] at h ⊢
    exact ⟨fun _ => rfl, fun _ => ⟨fun h => absurd h e, fun _ x hx => h x hx⟩⟩
theorem keep_top (hE : RE g n) (hM : ∀ u, u < n → meB mo (m.getD u []) = true) (hv : v < n) (ha : m.getD v [] = []) :
    needN g mo (fun u => cdN mo (m.getD u [])) v ≤ cdN mo (m.getD v []) := by
  rw [(cd_top (hM v hv)).2 ha]
  exact need_le hE (fun u hu => cd_le (hM u hu)) hv
end

set_option maxRecDepth 100000 in
set_option maxHeartbeats 4000000 in
theorem keeps_c (w : World) (vv vm : Value) (g : Gm) (mo : List Nat) (m : List (List Int)) (v n : Nat) (hw : IsView w vv g mo) (hm : IsRows w vm m) (hE : RE g n) (hM : ∀ u, u < n → meB mo (m.getD u []) = true) (hp : ∀ u, u < n → partN (prN g u) ≤ mo.length) (hq : ∀ u, u < n → pri g u = (prN g u : Int) ∧ prN g u ≤ 30001)
    (h1 : g.owner.length = n) (h2 : g.prio.length = n) (h3 : g.succ.length = n) (h4 : m.length = n) (hv : v < n) :
    Calls Try.prog 60 #[vv, .int .i64 (v : Int), vm] w (Calm (.bool (decide (needN g mo (fun u => cdN mo (m.getD u [])) v ≤ cdN mo (m.getD v [])))) w) := by
  obtain ⟨v0, v1, v2, vb, rfl, hg, hI⟩ := hw
  obtain ⟨g0, g1, g2⟩ := hg.parts3
  obtain ⟨a0, c0, rfl⟩ := g0.shape
  obtain ⟨b0, o0, e0, n0, d0⟩ := g0.dat
  obtain ⟨a1, c1, rfl⟩ := g1.shape
  obtain ⟨b1, o1, e1, n1, d1⟩ := g1.dat
  obtain ⟨V, ⟨a2, c2, b2, o2, rfl, A2⟩, R2⟩ := g2
  obtain ⟨M, ⟨a3, c3, b3, o3, rfl, A3⟩, R3⟩ := hm
  rw [h1] at e0 n0 d0 ⊢
  rw [h2] at e1 n1 d1 ⊢
  rw [h3] at A2 R2 ⊢
  rw [h4] at A3 R3 ⊢
  obtain rfl := e0 (by omega)
  obtain rfl := e1 (by omega)
  obtain rfl := A2.ad (by omega)
  obtain rfl := A3.ad (by omega)
  obtain ⟨sa, cs, es⟩ := (R2 v hv).shape
  have hrs := R2 v hv
  rw [es] at hrs
  obtain ⟨bs, os, ds, ns, fs⟩ := hrs.dat
  obtain ⟨am, cm, em⟩ := (R3 v hv).shape
  have hB : Below w.heap.size w (w.alloc (.cells #[.slice (some ⟨b0, o0, none⟩) n c0, .slice (some ⟨b1, o1, none⟩) n c1, .slice (some ⟨b2, o2, none⟩) n c2, vb] 49)) := (by repeat (first | exact Below.refl _ _ | assumption | (refine belA ?_ _) | (refine belD ?_ _)))
  have k0 := cellB hB (d0 v hv)
  have k1 := cellB hB (d1 v hv)
  have k2 := cellB hB (A2.el v hv)
  have k3 := cellB hB (A3.el v hv)
  rw [es] at k2
  rw [em] at k3
  have hpr : g.prio.getD v 0 = (prN g v : Int) := (hq v hv).1
  rw [hpr] at k1
  obtain ⟨ob, hob⟩ : ∃ o, o = decide (own g v = 0) := ⟨_, rfl⟩
  have hob2 : (g.owner.getD v 0 == 0) = ob := by rw [hob]; rw [Bool.eq_iff_iff, beq_iff_eq, decide_eq_true_eq]; rfl
  have HOB := Lib.hid hob
  have hvn : (v : Int) < (n : Int) := by omega
  have nn2 := A2.nb
  have nn3 := A3.nb
  by_cases hl : (m.getD v []).length = 0
  · have t1 : (((m.getD v []).length : Int) == 0) = true := by rw [beq_iff_eq]; omega
    have HE : Hid (decide (needN g mo (fun u => cdN mo (m.getD u [])) v ≤ cdN mo (m.getD v [])) = true) := decide_eq_true (keep_top hE hM hv (List.length_eq_zero_iff.1 hl))
    clear hl hM hp hq hE
    generalize decide (needN g mo (fun u => cdN mo (m.getD u [])) v ≤ cdN mo (m.getD v [])) = res at *
    generalize (m.getD v []).length = lm at *
    go_enter Try.func60, Try.ntmps60
    go_wp2
    go_ret
    exact ⟨ret_bool HE.out.symm, hB⟩
  have t1 : (((m.getD v []).length : Int) == 0) = false := by rw [beq_eq_false_iff_ne]; omega
  have hna : m.getD v [] ≠ [] := fun e => hl (by rw [e]; rfl)
  have hML : ∀ u, u < n → m.getD u [] ≠ [] → mo.length ≤ (m.getD u []).length := fun u hu hn => by
    rcases meB_iff.1 (hM u hu) with h | ⟨h, h'⟩ | ⟨-, h, h'⟩
    · exact absurd h hn
    · rw [h]; simp
    · omega
  have HAL : Hid (∀ W (u : Nat), Below w.heap.size w W → u < n → Calls Try.prog 72 #[.slice am (m.getD v []).length cm, M u, .int .i64 (prN g v : Int)] W (Quiet (.bool (alB (m.getD v []) (m.getD u []) (prN g v))) W)) := fun W u hW hu => by
    have hr := R3 v hv
    rw [em] at hr
    exact along_c W _ _ _ _ _ (hr.below hW) ((R3 u hu).below hW) (hq v hv).2 (by have := hML v hv hna; have := hp v hv; omega) hna (fun h => by have := hML u hu h; have := hp v hv; omega)
  have HFO : Hid (∀ x, x ∈ g.succ.getD v [] → alB (m.getD v []) (m.getD x.toNat []) (prN g v) = ob → decide (needN g mo (fun u => cdN mo (m.getD u [])) v ≤ cdN mo (m.getD v [])) = ob) := fun x hx h => keep_found hE hM hp hv hna hx hob h
  have HEN : Hid ((∀ x ∈ g.succ.getD v [], alB (m.getD v []) (m.getD x.toNat []) (prN g v) = !ob) → decide (needN g mo (fun u => cdN mo (m.getD u [])) v ≤ cdN mo (m.getD v [])) = !ob) := fun h => keep_end hE hM hp hv hna hob h
  have HED : Hid (∀ x ∈ g.succ.getD v [], ∃ j : Nat, x = (j : Int) ∧ j < n) := hE.ed v hv
  have HM3 : Hid (∀ j, j < n → w.cell? ⟨b3, o3 + j, none⟩ = some (M j)) := fun j hj => A3.el j hj
  have HFS : Hid (∀ j, j < (g.succ.getD v []).length → w.cell? ⟨bs, os + j, none⟩ = some (.int .i64 ((g.succ.getD v []).getD j 0))) := fs
  generalize decide (needN g mo (fun u => cdN mo (m.getD u [])) v ≤ cdN mo (m.getD v [])) = res at *
  clear hl hM hp hq hE hML hna hob A2 A3 R2 R3 d0 d1 e0 e1 fs hrs g0 g1 hg hI hpr es em
  generalize m.getD v [] = a at *
  generalize g.succ.getD v [] = S at *
  generalize prN g v = p at *
  generalize g.owner.getD v 0 = ow at *
  have hx : (w.alloc (.cells #[.slice (some ⟨b0, o0, none⟩) n c0, .slice (some ⟨b1, o1, none⟩) n c1, .slice (some ⟨b2, o2, none⟩) n c2, vb] 49)).heap[w.heap.size]? = some (.cells #[.slice (some ⟨b0, o0, none⟩) n c0, .slice (some ⟨b1, o1, none⟩) n c1, .slice (some ⟨b2, o2, none⟩) n c2, vb] 49 (0, 0)) := (by (repeat (rw [alloc_get]; first | rw [if_pos (by first | (simp; done) | (simp; omega))] | rw [if_neg (by first | (simp; done) | (simp; omega))])); (try rfl))
  go_enter Try.func60, Try.ntmps60
  go_upto_region 1 with (fail)
  generalize (w.alloc (.cells #[.slice (some ⟨b0, o0, none⟩) n c0, .slice (some ⟨b1, o1, none⟩) n c1, .slice (some ⟨b2, o2, none⟩) n c2, vb] 49)) = w1 at *
  have q0 := cell_of_row _ _ 0 _ _ _ hx
  have q1 := cell_of_row _ _ 1 _ _ _ hx
  have q2 := cell_of_row _ _ 2 _ _ _ hx
  have HB := Lib.hid hB
  clear hx hB
  go_upto_region 5 with (fail)
  go_loopg [9, 30] S.length (fun gh _ i wr => ∃ k : Nat, gh = S.length - k ∧ i = .int .i64 (k : Int) ∧ k ≤ S.length ∧ Hid (∀ x ∈ S.take k, alB a (m.getD x.toNat []) p = !ob) ∧ Hid (Below w1.heap.size w1 wr))
  case atStart => exact ⟨0, rfl, rfl, by omega, fun x hx => by simp at hx, Below.refl _ _⟩
  case round =>
    obtain ⟨k, hgk, rfl, hk, HD, HW⟩ := hrel
    have HBW := Lib.hid (HB.out.trans (HW.out.mono HB.out.size))
    replace q0 := cellB HW.out q0
    replace q1 := cellB HW.out q1
    replace q2 := cellB HW.out q2
    replace k0 := cellB HW.out k0
    replace k1 := cellB HW.out k1
    replace k2 := cellB HW.out k2
    replace k3 := cellB HW.out k3
    have HGK := Lib.hid hgk
    clear hgk
    by_cases hlt : k < S.length
    · have hk1 : (k : Int) < (S.length : Int) := by omega
      obtain rfl := ds (by omega)
      obtain ⟨u, hu, hun⟩ := HED.out (S.getD k 0) (by rw [getD_lt _ _ _ hlt]; exact List.getElem_mem hlt)
      have r1 := cellB HBW.out (HFS.out k hlt)
      have r2 := cellB HBW.out (HM3.out u hun)
      rw [hu] at r1
      have hun2 : (u : Int) < (n : Int) := by omega
      have HX : Hid (u = (S.getD k 0).toNat ∧ S.getD k 0 ∈ S) := ⟨by omega, by rw [getD_lt _ _ _ hlt]; exact List.getElem_mem hlt⟩
      have HT : Hid (S.take (k + 1) = S.take k ++ [S.getD k 0]) := by show _ = _; rw [getD_lt _ _ _ hlt, List.take_succ_eq_append_getElem hlt]
      obtain ⟨r, hr⟩ : ∃ r, alB a (m.getD u []) p = r := ⟨_, rfl⟩
      have HR := Lib.hid hr
      clear hu
      have HAU : Hid (∀ W, Below w.heap.size w W → Calls Try.prog 72 #[.slice am a.length cm, M u, .int .i64 (p : Int)] W (Quiet (.bool r) W)) := fun W h => by rw [← hr]; exact HAL.out W u h hun
      clear hr
      generalize M u = Mu at *
      go_upto_region 7 with (fail)
      go_quiet ((go_at_call 72; refine (HAU.out _ (by repeat (first | exact HBW.out | refine belD ?_ _))).mono ?_; rintro e w' ⟨rfl, n', rfl⟩; exact ⟨rfl, _, by rw [World.drewN_drewN]⟩))
      go_wp2
      · have hro : r = ob := by
          have t2 : (r == ob) = true := by assumption
          simpa using t2
        have HE : Hid (res = ob) := HFO.out _ HX.out.2 (by rw [← HX.out.1, HR.out, hro])
        clear hro
        go_ret
        exact ⟨ret_bool HE.out.symm, by repeat (first | exact HBW.out | refine belD ?_ _)⟩
      · have hro : ¬ r = ob := by
          have t2 : (r == ob) = false := by assumption
          intro e
          rw [e] at t2
          simp at t2
        have HD2 : Hid (∀ x ∈ S.take (k + 1), alB a (m.getD x.toNat []) p = !ob) := by
          show ∀ x ∈ S.take (k + 1), alB a (m.getD x.toNat []) p = !ob
          rw [HT.out]
          intro x hx
          rcases List.mem_append.1 hx with h | h
          · exact HD.out x h
          · rw [List.mem_singleton.1 h, ← HX.out.1, HR.out]
            cases r <;> cases ob <;> first | rfl | exact absurd rfl hro
        clear hro
        go_roundg (S.length - (k + 1))
        case measure => have := HGK.out; omega
        case rel => exact ⟨k + 1, rfl, by go_num, by omega, HD2, by repeat (first | exact HW.out | refine belD ?_ _)⟩
    · have hd : ¬ (k : Int) < (S.length : Int) := by omega
      have HE : Hid (res = !ob) := HEN.out (fun x hx => HD.out x (by rw [List.take_of_length_le (by omega)]; exact hx))
      go_wp2
      go_ret
      exact ⟨ret_bool HE.out.symm, HBW.out⟩

end Go.Proofs.Ytijkjhcigdfdgaa
