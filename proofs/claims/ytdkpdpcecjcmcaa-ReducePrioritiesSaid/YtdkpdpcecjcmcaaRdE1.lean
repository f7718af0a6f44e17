/- What even of the chapter returns. -/
import Derived.Test.YtdkpdpcecjcmcaaRdH4
import Derived.Test.YtdkpdpcecjcmcaaRdS1
namespace Go.Proofs.Ytdkpdpcecjcmcaa
open Go.RowKit

/-- The least of the first T values, and at most 1000000. -/
def mnP (p : Nat → Int) : Nat → Int
  | 0 => 1000000
  | i + 1 => min (mnP p i) (p i)
/-- The priority that another automaton has on the way of a. -/
def prW (a b : Au) (lp : List Int) (q : Int) (t : Nat) : Int := prL b (posQ a lp q t) (lp.getD (t % lp.length) 0)
def evB (a b : Au) (lp : List Int) (q : Int) (T : Nat) : Bool := (mnP (prW a a lp q) T % 2 == mnP (prW a b lp q) T % 2)
theorem mnP_bd {p : Nat → Int} (h : ∀ t, 0 ≤ p t) : ∀ T, 0 ≤ mnP p T ∧ mnP p T ≤ 1000000
  | 0 => by simp [mnP]
  | T + 1 => by
    have := mnP_bd h T
    have := h T
    show 0 ≤ min (mnP p T) (p T) ∧ min (mnP p T) (p T) ≤ 1000000
    omega

set_option maxRecDepth 100000 in
set_option maxHeartbeats 8000000 in
theorem even_c (w : World) (va vb vl : Value) (a b : Au) (l : Ls) (K s T0 : Nat) (ha : IsAuto w va a) (hb : IsAuto w vb b) (hl : IsLs w vl l) (hA : AuV a K) (hB : AuV b K) (hnn : b.next.length = a.next.length)
    (hlp : ∀ x ∈ l.loop, 0 ≤ x ∧ x < (K : Int)) (h3 : 0 < l.loop.length) (hL : l.loop.length ≤ 40) (hT0 : T0 ≤ 3000) (hs : s < a.next.length) :
    Calls Try.prog 29 #[va, vb, vl, .int .i64 (s : Int), .int .i64 (T0 : Int)] w (Calm (.bool (evB a b l.loop (s : Int) (T0 * l.loop.length))) w) := by
  obtain ⟨p2, q2, p3, q3, rfl⟩ := ha.shape
  obtain ⟨r2, s2, r3, s3, rfl⟩ := hb.shape
  obtain ⟨t0, c0, t1, c1, rfl⟩ := hl.shp
  have hl1 := (IsLs.parts hl).2
  obtain ⟨u2, u3, eu, -, hu2, hu3⟩ := ha
  obtain ⟨rfl, rfl⟩ : Value.slice p2 a.next.length q2 = u2 ∧ Value.slice p3 a.prio.length q3 = u3 := by simpa using eu
  obtain ⟨v2, v3, ev, -, -, hv3⟩ := hb
  obtain ⟨-, rfl⟩ : Value.slice r2 b.next.length s2 = v2 ∧ Value.slice r3 b.prio.length s3 = v3 := by simpa using ev
  obtain ⟨-, hn2, b2, o2, hd2, HN0⟩ := hu2.at2
  obtain ⟨-, hn3, b3, o3, hd3, HP0⟩ := hu3.at2
  obtain ⟨-, hm3, d3, e3, he3, HQ0⟩ := hv3.at2
  obtain ⟨bl, ol, hdl, hnl, HL0⟩ := hl1.dat
  have HN := Lib.hid HN0
  have h0 := hA.n1
  have hpn := hA.pn
  have hqn := hB.pn
  rw [hpn] at hd3 hn3 HP0 ⊢
  rw [hqn, hnn] at he3 hm3 HQ0 ⊢
  have HP := Lib.hid HP0
  have HQ := Lib.hid HQ0
  obtain rfl := hd2 (by omega)
  obtain rfl := hd3 (by omega)
  obtain rfl := he3 (by omega)
  obtain rfl := hdl h3
  have HL := Lib.hid (fun W (h : Below w.heap.size w W) j hj => cellB h (HL0 j hj))
  have HLP := Lib.hid hlp
  have HLA : Hid (∀ q, q < a.next.length → (a.next.getD q []).length = K ∧ (a.prio.getD q []).length = K) := fun q hq => hA.ln q hq
  have HLB : Hid (∀ q, q < a.next.length → (b.prio.getD q []).length = K) := fun q hq => (hB.ln q (by rw [hnn]; exact hq)).2
  have HPO : Hid (∀ t, 0 ≤ posQ a l.loop (s : Int) t ∧ posQ a l.loop (s : Int) t < a.next.length) := posQ_bd hA hlp h3 (by omega)
  have hlet : ∀ t, 0 ≤ l.loop.getD (t % l.loop.length) 0 ∧ l.loop.getD (t % l.loop.length) 0 < (K : Int) := fun t => hlp _ (getD_mem (Nat.mod_lt _ h3))
  have HLT := Lib.hid hlet
  have HA0 : Hid (∀ t, 0 ≤ prW a a l.loop (s : Int) t) := fun t => by
    have h1 := HPO.out t
    have h2 := hlet t
    exact (hA.pr _ (l.loop.getD (t % l.loop.length) 0).toNat (show (posQ a l.loop (s : Int) t).toNat < _ by omega) (by omega)).1
  have HB0 : Hid (∀ t, 0 ≤ prW a b l.loop (s : Int) t) := fun t => by
    have h1 := HPO.out t
    have h2 := hlet t
    exact (hB.pr _ (l.loop.getD (t % l.loop.length) 0).toNat (show (posQ a l.loop (s : Int) t).toNat < _ by omega) (by omega)).1
  have hK := hA.k1
  clear eu ev hl hl1 hu2 hu3 hv3 hd2 hd3 he3 hdl hpn hqn HN0 HP0 HQ0 HL0 hlp hlet hA hB hnn
  obtain ⟨n, hnn⟩ : ∃ n, a.next.length = n := ⟨_, rfl⟩
  rw [hnn] at hn2 hn3 hm3 hs h0 HN HP HQ HLA HLB HPO ⊢
  clear hnn
  obtain ⟨m, hmm⟩ : ∃ m, l.loop.length = m := ⟨_, rfl⟩
  have HMM := Lib.hid hmm
  rw [hmm] at h3 hL hnl HL HLT ⊢
  clear hmm
  obtain ⟨T, hT⟩ : ∃ T, T0 * m = T := ⟨_, rfl⟩
  have hTb : T ≤ 120000 := by rw [← hT]; exact Nat.mul_le_mul hT0 hL
  have hw0 : IntKind.i64.wrap ((T0 : Int) * (m : Int)) = (T : Int) := by
    rw [← Int.natCast_mul, hT]
    exact IntWalk.i64_in _ ⟨by omega, by omega⟩
  rw [hT]
  have HEV : Hid (evB a b l.loop (s : Int) T = (mnP (prW a a l.loop (s : Int)) T % 2 == mnP (prW a b l.loop (s : Int)) T % 2)) := rfl
  have HMA := fun i => Lib.hid (show mnP (prW a a l.loop (s : Int)) (i + 1) = min (mnP (prW a a l.loop (s : Int)) i) (prW a a l.loop (s : Int) i) from rfl)
  have HMB := fun i => Lib.hid (show mnP (prW a b l.loop (s : Int)) (i + 1) = min (mnP (prW a b l.loop (s : Int)) i) (prW a b l.loop (s : Int) i) from rfl)
  have HDA : Hid (∀ T, 0 ≤ mnP (prW a a l.loop (s : Int)) T ∧ mnP (prW a a l.loop (s : Int)) T ≤ 1000000) := mnP_bd HA0.out
  have HDB : Hid (∀ T, 0 ≤ mnP (prW a b l.loop (s : Int)) T ∧ mnP (prW a b l.loop (s : Int)) T ≤ 1000000) := mnP_bd HB0.out
  have HPS : Hid (∀ t, posQ a l.loop (s : Int) (t + 1) = nxL a (posQ a l.loop (s : Int) t) (l.loop.getD (t % l.loop.length) 0)) := fun t => rfl
  have HPAq : Hid (∀ t, prW a a l.loop (s : Int) t = prL a (posQ a l.loop (s : Int) t) (l.loop.getD (t % l.loop.length) 0)) := fun t => rfl
  have HPBq : Hid (∀ t, prW a b l.loop (s : Int) t = prL b (posQ a l.loop (s : Int) t) (l.loop.getD (t % l.loop.length) 0)) := fun t => rfl
  obtain ⟨mA, hmA⟩ : ∃ f, f = mnP (prW a a l.loop (s : Int)) := ⟨_, rfl⟩
  obtain ⟨mB, hmB⟩ : ∃ f, f = mnP (prW a b l.loop (s : Int)) := ⟨_, rfl⟩
  have hA00 : mA 0 = 1000000 := by rw [hmA]; rfl
  have hB00 : mB 0 = 1000000 := by rw [hmB]; rfl
  rw [← hmA] at HEV HMA HDA
  rw [← hmB] at HEV HMB HDB
  have HZA := Lib.hid hA00
  have HZB := Lib.hid hB00
  generalize a.letters = La at *
  generalize a.start = Sa at *
  generalize b.letters = Lb at *
  generalize b.start = Sb at *
  generalize l.stem.length = ns at *
  clear hmA hmB hT hA00 hB00
  go_enter Try.func29, Try.ntmps29
  go_upto_region 1 with (fail)
  obtain ⟨hx, hy, hz, hB1⟩ : (((w.alloc (.cells #[.int .i64 La, .int .i64 Sa, .slice (some ⟨b2, o2, none⟩) n q2, .slice (some ⟨b3, o3, none⟩) n q3] 24)).alloc (.cells #[.int .i64 Lb, .int .i64 Sb, .slice r2 n s2, .slice (some ⟨d3, e3, none⟩) n s3] 24)).alloc (.cells #[.slice t0 ns c0, .slice (some ⟨bl, ol, none⟩) m c1] 36)).heap[w.heap.size]? = some (.cells #[.int .i64 La, .int .i64 Sa, .slice (some ⟨b2, o2, none⟩) n q2, .slice (some ⟨b3, o3, none⟩) n q3] 24 (0, 0)) ∧ (((w.alloc (.cells #[.int .i64 La, .int .i64 Sa, .slice (some ⟨b2, o2, none⟩) n q2, .slice (some ⟨b3, o3, none⟩) n q3] 24)).alloc (.cells #[.int .i64 Lb, .int .i64 Sb, .slice r2 n s2, .slice (some ⟨d3, e3, none⟩) n s3] 24)).alloc (.cells #[.slice t0 ns c0, .slice (some ⟨bl, ol, none⟩) m c1] 36)).heap[w.heap.size + 1]? = some (.cells #[.int .i64 Lb, .int .i64 Sb, .slice r2 n s2, .slice (some ⟨d3, e3, none⟩) n s3] 24 (0, 0)) ∧ (((w.alloc (.cells #[.int .i64 La, .int .i64 Sa, .slice (some ⟨b2, o2, none⟩) n q2, .slice (some ⟨b3, o3, none⟩) n q3] 24)).alloc (.cells #[.int .i64 Lb, .int .i64 Sb, .slice r2 n s2, .slice (some ⟨d3, e3, none⟩) n s3] 24)).alloc (.cells #[.slice t0 ns c0, .slice (some ⟨bl, ol, none⟩) m c1] 36)).heap[w.heap.size + 1 + 1]? = some (.cells #[.slice t0 ns c0, .slice (some ⟨bl, ol, none⟩) m c1] 36 (0, 0)) ∧ Below w.heap.size w (((w.alloc (.cells #[.int .i64 La, .int .i64 Sa, .slice (some ⟨b2, o2, none⟩) n q2, .slice (some ⟨b3, o3, none⟩) n q3] 24)).alloc (.cells #[.int .i64 Lb, .int .i64 Sb, .slice r2 n s2, .slice (some ⟨d3, e3, none⟩) n s3] 24)).alloc (.cells #[.slice t0 ns c0, .slice (some ⟨bl, ol, none⟩) m c1] 36)) := ⟨(by (repeat (rw [alloc_get]; first | rw [if_pos (by first | (simp; done) | (simp; omega))] | rw [if_neg (by first | (simp; done) | (simp; omega))])); (try rfl)), (by (repeat (rw [alloc_get]; first | rw [if_pos (by first | (simp; done) | (simp; omega))] | rw [if_neg (by first | (simp; done) | (simp; omega))])); (try rfl)), (by (repeat (rw [alloc_get]; first | rw [if_pos (by first | (simp; done) | (simp; omega))] | rw [if_neg (by first | (simp; done) | (simp; omega))])); (try rfl)), (by repeat (first | exact Below.refl _ _ | assumption | (refine belA ?_ _) | (refine belD ?_ _)))⟩
  generalize (((w.alloc (.cells #[.int .i64 La, .int .i64 Sa, .slice (some ⟨b2, o2, none⟩) n q2, .slice (some ⟨b3, o3, none⟩) n q3] 24)).alloc (.cells #[.int .i64 Lb, .int .i64 Sb, .slice r2 n s2, .slice (some ⟨d3, e3, none⟩) n s3] 24)).alloc (.cells #[.slice t0 ns c0, .slice (some ⟨bl, ol, none⟩) m c1] 36)) = w1 at *
  have HX := Lib.hid hx
  have HY := Lib.hid hy
  have HZ := Lib.hid hz
  have HB1 := Lib.hid hB1
  clear hx hy hz hB1
  have hsI : (s : Int) < (n : Int) := by omega
  have hm0 : ¬ (m : Int) = 0 := by omega
  go_upto_region 4 with (fail)
  go_loopg [3, 11, 12, 13] T (fun gh u x y i wr => ∃ (k v : Nat), gh = T - k ∧ u = .int .i64 (v : Int) ∧ v < n ∧ Hid (posQ a l.loop (s : Int) k = (v : Int)) ∧ x = .int .i64 (mA k) ∧ y = .int .i64 (mB k) ∧ i = .int .i64 (k : Int) ∧ k ≤ T ∧ Below w1.heap.size w1 wr)
  case atStart => exact ⟨0, s, rfl, rfl, hs, rfl, by rw [HZA.out], by rw [HZB.out], rfl, by omega, Below.refl _ _⟩
  case round =>
    obtain ⟨k, v, hgk, rfl, hv, HV, rfl, rfl, rfl, hk, hB⟩ := hrel
    have HGK := Lib.hid hgk
    have HB := Lib.hid hB
    have HBW := Lib.hid (HB1.out.trans (hB.mono HB1.out.size))
    clear hgk hB
    have hxr := (HB.out.block _ (Array.getElem?_eq_some_iff.1 HX.out).1).trans HX.out
    have hyr := (HB.out.block _ (Array.getElem?_eq_some_iff.1 HY.out).1).trans HY.out
    have hzr := (HB.out.block _ (Array.getElem?_eq_some_iff.1 HZ.out).1).trans HZ.out
    have z1 := cell_of_row _ _ 1 _ _ _ hzr
    clear hsI
    by_cases hlt : k < T
    · as_aux_lemma =>
      have hk1 : (k : Int) < (T : Int) := by omega
      obtain ⟨i, hi⟩ : ∃ i, k % m = i := ⟨_, rfl⟩
      have him : i < m := by rw [← hi]; exact Nat.mod_lt _ h3
      have himI : (i : Int) < (m : Int) := by omega
      have hr2 : (k : Int) % (m : Int) = (i : Int) := by rw [← hi]; exact (Int.natCast_emod k m).symm
      have hr1 : Int.tmod (k : Int) (m : Int) = (i : Int) := by rw [Int.tmod_eq_emod_of_nonneg (Int.natCast_nonneg _)]; exact hr2
      have hwi : IntKind.i64.wrap (i : Int) = (i : Int) := IntWalk.i64_in _ ⟨by omega, by omega⟩
      have e1 := HL.out _ HBW.out i him
      have hx := HLT.out k
      rw [hi] at hx
      obtain ⟨x, hxx⟩ : ∃ x : Nat, l.loop.getD i 0 = (x : Int) := ⟨(l.loop.getD i 0).toNat, by omega⟩
      rw [hxx] at e1 hx
      have hxK : x < K := by omega
      have HXX : Hid (l.loop.getD (k % l.loop.length) 0 = (x : Int)) := by show _ = _; rw [HMM.out, hi]; exact hxx
      clear hi hxx hx
      obtain ⟨MA, hMA⟩ : ∃ M, mA k = M := ⟨_, rfl⟩
      obtain ⟨MB, hMB⟩ : ∃ M, mB k = M := ⟨_, rfl⟩
      have HSA := Lib.hid (HMA k).out
      have HSB := Lib.hid (HMB k).out
      have hda := HDA.out k
      have hdb := HDB.out k
      rw [hMA] at HSA hda ⊢
      rw [hMB] at HSB hdb ⊢
      clear hMA hMB
      go_wp2
      refine wp_region_quiet_lit (by kernel_rfl) (by kernel_rfl) ?_
      ((repeat (go_big_quiet_step (fail))); refine wpQuiet_nil ?_; rintro _ ⟨nq, rfl⟩)
      have hbA : Below wr.heap.size wr (wr.drewN nq) := below_draws _ _ _
      have HBA := Lib.hid (HB.out.trans (hbA.mono HB.out.size))
      have HBWA := Lib.hid (HBW.out.trans (hbA.mono HBW.out.size))
      clear HB HBW hbA hxr hyr hzr z1 e1 hr1 hr2 hwi
      generalize wr.drewN nq = wA at *
      have hxr := (HBA.out.block _ (Array.getElem?_eq_some_iff.1 HX.out).1).trans HX.out
      have hyr := (HBA.out.block _ (Array.getElem?_eq_some_iff.1 HY.out).1).trans HY.out
      have x2 := cell_of_row _ _ 2 _ _ _ hxr
      have x3 := cell_of_row _ _ 3 _ _ _ hxr
      have y3 := cell_of_row _ _ 3 _ _ _ hyr
      obtain ⟨bx, ox, cx, ax, n1, n2, n3, n4⟩ := HN.out _ HBWA.out v hv
      obtain ⟨by', oy, cy, ay, j1, j2, j3, j4⟩ := HP.out _ HBWA.out v hv
      obtain ⟨bz, oz, cz, az, g1, g2, g3, g4⟩ := HQ.out _ HBWA.out v hv
      rw [(HLA.out v hv).1] at n1 n2 n3 n4
      rw [(HLA.out v hv).2] at j1 j2 j3 j4
      rw [HLB.out v hv] at g1 g2 g3 g4
      obtain rfl := n2 (by omega)
      obtain rfl := j2 (by omega)
      obtain rfl := g2 (by omega)
      have n5 := n4 x hxK
      have j5 := j4 x hxK
      have g5 := g4 x hxK
      have hP := HPAq.out k
      have hQ := HPBq.out k
      have hS := HPS.out k
      have hnx := HPO.out (k + 1)
      rw [HV.out, HXX.out] at hP hQ hS
      have hP : prW a a l.loop (s : Int) k = (a.prio.getD v []).getD x 0 := hP
      have hQ : prW a b l.loop (s : Int) k = (b.prio.getD v []).getD x 0 := hQ
      have hS : posQ a l.loop (s : Int) (k + 1) = (a.next.getD v []).getD x 0 := hS
      obtain ⟨y, hy⟩ : ∃ y : Nat, posQ a l.loop (s : Int) (k + 1) = (y : Int) := ⟨(posQ a l.loop (s : Int) (k + 1)).toNat, by omega⟩
      rw [← hS, hy] at n5
      have HVn := Lib.hid hy
      have hyn : y < n := by omega
      have hvI : (v : Int) < (n : Int) := by omega
      have hxI : (x : Int) < (K : Int) := by omega
      rw [← hP] at j5
      rw [← hQ] at g5
      generalize prW a a l.loop (s : Int) k = P at *
      generalize prW a b l.loop (s : Int) k = Q at *
      clear hP hQ hS hnx hy n4 j4 g4 n2 j2 g2 hxr hyr
      go_wp2
      all_goals
        go_roundg (T - (k + 1))
        case measure => have := HGK.out; omega
        case rel => exact ⟨k + 1, y, rfl, rfl, hyn, HVn, by rw [HSA.out]; congr 1; first | omega | (simp; omega), by rw [HSB.out]; congr 1; first | omega | (simp; omega), by go_num, by omega, HBA.out⟩
    · as_aux_lemma =>
      obtain rfl : k = T := by omega
      have hda := HDA.out k
      have hdb := HDB.out k
      obtain ⟨MA, hMA⟩ : ∃ M, mA k = M := ⟨_, rfl⟩
      obtain ⟨MB, hMB⟩ : ∃ M, mB k = M := ⟨_, rfl⟩
      rw [hMA, hMB] at HEV
      rw [hMA] at hda ⊢
      rw [hMB] at hdb ⊢
      have r1 : Int.tmod MA 2 = MA % 2 := Int.tmod_eq_emod_of_nonneg hda.1
      have r2 : Int.tmod MB 2 = MB % 2 := Int.tmod_eq_emod_of_nonneg hdb.1
      clear hMA hMB
      go_wp2
      go_ret
      exact ⟨by rw [HEV.out]; rfl, HBW.out⟩

end Go.Proofs.Ytdkpdpcecjcmcaa
