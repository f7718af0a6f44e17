/- What run of the chapter returns. -/
import Derived.Test.YtdkpdpcecjcmcaaRdH3
namespace Go.Proofs.Ytdkpdpcecjcmcaa
open Go.RowKit

theorem take_at {l : List Int} {x : Nat} (h : x < l.length) : l.take (x + 1) = l.take x ++ [l.getD x 0] := by rw [List.take_succ_eq_append_getElem h, getD_lt _ _ _ h]
/-- Rows of rows, seen from each later world. -/
theorem IsRows.at2 {w : World} {p : Option Addr} {n q : Nat} {ll : List (List Int)} (h : IsRows w (.slice p n q) ll) : n = ll.length ∧ n ≤ 140737488351232 ∧ ∃ b o, (0 < n → p = some ⟨b, o, none⟩) ∧ ∀ W, Below w.heap.size w W → ∀ s, s < n →
    ∃ bx ox cx ao, W.cell? ⟨b, o + s, none⟩ = some (.slice ao (ll.getD s []).length cx) ∧ (0 < (ll.getD s []).length → ao = some ⟨bx, ox, none⟩) ∧ (ll.getD s []).length ≤ 140737488351232 ∧ ∀ x, x < (ll.getD s []).length → W.cell? ⟨bx, ox + x, none⟩ = some (.int .i64 ((ll.getD s []).getD x 0)) := by
  obtain ⟨a, c, b, o, V, e, h1, h2, h3⟩ := h.data
  obtain ⟨rfl, rfl, rfl⟩ : p = a ∧ n = ll.length ∧ q = c := by simpa using e
  refine ⟨rfl, h2, b, o, h1, fun W hW s hs => ?_⟩
  obtain ⟨h4, h5⟩ := h3 s hs
  obtain ⟨a', c', e'⟩ := h5.shp
  rw [e'] at h4 h5
  obtain ⟨b', o', h6, h7, h8⟩ := h5.dat
  exact ⟨b', o', c', a', cellB hW h4, h6, h7, fun x hx => cellB hW (h8 x hx)⟩

def endS (a : Au) (q : Int) (ls : List Int) : Int := ls.foldl (nxL a) q
theorem endS_snoc (a : Au) (q : Int) (ls : List Int) (x : Int) : endS a q (ls ++ [x]) = nxL a (endS a q ls) x := by simp [endS]
theorem runL_snoc (a : Au) : ∀ (ls : List Int) (q x : Int), runL a q (ls ++ [x]) = runL a q ls ++ [prL a (endS a q ls) x]
  | [], _, _ => rfl
  | y :: ls, q, x => by
    show prL a q y :: runL a (nxL a q y) (ls ++ [x]) = prL a q y :: runL a (nxL a q y) ls ++ _
    rw [runL_snoc a ls]; rfl
theorem runL_len (a : Au) : ∀ (ls : List Int) (q : Int), (runL a q ls).length = ls.length
  | [], _ => rfl
  | _ :: ls, _ => by
    show (runL a _ ls).length + 1 = ls.length + 1
    rw [runL_len a ls]
theorem endS_bd {a : Au} {k : Nat} (hA : AuV a k) : ∀ {ls : List Int} {q : Int}, (∀ x ∈ ls, 0 ≤ x ∧ x < (k : Int)) → 0 ≤ q ∧ q < a.next.length → 0 ≤ endS a q ls ∧ endS a q ls < a.next.length
  | [], _, _, hq => hq
  | x :: ls, q, hl, hq => by
    have hx := hl x List.mem_cons_self
    exact endS_bd hA (ls := ls) (q := nxL a q x) (fun y hy => hl y (List.mem_cons_of_mem _ hy)) (hA.nx q.toNat x.toNat (by omega) (by omega))
theorem runL_64 {a : Au} {k : Nat} (hA : AuV a k) : ∀ {ls : List Int} {q : Int}, (∀ x ∈ ls, 0 ≤ x ∧ x < (k : Int)) → 0 ≤ q ∧ q < a.next.length → ∀ y ∈ runL a q ls, I64 y
  | [], _, _, _, _, h => (nomatch h)
  | x :: ls, q, hl, hq, y, h => by
    have hx := hl x List.mem_cons_self
    have h1 := hA.nx q.toNat x.toNat (by omega) (by omega)
    have h2 := hA.pr q.toNat x.toNat (by omega) (by omega)
    rcases List.mem_cons.1 h with e | e
    · subst e
      have h3 : prL a q x = (a.prio.getD q.toNat []).getD x.toNat 0 := rfl
      unfold I64; omega
    · exact runL_64 hA (ls := ls) (q := nxL a q x) (fun y hy => hl y (List.mem_cons_of_mem _ hy)) h1 y e

set_option maxRecDepth 100000 in
set_option maxHeartbeats 4000000 in
theorem run_c (w : World) (v vl : Value) (a : Au) (K : Nat) (ls : List Int) (ha : IsAuto w v a) (hl : IsInts w vl ls) (hA : AuV a K) (hls : ∀ x ∈ ls, 0 ≤ x ∧ x < (K : Int)) (hn : ls.length ≤ 3000) :
    Calls Try.prog 24 #[v, vl] w (NewN (runL a a.start ls) w) := by
  obtain ⟨p2, q2, p3, q3, rfl⟩ := ha.shape
  obtain ⟨u2, u3, eu, -, hu2, hu3⟩ := id ha
  obtain ⟨rfl, rfl⟩ : Value.slice p2 a.next.length q2 = u2 ∧ Value.slice p3 a.prio.length q3 = u3 := by simpa using eu
  obtain ⟨-, hn2, b2, o2, hd2, HN⟩ := hu2.at2
  obtain ⟨-, hn3, b3, o3, hd3, HP⟩ := hu3.at2
  obtain ⟨pl, cl, rfl⟩ := hl.shp
  obtain ⟨bl, ol, hdl, hnl, HL⟩ := hl.dat
  have HN := Lib.hid HN
  have HP := Lib.hid HP
  have HL := Lib.hid (fun W (h : Below w.heap.size w W) j hj => cellB h (HL j hj))
  have HAV := Lib.hid hA
  have HLS := Lib.hid hls
  have h0 := hA.n1
  have hpn := hA.pn
  rw [hpn] at hd3 hn3 ⊢
  rw [hpn] at HP
  obtain rfl := hd2 (by omega)
  obtain rfl := hd3 (by omega)
  obtain ⟨st, hst⟩ : ∃ s : Nat, a.start = (s : Int) := ⟨a.start.toNat, by have := hA.st; omega⟩
  have hst2 : st < a.next.length := by have := hA.st; omega
  have HST := Lib.hid hst
  rw [hst]
  clear eu ha hl hu2 hu3 hd2 hd3 hA hls hpn hst
  obtain ⟨n, hnn⟩ : ∃ n, a.next.length = n := ⟨_, rfl⟩
  rw [hnn] at hn2 hn3 hst2 h0 HN HP ⊢
  have HNN := Lib.hid hnn
  clear hnn
  generalize a.letters = La at *
  go_enter Try.func24, Try.ntmps24
  go_upto_region 1 with (fail)
  have hx : (w.alloc (.cells #[.int .i64 La, .int .i64 (st : Int), .slice (some ⟨b2, o2, none⟩) n q2, .slice (some ⟨b3, o3, none⟩) n q3] 24)).heap[w.heap.size]? = some (.cells #[.int .i64 La, .int .i64 (st : Int), .slice (some ⟨b2, o2, none⟩) n q2, .slice (some ⟨b3, o3, none⟩) n q3] 24 (0, 0)) := heap_alloc_new _ _
  have hB1 : Below w.heap.size w (w.alloc (.cells #[.int .i64 La, .int .i64 (st : Int), .slice (some ⟨b2, o2, none⟩) n q2, .slice (some ⟨b3, o3, none⟩) n q3] 24)) := bel_box _
  generalize w.alloc (.cells #[.int .i64 La, .int .i64 (st : Int), .slice (some ⟨b2, o2, none⟩) n q2, .slice (some ⟨b3, o3, none⟩) n q3] 24) = w1 at *
  have HX := Lib.hid hx
  have HB1 := Lib.hid hB1
  clear hx hB1
  go_upto_region 2 with (fail)
  have hO := OI_empty0 w1
  have hb0 : Below w1.heap.size w1 (w1.alloc (.cells #[] 3)) := bel_box _
  have hx := (hb0.block _ (Array.getElem?_eq_some_iff.1 HX.out).1).trans HX.out
  generalize w1.alloc (.cells #[] 3) = w2 at *
  have k1 := cell_of_row _ _ 1 _ _ _ hx
  clear hx
  go_wp2_with fail
  clear k1
  go_loopg [5, 6, 7] ls.length (fun gh v q i wr => ∃ (k s : Nat), gh = ls.length - k ∧ q = .int .i64 (s : Int) ∧ s < n ∧ i = .int .i64 k ∧ k ≤ ls.length ∧ Hid (endS a a.start (ls.take k) = (s : Int)) ∧ Hid (OI wr w1.heap.size v (runL a a.start (ls.take k))) ∧ Below w1.heap.size w1 wr)
  case atStart => exact ⟨0, st, rfl, rfl, hst2, rfl, by omega, HST.out, hO, hb0⟩
  case round =>
    obtain ⟨k, s, hgk, rfl, hs, rfl, hk, HE, HO, hB⟩ := hrel
    have HGK := Lib.hid hgk
    have HB := Lib.hid hB
    have hBs := hB.size
    have HBW := Lib.hid (HB1.out.trans (hB.mono HB1.out.size))
    clear hgk hO hb0 hB
    have hxr := (HB.out.block _ (Array.getElem?_eq_some_iff.1 HX.out).1).trans HX.out
    have k2 := cell_of_row _ _ 2 _ _ _ hxr
    have k3 := cell_of_row _ _ 3 _ _ _ hxr
    clear hxr
    by_cases hlt : k < ls.length
    · have hk1 : (k : Int) < (ls.length : Int) := by omega
      obtain rfl := hdl (by omega)
      have e1 := HL.out _ HBW.out k hlt
      have hx := HLS.out _ (getD_mem hlt)
      obtain ⟨x, hxx⟩ : ∃ x : Nat, ls.getD k 0 = (x : Int) := ⟨(ls.getD k 0).toNat, by omega⟩
      have hA := HAV.out
      have hsn : s < a.next.length := by rw [HNN.out]; exact hs
      have hl2 := hA.ln s hsn
      obtain ⟨bx, ox, cx, ax, c1, c2, c3, c4⟩ := HN.out _ HBW.out s hs
      obtain ⟨by', oy, cy, ay, d1, d2, d3, d4⟩ := HP.out _ HBW.out s hs
      have hxk : x < K := by omega
      rw [hl2.1] at c1 c2 c3 c4
      rw [hl2.2] at d1 d2 d3 d4
      obtain rfl := c2 (by omega)
      obtain rfl := d2 (by omega)
      have c5 := c4 x hxk
      have d5 := d4 x hxk
      have hny := hA.nx s x hsn hxk
      obtain ⟨y, hy⟩ : ∃ y : Nat, (a.next.getD s []).getD x 0 = (y : Int) := ⟨((a.next.getD s []).getD x 0).toNat, by omega⟩
      rw [hy] at c5
      rw [hxx] at e1
      obtain ⟨pr, hpr⟩ : ∃ pr, (a.prio.getD s []).getD x 0 = pr := ⟨_, rfl⟩
      rw [hpr] at d5
      have hyn : y < n := by have := HNN.out; omega
      have HE2 : Hid (endS a a.start (ls.take (k + 1)) = (y : Int)) := by
        show _ = _
        rw [take_at hlt, endS_snoc, HE.out, hxx]
        show (a.next.getD ((s : Int)).toNat []).getD ((x : Int)).toNat 0 = _
        rw [Int.toNat_natCast, Int.toNat_natCast, hy]
      have HR2 : Hid (runL a a.start (ls.take (k + 1)) = runL a a.start (ls.take k) ++ [pr]) := by
        show _ = _
        rw [take_at hlt, runL_snoc, HE.out, hxx, ← hpr]
        show _ ++ [(a.prio.getD ((s : Int)).toNat []).getD ((x : Int)).toNat 0] = _
        rw [Int.toNat_natCast, Int.toNat_natCast]
      have hRL : (runL a a.start (ls.take k)).length = k := by rw [runL_len, List.length_take]; omega
      generalize runL a a.start (ls.take k) = X at *
      have f1 : decide ((s : Int) < 0) = false := decide_eq_false (by omega)
      have f2 : decide ((n : Int) ≤ (s : Int)) = false := decide_eq_false (by omega)
      have f3 : decide (n ≤ s) = false := decide_eq_false (by omega)
      have f4 : decide ((x : Int) < 0) = false := decide_eq_false (by omega)
      have f5 : decide ((K : Int) ≤ (x : Int)) = false := decide_eq_false (by omega)
      have f6 : decide (K ≤ x) = false := decide_eq_false (by omega)
      have hXl : X.length ≤ 3000 := by omega
      have HL2 := Lib.hid hl2.1
      have HY := Lib.hid hy
      clear hl2 c4 d4 hny hy hpr hxx hx hA hsn hRL c2 d2 HE
      go_wp2_with (at_builtin; refine app_int rfl _ _ pr rfl w1.heap.size _ _ HO.out rfl _ (by simp) rfl (by omega) hBs ?_; intro v' w' hown' hg hmv; obtain ⟨ao', cap', hv'⟩ := hown'.slice; rw [List.length_append, List.length_singleton] at hv'; subst hv'; have HO2 := Lib.hid hown'; have HB2 := Lib.hid (HB.out.grown hg hBs (fun g h => HO.out.ge g h)); have hB' := HB1.out.trans (HB2.out.mono HB1.out.size); have hx' := (HB2.out.block _ (Array.getElem?_eq_some_iff.1 HX.out).1).trans HX.out; have k2' := cell_of_row _ _ 2 _ _ _ hx'; obtain ⟨bz, oz, cz, az, g1, g2, g3, g4⟩ := HN.out _ hB' s hs; rw [HL2.out] at g1 g2 g3 g4; obtain rfl := g2 (by omega); have g5 := g4 x hxk; rw [HY.out] at g5; clear hown' hg hmv hx' hB' g4 g2)
      go_roundg (ls.length - (k + 1))
      case measure => have := HGK.out; omega
      case rel => exact ⟨k + 1, y, rfl, rfl, hyn, by go_num, by omega, HE2, (by show OI _ _ _ _; rw [HR2.out]; exact HO2.out), HB2.out⟩
    · obtain rfl : k = ls.length := by omega
      rw [List.take_length] at HO HE
      go_wp2_with fail
      go_ret
      refine ⟨_, rfl, ?_, HBW.out⟩
      rw [← HST.out]
      exact HO.out.is (by rw [runL_len]; simp only [maxN]; omega) fun z hz => runL_64 HAV.out HLS.out HAV.out.st z hz
end Go.Proofs.Ytdkpdpcecjcmcaa
