/- What reached computes: the states that are reached from the start of an automaton. -/
import Derived.Test.YtjadeffdcbchnaaDoorAr41
import Derived.Test.YtjadeffdcbchnaaDoorAr33
import Derived.Deep.QuietTactic
import Derived.BigQuiet
namespace Go.Proofs.YtjadeffdcbchnaaDoor
open Go.RowKit

/-- The state behind a letter. -/
def nxQ (a : Au) (q : Int) (x : Nat) : Int := (a.next.getD q.toNat []).getD x 0
/-- The states found, the first k of them gone through, of the next one j letters. -/
structure RI (a : Au) (k : Nat) (L : List Int) (j : Nat) : Prop where
  nd : L.Nodup
  rg : ∀ q ∈ L, 0 ≤ q ∧ q < a.next.length
  st : a.start ∈ L
  cl : ∀ i, i < k → i < L.length → ∀ x : Nat, (x : Int) < a.letters → nxQ a (L.getD i 0) x ∈ L
  cj : k < L.length → ∀ x, x < j → nxQ a (L.getD k 0) x ∈ L
  ls : ∀ P : Int → Prop, P a.start → (∀ (q : Int) (x : Nat), 0 ≤ q → q < a.next.length → P q → (x : Int) < a.letters → P (nxQ a q x)) → ∀ q ∈ L, P q
theorem RI.le {a : Au} {k j : Nat} {L : List Int} (h : RI a k L j) : L.length ≤ a.next.length := by
  have h1 : (L.map Int.toNat).Nodup := by
    have h0 := h.rg
    have hn := h.nd
    clear h
    induction L with
    | nil => simp
    | cons q L ih =>
      rw [List.map_cons, List.nodup_cons]
      rw [List.nodup_cons] at hn
      refine ⟨fun hm => ?_, ih (fun y hy => h0 y (List.mem_cons_of_mem _ hy)) hn.2⟩
      obtain ⟨y, hy, e⟩ := List.mem_map.1 hm
      have a1 := h0 y (List.mem_cons_of_mem _ hy)
      have a2 := h0 q List.mem_cons_self
      have : y = q := by omega
      exact hn.1 (this ▸ hy)
  have h2 : (L.map Int.toNat).Perm ((List.range a.next.length).filter fun x => decide (x ∈ L.map Int.toNat)) := (List.perm_ext_iff_of_nodup h1 (List.Nodup.sublist List.filter_sublist List.nodup_range)).2 fun x => by
    rw [List.mem_filter, List.mem_range, decide_eq_true_eq]
    refine ⟨fun hx => ⟨?_, hx⟩, fun hx => hx.2⟩
    obtain ⟨y, hy, rfl⟩ := List.mem_map.1 hx
    have := h.rg y hy
    omega
  have h3 := h2.length_eq
  have h4 := List.length_filter_le (fun x => decide (x ∈ L.map Int.toNat)) (List.range a.next.length)
  rw [List.length_map] at h3
  rw [List.length_range] at h4
  omega
theorem RI.start {a : Au} (hv : validA a = true) : RI a 0 [a.start] 0 := by
  simp only [validA, Bool.and_eq_true, decide_eq_true_eq] at hv
  refine ⟨by simp, fun q hq => ?_, by simp, fun i h => absurd h (by omega), fun _ x h => absurd h (by omega), fun P h0 _ q hq => ?_⟩
  · rw [List.mem_singleton.1 hq]; exact hv.1.2
  · rw [List.mem_singleton.1 hq]; exact h0
theorem nx_rg {a : Au} (hv : validA a = true) {q : Int} (h0 : 0 ≤ q) (h1 : q < a.next.length) {x : Nat} (hx : (x : Int) < a.letters) : 0 ≤ nxQ a q x ∧ nxQ a q x < a.next.length := by
  obtain ⟨h2, -, h3⟩ := validA_row hv (s := q.toNat) (by omega)
  exact h3 x (by omega)
theorem RI.old {a : Au} {k j : Nat} {L : List Int} (h : RI a k L j) (hm : nxQ a (L.getD k 0) j ∈ L) : RI a k L (j + 1) :=
  { h with
    cj := fun hk x hx => by
      by_cases e : x = j
      · rw [e]; exact hm
      · exact h.cj hk x (by omega) }
theorem RI.new {a : Au} (hv : validA a = true) {k j : Nat} {L : List Int} (h : RI a k L j) (hk : k < L.length) (hj : (j : Int) < a.letters) (hm : nxQ a (L.getD k 0) j ∉ L) : RI a k (L ++ [nxQ a (L.getD k 0) j]) (j + 1) := by
  have hq := h.rg _ (show L.getD k 0 ∈ L by rw [getD_lt _ _ _ hk]; exact List.getElem_mem hk)
  have hn := nx_rg hv hq.1 hq.2 hj
  refine ⟨?_, fun q hx => ?_, List.mem_append_left _ h.st, fun i hi hl x hx => ?_, fun _ x hx => ?_, fun P h0 h1 q hx => ?_⟩
  · rw [List.nodup_append]
    exact ⟨h.nd, by simp, fun x hx y hy => by rw [List.mem_singleton.1 hy]; rintro rfl; exact hm hx⟩
  · rcases List.mem_append.1 hx with h1 | h1
    · exact h.rg q h1
    · rw [List.mem_singleton.1 h1]; exact hn
  · have : (L ++ [nxQ a (L.getD k 0) j]).getD i 0 = L.getD i 0 := getD_app_l _ _ _ _ (by omega)
    rw [this]
    exact List.mem_append_left _ (h.cl i hi (by omega) x hx)
  · have : (L ++ [nxQ a (L.getD k 0) j]).getD k 0 = L.getD k 0 := getD_app_l _ _ _ _ hk
    rw [this]
    by_cases e : x = j
    · rw [e]; simp
    · exact List.mem_append_left _ (h.cj hk x (by omega))
  · rcases List.mem_append.1 hx with h2 | h2
    · exact h.ls P h0 h1 q h2
    · rw [List.mem_singleton.1 h2]
      exact h1 _ _ hq.1 hq.2 (h.ls P h0 h1 _ (by rw [getD_lt _ _ _ hk]; exact List.getElem_mem hk)) hj
theorem RI.turn {a : Au} {k j : Nat} {L : List Int} (h : RI a k L j) (hj : a.letters ≤ j) : RI a (k + 1) L 0 :=
  { h with
    cl := fun i hi hl x hx => by
      by_cases e : i = k
      · subst e; exact h.cj hl x (by omega)
      · exact h.cl i (by omega) hl x hx
    cj := fun _ x hx => absurd hx (by omega) }

/-- Which states are in a list. -/
def inL (n : Nat) (L : List Int) : List Bool := (List.range n).map fun (v : Nat) => decide ((v : Int) ∈ L)
theorem inL_len (n : Nat) (L : List Int) : (inL n L).length = n := by simp [inL]
theorem inL_get (n : Nat) (L : List Int) (v : Nat) (h : v < n) : (inL n L).getD v false = decide ((v : Int) ∈ L) := by simp [inL, h]
theorem inL_set (n : Nat) (L : List Int) (v : Nat) : (inL n L).set v true = inL n (L ++ [(v : Int)]) := by
  refine List.ext_getElem (by simp [inL]) fun u h1 h2 => ?_
  rw [List.getElem_set]
  by_cases e : v = u
  · subst e; simp [inL]
  · rw [if_neg e]
    simp only [inL, List.getElem_map, List.getElem_range]
    have : ¬ (u : Int) = (v : Int) := by omega
    simp [this]
theorem inL_nil (n : Nat) : inL n [] = List.replicate n false := by
  refine List.ext_getElem (by simp [inL]) fun u h1 h2 => ?_
  simp [inL]

/-- The states that are reached. -/
structure ReachL (a : Au) (L : List Int) : Prop where
  nd : L.Nodup
  rg : ∀ q ∈ L, 0 ≤ q ∧ q < a.next.length
  st : a.start ∈ L
  cl : ∀ q ∈ L, ∀ x : Nat, (x : Int) < a.letters → nxQ a q x ∈ L
  ls : ∀ P : Int → Prop, P a.start → (∀ (q : Int) (x : Nat), 0 ≤ q → q < a.next.length → P q → (x : Int) < a.letters → P (nxQ a q x)) → ∀ q ∈ L, P q
theorem RI.done {a : Au} {k j : Nat} {L : List Int} (h : RI a k L j) (hk : L.length ≤ k) : ReachL a L :=
  ⟨h.nd, h.rg, h.st, fun q hq x hx => by
    obtain ⟨i, hi, rfl⟩ := List.mem_iff_getElem.1 hq
    have := h.cl i (by omega) hi x hx
    rwa [getD_lt _ _ _ hi] at this, h.ls⟩
def ReachOut (a : Au) (w : World) (e : Ending) (w' : World) : Prop := ∃ v L, e = .returned v ∧ IsBools w' v (inL a.next.length L) ∧ ReachL a L ∧ Below w.heap.size w w'

theorem OI_lit1 {w : World} {B g : Nat} {x : Int} (h : w.heap[g]? = some (.cells #[.int .i64 x] 3 (0, 0))) (hb : B ≤ g) : OI w B (.slice (some ⟨g, 0, none⟩) 1 1) [x] :=
  (show w.ownsRow B 3 1 (.slice (some ⟨g, 0, none⟩) 1 1) 1 [.int .i64 x] from ⟨by simp, .inr ⟨g, 1, _, rfl, hb, h, Nat.le_refl _, by simp [maxLen], by simp, by simp⟩⟩)
theorem OB.setNe' {w : World} {base g j : Nat} {v u : Value} {l : List Bool} (h : OB w base v l) (hne : v.ownBlock ≠ some g) : OB (w.setCell ⟨g, j, none⟩ u) base v l := ownsRow_set_ne h hne

set_option maxRecDepth 100000 in
set_option maxHeartbeats 8000000 in
theorem reached_c (w : World) (va : Value) (a : Au) (ha : IsAuto w va a) (hv : validA a = true) :
    Calls Tryd.prog 29 #[va] w (ReachOut a w) := by
  obtain ⟨v2, v3, rfl, -, ⟨V2, ⟨ao2, cap2, b2, off2, rfl, g2⟩, hr2⟩, ⟨V3, ⟨ao3, cap3, b3, off3, rfl, -⟩, -⟩⟩ := ha
  have hv' := hv
  simp only [validA, Bool.and_eq_true, decide_eq_true_eq] at hv'
  obtain ⟨⟨⟨⟨⟨hl1, hl2⟩, hn1, hn2⟩, -⟩, hs0, hs1⟩, -⟩ := hv'
  obtain ⟨s0, hs⟩ := Int.eq_ofNat_of_zero_le hs0
  obtain ⟨lt, hlt0⟩ := Int.eq_ofNat_of_zero_le (show 0 ≤ a.letters by omega)
  obtain ⟨n, hn⟩ : ∃ n, a.next.length = n := ⟨_, rfl⟩
  have HS0 := Lib.hid hs
  have HLT := Lib.hid hlt0
  have HN := Lib.hid hn
  have HV := Lib.hid hv
  have HROWS : Hid (∀ q, q < n → ((a.next.getD q []).length = lt) ∧ IsInts w (V2 q) (a.next.getD q [])) := fun q hq => ⟨by have := (validA_row hv (s := q) (by omega)).1; omega, hr2 q (by omega)⟩
  have HLB : Hid (lt ≤ 64) := by show _ ≤ _; omega
  have hsn : s0 < n := by omega
  have hn3 : n ≤ 3000 := by omega
  rw [hs, hlt0, hn]
  rw [hn] at g2
  clear hs hlt0 hn hs0 hs1 hl1 hl2 hn1 hn2 hr2 hv
  generalize a.prio.length = n3 at *
  go_enter Tryd.func29, Tryd.ntmps29
  go_upto_region 1 with (fail)
  obtain ⟨hx, hB0⟩ : (w.alloc (.cells #[.int .i64 lt, .int .i64 s0, .slice ao2 n cap2, .slice ao3 n3 cap3] 25)).heap[w.heap.size]? = some (.cells #[.int .i64 lt, .int .i64 s0, .slice ao2 n cap2, .slice ao3 n3 cap3] 25 (0, 0)) ∧ Below w.heap.size w (w.alloc (.cells #[.int .i64 lt, .int .i64 s0, .slice ao2 n cap2, .slice ao3 n3 cap3] 25)) := ⟨heap_alloc_new _ _, bel_box _⟩
  generalize w.alloc (.cells #[.int .i64 lt, .int .i64 s0, .slice ao2 n cap2, .slice ao3 n3 cap3] 25) = w1 at *
  have HX : Hid (∀ W, Below w1.heap.size w1 W → W.cell? ⟨w.heap.size, 0, none⟩ = some (.int .i64 lt) ∧ W.cell? ⟨w.heap.size, 1, none⟩ = some (.int .i64 s0) ∧ W.cell? ⟨w.heap.size, 2, none⟩ = some (.slice ao2 n cap2)) := fun W h => by
    have k := (h.block _ (Array.getElem?_eq_some_iff.1 hx).1).trans hx
    exact ⟨cell_of_row _ _ 0 _ _ _ k, cell_of_row _ _ 1 _ _ _ k, cell_of_row _ _ 2 _ _ _ k⟩
  have HB0 := Lib.hid hB0
  have HG2 : Hid (∀ W, Below w1.heap.size w1 W → ∀ q, q < n → W.cell? ⟨b2, off2 + q, none⟩ = some (V2 q)) := fun W h q hq => cellB (HB0.out.trans (h.mono HB0.out.size)) (g2.el q hq)
  have HAD : Hid (0 < n → ao2 = some ⟨b2, off2, none⟩) := g2.ad
  obtain ⟨d0, d1, d2⟩ := HX.out w1 (Below.refl _ _)
  clear hx hB0 g2
  go_upto_region 3 with (at_make; refine mk_bool rfl _ _ _ Tryd.underlying29 rfl w1.heap.size _ n rfl rfl rfl (by omega) (Nat.le_refl _) ?_; intro w2 hown hg1; have hB1 : Below w1.heap.size w1 w2 := (Below.refl _ _).grown hg1 (Nat.le_refl _) (fun k hk => by cases hk); have hz1 := (hown.lt' w1.heap.size rfl); obtain ⟨d0', d1', d2'⟩ := HX.out w2 hB1)
  have hown3 := hown.below (bel_box (.cells #[.int .i64 s0] 3))
  have hl3 : OI (w2.alloc (.cells #[.int .i64 s0] 3)) w1.heap.size (.slice (some ⟨w2.heap.size, 0, none⟩) 1 1) [(s0 : Int)] := OI_lit1 (heap_alloc_new _ _) (by omega)
  have hB3 : Below w1.heap.size w1 (w2.alloc (.cells #[.int .i64 s0] 3)) := hB1.trans ((bel_box _).mono hB1.size)
  have hap : Apart (.slice (some ⟨w1.heap.size, 0, none⟩) n n) (.slice (some ⟨w2.heap.size, 0, none⟩) 1 1) := fun g h1 h2 => by
    simp [Value.ownBlock] at h1 h2
    omega
  clear hown hg1 hB1 d0 d1 d2 d0' d1' d2'
  generalize w2.alloc (.cells #[.int .i64 s0] 3) = w3 at *
  obtain ⟨d0, d1, d2⟩ := HX.out w3 hB3
  have hsl : s0 < (List.replicate n false).length := by simpa using hsn
  have c3 := hown3.at' (by simp) s0 hsl
  have f3 := hown3.fz (by simp) s0
  have hown4 := hown3.set (by simp) s0 true
  have hl4 := hl3.setNe (g := w1.heap.size) (j := s0) (u := .bool true) (fun e => hap _ rfl e)
  have hB4 := hB3.setCell (Nat.le_refl _) (p := ⟨w1.heap.size, s0, none⟩) (.bool true)
  rw [← inL_nil, inL_set, List.nil_append] at hown4
  go_upto_region 4 with (fail)
  clear c3 f3 hown3 hl3 hB3 d0 d1 d2 hz1 hsl
  generalize w3.setCell ⟨w1.heap.size, s0, none⟩ (.bool true) = w4 at *
  generalize w2.heap.size = z2 at *
  have hR : RI a 0 [(s0 : Int)] 0 := by rw [← HS0.out]; exact RI.start HV.out
  go_wp2
  go_loopg [4, 5] n (fun gh vL i wr => ∃ (k : Nat) (L : List Int), gh = n - k ∧ i = .int .i64 k ∧ k ≤ L.length ∧ RI a k L 0 ∧ OB wr w1.heap.size (.slice (some ⟨w1.heap.size, 0, none⟩) n n) (inL n L) ∧ OI wr w1.heap.size vL L ∧ Apart (.slice (some ⟨w1.heap.size, 0, none⟩) n n) vL ∧ Below w1.heap.size w1 wr)
  case atStart => exact ⟨0, _, by omega, rfl, by simp, hR, hown4, hl4, hap, hB4⟩
  case round =>
    obtain ⟨k, L, hgk, rfl, hk, hR, hO, hL, hap, hB⟩ := hrel
    have HGK := Lib.hid hgk
    clear hgk hown4 hl4 hB4
    have hle : L.length ≤ n := by rw [← HN.out]; exact hR.le
    by_cases hlt : k < L.length
    case neg =>
      have hbs : IsBools wr (.slice (some ⟨w1.heap.size, 0, none⟩) n n) (inL n L) := by
        have h1 := hO.is (by rw [inL_len]; simp only [maxN]; omega)
        exact h1
      have HOUT : Hid (IsBools wr (.slice (some ⟨w1.heap.size, 0, none⟩) n n) (inL a.next.length L)) := by rw [HN.out]; exact hbs
      have HRD := Lib.hid (hR.done (by omega))
      obtain ⟨aoL, capL, hvL⟩ := hL.slice
      subst hvL
      have HBE := Lib.hid (HB0.out.trans (hB.mono HB0.out.size))
      clear hO hL hap hB hR hbs
      go_wp2
      go_ret
      exact ⟨_, L, rfl, HOUT.out, HRD.out, HBE.out⟩
    have hk0 := hlt
    obtain ⟨q0, q1⟩ := hR.rg (L.getD k 0) (by rw [getD_lt _ _ _ hlt]; exact List.getElem_mem hlt)
    obtain ⟨qn, hqn⟩ := Int.eq_ofNat_of_zero_le q0
    have hqN : qn < n := by rw [hqn, HN.out] at q1; omega
    obtain ⟨hrl, hri⟩ := HROWS.out qn hqN
    have hNX : Hid (∀ x, nxQ a (L.getD k 0) x = (a.next.getD qn []).getD x 0) := fun x => by unfold nxQ; rw [hqn, Int.toNat_natCast]
    have HRG : Hid (∀ x, x < lt → 0 ≤ (a.next.getD qn []).getD x 0 ∧ (a.next.getD qn []).getD x 0 < n) := fun x hx => by
      have := nx_rg HV.out (q := (qn : Int)) (by omega) (by rw [HN.out]; omega) (x := x) (by rw [HLT.out]; omega)
      unfold nxQ at this
      rw [Int.toNat_natCast, HN.out] at this
      exact this
    generalize a.next.getD qn [] = row at *
    obtain ⟨ar, cr, hvr⟩ := hri.shape
    rw [hrl] at hvr
    have HVR := Lib.hid hvr
    rw [hvr] at hri
    obtain ⟨rb, ro, hra, -, hrc⟩ := hri.data
    have HRA := Lib.hid hra
    have HRC : Hid (∀ W, Below w1.heap.size w1 W → ∀ x, x < lt → W.cell? ⟨rb, ro + x, none⟩ = some (.int .i64 (row.getD x 0))) := fun W h x hx => cellB (HB0.out.trans (h.mono HB0.out.size)) (hrc x hx)
    have HQN := Lib.hid hqn
    clear hrl hri hra hrc hvr q0 q1 hqn
    obtain ⟨g0, cL, hvL, -, -⟩ := hL.row (by omega)
    subst hvL
    obtain rfl := HAD.out (by omega)
    have hlb := HLB.out
    go_wp2
    obtain ⟨wo, rfl⟩ : ∃ wo : World, wo = wr := ⟨_, rfl⟩
    go_loopg [4, 6] lt (fun gh vL x wx => ∃ (j : Nat) (L' e : List Int), gh = lt - j ∧ x = .int .i64 j ∧ j ≤ lt ∧ Hid (L' = L ++ e) ∧ Hid (RI a k L' j) ∧ OB wx w1.heap.size (.slice (some ⟨w1.heap.size, 0, none⟩) n n) (inL n L') ∧ OI wx w1.heap.size vL L' ∧ Apart (.slice (some ⟨w1.heap.size, 0, none⟩) n n) vL ∧ Below w1.heap.size w1 wx)
    case atStart => exact ⟨0, L, [], by omega, rfl, by omega, by show _ = _; simp, hR, hO, hL, hap, hB⟩
    case round =>
      obtain ⟨j, L', e, hgj, rfl, hj, HPRE, HRI, hO2, hL2, hap2, hB2⟩ := hrel
      have HGJ := Lib.hid hgj
      clear hgj hO hL hap hB hR
      have hkL : k < L'.length := by rw [HPRE.out, List.length_append]; omega
      have hle2 : L'.length ≤ n := by rw [← HN.out]; exact HRI.out.le
      obtain ⟨d0, d1, d2⟩ := HX.out wr hB2
      by_cases hltj : j < lt
      · have HLK : Hid (L'.getD k 0 = (qn : Int)) := by
          show _ = _
          rw [HPRE.out, getD_app_l _ _ _ _ hlt, HQN.out]
        obtain ⟨x0, x1⟩ := HRG.out j hltj
        obtain ⟨u, hu⟩ := Int.eq_ofNat_of_zero_le x0
        have huN : u < n := by omega
        have HNU : Hid (nxQ a (L'.getD k 0) j = (u : Int)) := by
          show _ = _
          rw [HLK.out, ← HQN.out, hNX.out, hu]
        obtain ⟨gL, cL', hvL', -, -⟩ := hL2.row (by omega)
        subst hvL'
        have c1 := hL2.at' rfl k hkL
        have hLk : L'[k] = (qn : Int) := by rw [← getD_lt _ 0 _ hkL]; exact HLK.out
        rw [hLk] at c1
        have c2 := HG2.out wr hB2 qn hqN
        rw [HVR.out] at c2
        obtain rfl := HRA.out (by omega)
        have c3 := HRC.out wr hB2 j hltj
        rw [hu] at c3
        have hb0 := hO2.at' (inL_len n L').symm u (by rw [inL_len]; exact huN)
        have hbv : (inL n L')[u]'(by rw [inL_len]; exact huN) = decide ((u : Int) ∈ L') := by rw [← getD_lt _ false _ (by rw [inL_len]; exact huN), inL_get _ _ _ huN]
        rw [hbv] at hb0
        have HO2 := Lib.hid hO2
        have HL2 := Lib.hid hL2
        have HAP := Lib.hid hap2
        have HB2 := Lib.hid hB2
        have hu0 : (0 : Int) ≤ (u : Int) := Int.natCast_nonneg _
        have hLTj : (j : Int) < a.letters := by rw [HLT.out]; omega
        have HLJ := Lib.hid hLTj
        clear x0 x1 hu hLk hbv hO2 hL2 hap2 hB2 hLTj d1
        go_wp2
        refine wp_region_quiet_lit (by kernel_rfl) (by kernel_rfl) ?_
        ((repeat (go_big_quiet_step (fail))); refine wpQuiet_nil ?_; rintro _ ⟨nq, rfl⟩)
        clear c1 c2 c3 d0 d2 hb0
        have hO3 := HO2.out.below (below_draws _ _ nq)
        have hL3 := HL2.out.below (below_draws _ _ nq)
        have hB3 := HB2.out.trans (below_draws _ _ nq)
        clear HO2 HL2 HB2
        generalize wr.drewN nq = w5 at *
        have f3 := hO3.fz (inL_len n L').symm u
        have c3 := hO3.at' (inL_len n L').symm u (by rw [inL_len]; exact huN)
        have hbv : (inL n L')[u]'(by rw [inL_len]; exact huN) = decide ((u : Int) ∈ L') := by rw [← getD_lt _ false _ (by rw [inL_len]; exact huN), inL_get _ _ _ huN]
        rw [hbv] at c3
        have HO3 := Lib.hid hO3
        have HL3 := Lib.hid hL3
        have HB3 := Lib.hid hB3
        clear hO3 hL3 hB3 hbv
        by_cases hin : (u : Int) ∈ L'
        · have hd : decide ((u : Int) ∈ L') = true := decide_eq_true hin
          rw [hd] at c3
          have HNEW : Hid (RI a k L' (j + 1)) := HRI.out.old (by rw [HNU.out]; exact hin)
          clear hd hin
          go_wp2
          go_roundg (lt - (j + 1))
          case measure => have := HGJ.out; omega
          case rel => exact ⟨j + 1, L', e, rfl, by go_num, by omega, HPRE, HNEW, HO3.out, HL3.out, HAP.out, HB3.out⟩
        · have hd : decide ((u : Int) ∈ L') = false := decide_eq_false hin
          rw [hd] at c3
          have HNEW : Hid (RI a k (L' ++ [(u : Int)]) (j + 1)) := by
            have := HRI.out.new HV.out hkL HLJ.out (by rw [HNU.out]; exact hin)
            rwa [HNU.out] at this
          have HO6 : Hid (OB (w5.setCell ⟨w1.heap.size, u, none⟩ (.bool true)) w1.heap.size (.slice (some ⟨w1.heap.size, 0, none⟩) n n) (inL n (L' ++ [(u : Int)]))) := by
            rw [← inL_set]
            exact HO3.out.set (inL_len n L').symm u true
          have HL6 : Hid (OI (w5.setCell ⟨w1.heap.size, u, none⟩ (.bool true)) w1.heap.size (.slice (some ⟨gL, 0, none⟩) L'.length cL') L') := HL3.out.setNe (fun e => HAP.out _ rfl e)
          have HB6 := Lib.hid (HB3.out.setCell (Nat.le_refl _) (p := ⟨w1.heap.size, u, none⟩) (.bool true))
          have hBs : w1.heap.size ≤ (w5.setCell ⟨w1.heap.size, u, none⟩ (.bool true)).heap.size := HB6.out.size
          have hnl : L'.length < 17592186043904 := by omega
          clear hd hin HO3 HL3 HB3
          go_wp2_with (at_builtin; refine app_int rfl _ _ (u : Int) rfl w1.heap.size _ _ HL6.out rfl _ (by simp) rfl hnl hBs ?_; intro v' w' hown' hg hmv)
          go_roundg (lt - (j + 1))
          case measure => have := HGJ.out; omega
          case rel => exact ⟨j + 1, L' ++ [(u : Int)], e ++ [(u : Int)], rfl, by go_num, by omega, by show _ = _; rw [HPRE.out, List.append_assoc], HNEW, HO6.out.grownA hg HAP.out, hown', HAP.out.moved hmv (fun g hg => by have := HO6.out.lt' g hg; exact this), HB6.out.grown hg hBs (fun g hg => HL6.out.ge g hg)⟩
      · obtain rfl : lt = j := by omega
        have HTURN : Hid (RI a (k + 1) L' 0) := HRI.out.turn (by rw [HLT.out]; exact Int.le_refl _)
        have hn1 : k + 1 ≤ 3000 := by omega
        clear d1 d2
        go_wp2
        go_roundg (n - (k + 1))
        case measure => have := HGK.out; omega
        case rel => exact ⟨k + 1, L', rfl, by go_num, by omega, HTURN.out, hO2, hL2, hap2, hB2⟩

end Go.Proofs.YtjadeffdcbchnaaDoor
