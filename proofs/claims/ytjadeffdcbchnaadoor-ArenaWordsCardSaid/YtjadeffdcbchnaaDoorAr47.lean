/- What the law's step, the reference's Short and slices.Min compute. -/
import Derived.Test.YtjadeffdcbchnaaDoorArX
import Derived.Deep.QuietTactic
import Derived.BigQuiet
namespace Go.Proofs.YtjadeffdcbchnaaDoor
open Go.RowKit

theorem results_tmp3 {fn : Func} {t u v : Tmp} (h : fn.results = #[.tmp t, .tmp u, .tmp v]) (tmps : Array Value) (P : Program) (w : World) :
    (results fn tmps).run P w = .ok (.tuple #[tmps.getD t undef, tmps.getD u undef, tmps.getD v undef]) w := by
  simp [results, h]

def shortB (l : Ls) : Bool := decide (l.stem.length ≤ 80) && decide (l.loop.length ≤ 80)
theorem IsLs.shp {w : World} {v : Value} {l : Ls} (h : IsLs w v l) : ∃ a0 c0 a1 c1, v = .agg #[.slice a0 l.stem.length c0, .slice a1 l.loop.length c1] := by
  obtain ⟨v0, v1, rfl, ⟨⟨a0, c0, -, -, rfl, -⟩, -⟩, ⟨⟨a1, c1, -, -, rfl, -⟩, -⟩⟩ := h
  exact ⟨_, _, _, _, rfl⟩
theorem IsLs.parts {w : World} {v0 v1 : Value} {l : Ls} (h : IsLs w (.agg #[v0, v1]) l) : IsInts w v0 l.stem ∧ IsInts w v1 l.loop := by
  obtain ⟨u0, u1, e, h0, h1⟩ := h
  simp only [Value.agg.injEq, Array.mk.injEq, List.cons.injEq, and_true] at e
  obtain ⟨rfl, rfl⟩ := e
  exact ⟨h0, h1⟩
theorem Short_c (w : World) (v : Value) (l : Ls) (hl : IsLs w v l) : Calls Tryd.prog 30 #[v] w (Calm (.bool (shortB l)) w) := by
  obtain ⟨a0, c0, a1, c1, rfl⟩ := hl.shp
  have hn0 := (hl.parts.1).1
  have hn1 := (hl.parts.2).1
  obtain ⟨_, _, _, _, hv0, h0⟩ := hn0
  obtain ⟨_, _, _, _, hv1, h1⟩ := hn1
  have hm0 := h0.nb
  have hm1 := h1.nb
  clear hv0 hv1 h0 h1 hl
  have HR : Hid (shortB l = (decide (l.stem.length ≤ 80) && decide (l.loop.length ≤ 80))) := rfl
  generalize l.stem.length = n0 at *
  generalize l.loop.length = n1 at *
  go_enter Tryd.func30, Tryd.ntmps30
  go_upto_region 1 with (fail)
  obtain ⟨hx, hB⟩ : (w.alloc (.cells #[.slice a0 n0 c0, .slice a1 n1 c1] 57)).heap[w.heap.size]? = some (.cells #[.slice a0 n0 c0, .slice a1 n1 c1] 57 (0, 0)) ∧ Below w.heap.size w (w.alloc (.cells #[.slice a0 n0 c0, .slice a1 n1 c1] 57)) := ⟨heap_alloc_new _ _, bel_box _⟩
  generalize w.alloc (.cells #[.slice a0 n0 c0, .slice a1 n1 c1] 57) = w1 at *
  have d0 := cell_of_row _ _ 0 _ _ _ hx
  have d1 := cell_of_row _ _ 1 _ _ _ hx
  by_cases h0 : n0 ≤ 80
  · have s0 : decide (n0 ≤ 80) = true := decide_eq_true h0
    have s0' : decide ((n0 : Int) ≤ 80) = true := decide_eq_true (by omega)
    by_cases h1 : n1 ≤ 80
    · have s1 : decide (n1 ≤ 80) = true := decide_eq_true h1
      have s1' : decide ((n1 : Int) ≤ 80) = true := decide_eq_true (by omega)
      rw [s0, s1] at HR
      clear h0 h1 s0 s1
      go_wp2
      go_ret
      exact ⟨ret_bool (by rw [HR.out]; rfl), hB⟩
    · have s1 : decide (n1 ≤ 80) = false := decide_eq_false h1
      have s1' : decide ((n1 : Int) ≤ 80) = false := decide_eq_false (by omega)
      rw [s0, s1] at HR
      clear h0 h1 s0 s1
      go_wp2
      go_ret
      exact ⟨ret_bool (by rw [HR.out]; rfl), hB⟩
  · have s0 : decide (n0 ≤ 80) = false := decide_eq_false h0
    have s0' : decide ((n0 : Int) ≤ 80) = false := decide_eq_false (by omega)
    rw [s0] at HR
    clear h0 s0
    go_wp2
    go_ret
    exact ⟨ret_bool (by rw [HR.out]; rfl), hB⟩

/-- The least of some numbers. -/
def minK (l : List Int) (k : Nat) : Int := (l.take k).foldl min (l.getD 0 0)
theorem minK_one {l : List Int} (h : 0 < l.length) : minK l 1 = l.getD 0 0 := by
  cases l with
  | nil => simp at h
  | cons x l => simp [minK, List.getD]
theorem minK_succ {l : List Int} {k : Nat} (h : k < l.length) : minK l (k + 1) = min (minK l k) (l.getD k 0) := by
  unfold minK
  rw [List.take_succ_eq_append_getElem h, List.foldl_append, getD_lt l 0 k h]; rfl
theorem minK_spec {l : List Int} (h : 0 < l.length) : ∀ k, 1 ≤ k → k ≤ l.length → (∃ i, i < k ∧ l.getD i 0 = minK l k) ∧ ∀ i, i < k → minK l k ≤ l.getD i 0 := by
  intro k
  induction k with
  | zero => intro h; omega
  | succ k ih =>
    intro h1 h2
    by_cases hk : k = 0
    · subst hk
      rw [minK_one h]
      exact ⟨⟨0, by omega, rfl⟩, fun i hi => by rw [show i = 0 by omega]; exact Int.le_refl _⟩
    · obtain ⟨⟨i, hi, e⟩, h3⟩ := ih (by omega) (by omega)
      rw [minK_succ (by omega)]
      refine ⟨?_, fun j hj => ?_⟩
      · by_cases hc : minK l k ≤ l.getD k 0
        · exact ⟨i, by omega, by rw [e]; omega⟩
        · exact ⟨k, by omega, by omega⟩
      · by_cases hjk : j = k
        · rw [hjk]; omega
        · have := h3 j (by omega); omega
theorem Min_c (w : World) (v : Value) (l : List Int) (hl : IsInts w v l) (h0 : 0 < l.length) : Calls Tryd.prog 58 #[v] w fun e w' => e = .returned (.int .i64 (minK l l.length)) ∧ w' = w := by
  obtain ⟨a, c, rfl⟩ := hl.shp
  obtain ⟨b, o, had, hn, hc⟩ := hl.dat
  obtain rfl := had h0
  have HC := Lib.hid hc
  have c0 := hc 0 h0
  rw [Nat.add_zero] at c0
  have hM := minK_one h0
  rw [← hM] at c0
  clear hl had hc hM
  have s0 : decide ((l.length : Int) < 1) = false := decide_eq_false (by omega)
  have hi1 : (0 : Int) < l.length := by omega
  go_enter Tryd.func58, Tryd.ntmps58
  go_wp2
  go_loopg [3, 4] (l.length - 1) (fun gh m i wr => ∃ k : Nat, gh = l.length - k ∧ i = .int .i64 k ∧ m = .int .i64 (minK l k) ∧ 1 ≤ k ∧ k ≤ l.length ∧ wr = w)
  case atStart => exact ⟨1, by omega, rfl, rfl, by omega, by omega, rfl⟩
  case round =>
    obtain ⟨k, hgk, rfl, rfl, hk1, hk, rfl⟩ := hrel
    by_cases hlt : k < l.length
    · have e1 := HC.out k hlt
      have HE := Lib.hid (minK_succ hlt)
      have HGK := Lib.hid hgk
      clear c0 s0 hi1 hgk
      generalize minK l k = m at *
      generalize l.getD k 0 = x at *
      go_wp2
      all_goals
        go_roundg (l.length - (k + 1))
        case measure => have := HGK.out; omega
        case rel => exact ⟨k + 1, rfl, by go_num, by rw [HE.out]; congr 1; first | omega | (simp; omega), by omega, by omega, rfl⟩
    · obtain rfl : k = l.length := by omega
      go_wp2
      go_ret
      exact ⟨rfl, rfl⟩

set_option maxRecDepth 100000 in
set_option maxHeartbeats 8000000 in
theorem step_c (w : World) (vl vg : Value) (l : List Sig) (g : Gm) (p : Nat) (x : Int) {i o mid tt : Nat} (hK : Keys w) (hl : IsSigs w vl l) (hg : IsGame w vg g) (hx : I64 x) (hi : halfI l true x = i) (ho : halfI l false x = o)
    (hp : p < g.succ.length) (h2 : i < (g.succ.getD p []).length) (h3 : (g.succ.getD p []).getD i 0 = mid) (h4 : mid < g.succ.length) (h5 : o < (g.succ.getD mid []).length) (h6 : (g.succ.getD mid []).getD o 0 = tt) (h7 : tt < g.prio.length) (h8 : mid < g.prio.length) (h9 : g.prio.getD tt 0 ≤ g.prio.getD mid 0) (h10 : tt < g.succ.length) :
    Calls Tryd.prog 32 #[vl, vg, .int .i64 p, .int .i64 x] w (fun e w' => e = .returned (.tuple #[.int .i64 tt, .int .i64 (g.prio.getD tt 0), .bool true]) ∧ Below w.heap.size w w') := by
  obtain ⟨v0, v1, v2, rfl, ⟨⟨a0, c0, -, -, rfl, -⟩, -⟩, ⟨⟨a1, k1, b1, o1, rfl, f1⟩, -⟩, ⟨V, ⟨a2, k2, b2, o2, rfl, f2⟩, hr⟩⟩ := hg
  obtain rfl := f1.ad (by omega)
  obtain rfl := f2.ad (by omega)
  have C1 := f1.el mid h8
  have C2 := f1.el tt h7
  have S1 := f2.el p hp
  have S2 := f2.el mid h4
  have r1 := hr p hp
  have r2 := hr mid h4
  obtain ⟨ar, cr, hvr⟩ := r1.shp
  obtain ⟨as', cs, hvs⟩ := r2.shp
  rw [hvr] at S1 r1
  rw [hvs] at S2 r2
  obtain ⟨rb, ro, ra, -, rc⟩ := r1.dat
  obtain ⟨sb, so, sa, -, sc⟩ := r2.dat
  obtain rfl := ra (by omega)
  obtain rfl := sa (by omega)
  have R1 := rc i h2
  have R2 := sc o h5
  rw [h3] at R1
  rw [h6] at R2
  unfold ivF at C1 C2
  have hn2 := f2.nb
  have hn1 := f1.nb
  clear hvr hvs r1 r2 hr ra sa rc sc h3 h6 f1 f2
  generalize g.owner.length = n0 at *
  generalize g.prio.getD mid 0 = pm at *
  generalize g.prio.getD tt 0 = pt at *
  generalize (g.succ.getD p []).length = l1 at *
  generalize (g.succ.getD mid []).length = l2 at *
  generalize g.prio.length = N1 at *
  generalize g.succ.length = N2 at *
  have HI := Lib.hid hi
  have HO := Lib.hid ho
  clear hi ho
  go_enter Tryd.func32, Tryd.ntmps32
  go_upto_region 1 with (fail)
  obtain ⟨hbx, hB⟩ : (w.alloc (.cells #[.slice a0 n0 c0, .slice (some ⟨b1, o1, none⟩) N1 k1, .slice (some ⟨b2, o2, none⟩) N2 k2] 28)).heap[w.heap.size]? = some (.cells #[.slice a0 n0 c0, .slice (some ⟨b1, o1, none⟩) N1 k1, .slice (some ⟨b2, o2, none⟩) N2 k2] 28 (0, 0)) ∧ Below w.heap.size w (w.alloc (.cells #[.slice a0 n0 c0, .slice (some ⟨b1, o1, none⟩) N1 k1, .slice (some ⟨b2, o2, none⟩) N2 k2] 28)) := ⟨heap_alloc_new _ _, bel_box _⟩
  generalize w.alloc (.cells #[.slice a0 n0 c0, .slice (some ⟨b1, o1, none⟩) N1 k1, .slice (some ⟨b2, o2, none⟩) N2 k2] 28) = w1 at *
  go_wp2_with fail
  refine (SIn_c w1 vl l x hx (hK.below hB) (hl.below hB)).mono ?_
  rw [HI.out]
  rintro e w2 ⟨rfl, hb2⟩
  replace hbx := (hb2.block _ (Array.getElem?_eq_some_iff.1 hbx).1).trans hbx
  replace hB := hB.trans (hb2.mono hB.size)
  clear hb2
  go_wp2_with fail
  refine (SOut_c w2 vl l x hx (hK.below hB) (hl.below hB)).mono ?_
  rw [HO.out]
  rintro e w3 ⟨rfl, hb2⟩
  replace hbx := (hb2.block _ (Array.getElem?_eq_some_iff.1 hbx).1).trans hbx
  replace hB := hB.trans (hb2.mono hB.size)
  clear hb2 HI HO hK hl hx
  have d0 := cell_of_row _ _ 0 _ _ _ hbx
  have d1 := cell_of_row _ _ 1 _ _ _ hbx
  have d2 := cell_of_row _ _ 2 _ _ _ hbx
  replace C1 := cellB hB C1
  replace C2 := cellB hB C2
  replace S1 := cellB hB S1
  replace S2 := cellB hB S2
  replace R1 := cellB hB R1
  replace R2 := cellB hB R2
  have t1 : decide ((p : Int) < 0) = false := decide_eq_false (by omega)
  have t2 : decide ((N2 : Int) ≤ (p : Int)) = false := decide_eq_false (by omega)
  have t2b : decide (N2 ≤ p) = false := decide_eq_false (by omega)
  have t3 : decide ((i : Int) < 0) = false := decide_eq_false (by omega)
  have t4 : decide ((l1 : Int) ≤ (i : Int)) = false := decide_eq_false (by omega)
  have t4b : decide (l1 ≤ i) = false := decide_eq_false (by omega)
  have t5 : decide ((mid : Int) < 0) = false := decide_eq_false (by omega)
  have t6 : decide ((N2 : Int) ≤ (mid : Int)) = false := decide_eq_false (by omega)
  have t6b : decide (N2 ≤ mid) = false := decide_eq_false (by omega)
  have t7 : decide ((o : Int) < 0) = false := decide_eq_false (by omega)
  have t8 : decide ((l2 : Int) ≤ (o : Int)) = false := decide_eq_false (by omega)
  have t8b : decide (l2 ≤ o) = false := decide_eq_false (by omega)
  have t9 : decide ((tt : Int) < 0) = false := decide_eq_false (by omega)
  have t10 : decide ((N1 : Int) ≤ (tt : Int)) = false := decide_eq_false (by omega)
  have t10b : decide (N1 ≤ tt) = false := decide_eq_false (by omega)
  have t11 : decide ((N1 : Int) ≤ (mid : Int)) = false := decide_eq_false (by omega)
  have t11b : decide (N1 ≤ mid) = false := decide_eq_false (by omega)
  go_wp2
  refine wp_region_quiet_lit (by kernel_rfl) (by kernel_rfl) ?_
  ((repeat (go_big_quiet_step (fail))); refine wpQuiet_nil ?_; rintro _ ⟨nq, rfl⟩)
  go_wp2
  all_goals
    refine bodyPost_ret (results_tmp3 rfl _ _ _) rfl ?_
    first
    | exact ⟨rfl, hB.trans (below_draws _ _ _)⟩
    | (obtain rfl : pm = pt := by omega
       exact ⟨rfl, hB.trans (below_draws _ _ _)⟩)

end Go.Proofs.YtjadeffdcbchnaaDoor
