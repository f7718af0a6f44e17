/- What the reference's Zip computes. -/
import Derived.Test.YtgjpdnaeldpdeaaWd23
import Derived.Test.YtgjpdnaeldpdeaaWd25
import Derived.Test.YtgjpdnaeldpdeaaWd26
import Derived.Test.YtgjpdnaeldpdeaaWd33
import Derived.Test.YtgjpdnaeldpdeaaWd8
import Derived.Deep.CutBlock
namespace Go.Proofs.Ytgjpdnaeldpdeaa
open Go.RowKit

/-- The three blocks at the start: two lassos and the result. -/
def WABR (w : World) (a0 a1 a2 a3 : Option Addr) (m0 m1 m2 m3 c0 c1 c2 c3 : Nat) : World :=
  (WAB w a0 a1 a2 a3 m0 m1 m2 m3 c0 c1 c2 c3).alloc (Obj.cells #[Value.slice none 0 0, Value.slice none 0 0] 24)
theorem wabr (w : World) (a0 a1 a2 a3 : Option Addr) (m0 m1 m2 m3 c0 c1 c2 c3 : Nat) :
    Below w.heap.size w (WABR w a0 a1 a2 a3 m0 m1 m2 m3 c0 c1 c2 c3) ∧ (WABR w a0 a1 a2 a3 m0 m1 m2 m3 c0 c1 c2 c3).heap[w.heap.size]? = some (.cells #[.slice a0 m0 c0, .slice a1 m1 c1] 24 (0, 0)) ∧
      (WABR w a0 a1 a2 a3 m0 m1 m2 m3 c0 c1 c2 c3).heap[w.heap.size + 1]? = some (.cells #[.slice a2 m2 c2, .slice a3 m3 c3] 24 (0, 0)) ∧ (WABR w a0 a1 a2 a3 m0 m1 m2 m3 c0 c1 c2 c3).heap[w.heap.size + 2]? = some (.cells #[.slice none 0 0, .slice none 0 0] 24 (0, 0)) := by
  refine ⟨belA (belA (bel_box _) _) _, ?_, ?_, ?_⟩
  · exact (heap_alloc_old _ _ (by simp [WAB]; omega)).trans ((heap_alloc_old _ _ (by simp)).trans (heap_alloc_new _ _))
  · refine (heap_alloc_old _ _ (by simp [WAB])).trans ?_
    have := heap_alloc_new (w.alloc (Obj.cells #[Value.slice a0 m0 c0, Value.slice a1 m1 c1] 24)) (Obj.cells #[Value.slice a2 m2 c2, Value.slice a3 m3 c3] 24)
    rw [World.size_alloc] at this
    exact this
  · have := heap_alloc_new (WAB w a0 a1 a2 a3 m0 m1 m2 m3 c0 c1 c2 c3) (Obj.cells #[Value.slice none 0 0, Value.slice none 0 0] 24)
    rw [WAB, World.size_alloc, World.size_alloc] at this
    exact this

set_option maxRecDepth 100000 in
set_option maxHeartbeats 4000000 in
theorem RZip_c (w : World) (va vb vt : Value) (a b : Ls) (t : List (List Int)) (ha : IsLs w va a) (hb : IsLs w vb b) (ht : IsRows w vt t) :
    Calls Try.prog 29 #[va, vb, vt] w (NewL (zipI a b t) w) := by
  have HFA := Lib.hid (fun (W : World) (hW : Below w.heap.size w W) => RFormed_c W va a (ha.below hW))
  have HFB := Lib.hid (fun (W : World) (hW : Below w.heap.size w W) => RFormed_c W vb b (hb.below hW))
  obtain ⟨V, ⟨aT, cT, bT, oT, rfl, gT⟩, hRow⟩ := ht
  have hnT := gT.nb
  have HRow := Lib.hid (fun k (hk : k < t.length) => hRow k hk)
  have HGet := Lib.hid (fun k (hk : k < t.length) => gT.el k hk)
  have HAd := Lib.hid gT.ad
  clear gT hRow
  by_cases fa : formB a = true
  case neg =>
    rw [Bool.not_eq_true] at fa
    have HR := Lib.hid (zipI_l (b := b) (t := t) fa)
    rw [fa] at HFA
    obtain ⟨v0, v1, rfl, h0, h1⟩ := ha
    obtain ⟨⟨a0, c0, b0, o0, rfl, g0⟩, -⟩ := h0
    obtain ⟨⟨a1, c1, b1, o1, rfl, g1⟩, -⟩ := h1
    obtain ⟨v2, v3, rfl, h2, h3⟩ := hb
    obtain ⟨⟨a2, c2, b2, o2, rfl, g2⟩, -⟩ := h2
    obtain ⟨⟨a3, c3, b3, o3, rfl, g3⟩, -⟩ := h3
    clear g0 g1 g2 g3 fa HFB HRow HGet HAd
    generalize zipI a b t = r at *
    go_enter Try.func29, Try.ntmps29
    go_upto_region 1 with (fail)
    obtain ⟨hB0, rA, rB, rR⟩ := wabr w a0 a1 a2 a3 a.stem.length a.loop.length b.stem.length b.loop.length c0 c1 c2 c3
    change Code.wp _ _ _ _ (WABR w a0 a1 a2 a3 a.stem.length a.loop.length b.stem.length b.loop.length c0 c1 c2 c3)
    generalize WABR w a0 a1 a2 a3 a.stem.length a.loop.length b.stem.length b.loop.length c0 c1 c2 c3 = w1 at *
    obtain ⟨p0, p1, -, -⟩ := boxF rA
    go_wp2_with fail
    refine (HFA.out _ hB0).mono ?_
    rintro e w2 ⟨rfl, hb2⟩
    have hB := hB0.trans (hb2.mono hB0.size)
    have HC := Lib.hid ((hb2.block _ (Array.getElem?_eq_some_iff.1 rR).1).trans rR)
    obtain ⟨x0, x1, y0, y1⟩ := boxF HC.out
    clear rA rB rR p0 p1 hb2
    go_wp2_with fail
    (have hc3 := two_set (a := .slice none 0 0) (b := .slice none 0 0) HC.out); (have cc0 := cell_of_row _ _ 0 _ _ _ hc3); (have cc1 := cell_of_row _ _ 1 _ _ _ hc3); (refine bodyPost_ret (v := .agg #[.slice none 0 0, .slice none 0 0]) (by simp [results, Try.results29, go_sem, cc0, cc1]) rfl ?_)
    rw [HR.out]
    exact zeroEnd hB (by omega)
  by_cases fb : formB b = true
  case neg =>
    rw [Bool.not_eq_true] at fb
    have HR := Lib.hid (zipI_r (a := a) (t := t) fb)
    rw [fa] at HFA
    rw [fb] at HFB
    obtain ⟨v0, v1, rfl, h0, h1⟩ := ha
    obtain ⟨⟨a0, c0, b0, o0, rfl, g0⟩, -⟩ := h0
    obtain ⟨⟨a1, c1, b1, o1, rfl, g1⟩, -⟩ := h1
    obtain ⟨v2, v3, rfl, h2, h3⟩ := hb
    obtain ⟨⟨a2, c2, b2, o2, rfl, g2⟩, -⟩ := h2
    obtain ⟨⟨a3, c3, b3, o3, rfl, g3⟩, -⟩ := h3
    clear g0 g1 g2 g3 fa fb HRow HGet HAd
    generalize zipI a b t = r at *
    go_enter Try.func29, Try.ntmps29
    go_upto_region 1 with (fail)
    obtain ⟨hB0, rA, rB, rR⟩ := wabr w a0 a1 a2 a3 a.stem.length a.loop.length b.stem.length b.loop.length c0 c1 c2 c3
    change Code.wp _ _ _ _ (WABR w a0 a1 a2 a3 a.stem.length a.loop.length b.stem.length b.loop.length c0 c1 c2 c3)
    generalize WABR w a0 a1 a2 a3 a.stem.length a.loop.length b.stem.length b.loop.length c0 c1 c2 c3 = w1 at *
    obtain ⟨p0, p1, -, -⟩ := boxF rA
    go_wp2_with fail
    refine (HFA.out _ hB0).mono ?_
    rintro e w2 ⟨rfl, hb2⟩
    have hB := hB0.trans (hb2.mono hB0.size)
    have HC := Lib.hid ((hb2.block _ (Array.getElem?_eq_some_iff.1 rR).1).trans rR)
    obtain ⟨q0, q1, -, -⟩ := boxF ((hb2.block _ (Array.getElem?_eq_some_iff.1 rB).1).trans rB)
    clear rA rB rR p0 p1 hb2
    go_wp2_with fail
    refine (HFB.out _ hB).mono ?_
    rintro e w3 ⟨rfl, hb3⟩
    have HC3 := Lib.hid ((hb3.block _ (Array.getElem?_eq_some_iff.1 HC.out).1).trans HC.out)
    have hB3 := hB.trans (hb3.mono hB.size)
    obtain ⟨x0, x1, y0, y1⟩ := boxF HC3.out
    clear q0 q1 hb3
    go_wp2_with fail
    (have hc3 := two_set (a := .slice none 0 0) (b := .slice none 0 0) HC3.out); (have cc0 := cell_of_row _ _ 0 _ _ _ hc3); (have cc1 := cell_of_row _ _ 1 _ _ _ hc3); (refine bodyPost_ret (v := .agg #[.slice none 0 0, .slice none 0 0]) (by simp [results, Try.results29, go_sem, cc0, cc1]) rfl ?_)
    rw [HR.out]
    exact zeroEnd hB3 (by omega)
  obtain ⟨s1, s2, s3⟩ := formB_short fa
  obtain ⟨t1, t2, t3⟩ := formB_short fb
  have hn0 : 0 < a.loop.length * b.loop.length := Nat.mul_pos (by omega) (by omega)
  have hn1 : a.loop.length * b.loop.length ≤ 1600 := Nat.mul_le_mul s3 t3
  have HYes : Hid (zipAll a b t (a.loop.length * b.loop.length) = true → zipI a b t = shortL (zipN a b t (a.loop.length * b.loop.length))) := fun h => zipI_yes fa fb hn0 (Nat.mul_mod_right _ _) (Nat.mul_mod_left _ _) h
  have HNo : Hid (∀ i, i < zipS a b + a.loop.length * b.loop.length → zipOk a b t i = false → zipI a b t = zeroL) := fun i hi h => zipI_no fa fb hn0 (Nat.mul_mod_right _ _) (Nat.mul_mod_left _ _) (zip_bad hi h)
  have HGood : Hid ((∀ i, i < zipS a b + a.loop.length * b.loop.length → zipOk a b t i = true) → zipAll a b t (a.loop.length * b.loop.length) = true) := fun h => zip_good h
  have HAtA := Lib.hid (fun (W : World) (hW : Below w.heap.size w W) (k : Nat) (hk : k ≤ 10000) => Rat_c W va a k (ha.below hW) (form_pos fa) (by unfold I64; omega))
  have HAtB := Lib.hid (fun (W : World) (hW : Below w.heap.size w W) (k : Nat) (hk : k ≤ 10000) => Rat_c W vb b k (hb.below hW) (form_pos fb) (by unfold I64; omega))
  have HLA := Lib.hid (fun i => letters_nat fa i)
  have HLB := Lib.hid (fun i => letters_nat fb i)
  have hS : zipS a b ≤ 60 := Nat.max_le.2 ⟨s1, t1⟩
  have hmax : max (a.stem.length : Int) (b.stem.length : Int) = ((zipS a b : Nat) : Int) := by unfold zipS; omega
  have hmul : (a.loop.length : Int) * (b.loop.length : Int) = ((a.loop.length * b.loop.length : Nat) : Int) := by rw [Int.natCast_mul]
  have hwm : IntKind.i64.wrap ((a.loop.length * b.loop.length : Nat) : Int) = ((a.loop.length * b.loop.length : Nat) : Int) := IntWalk.i64_in _ ⟨by omega, by omega⟩
  have HSt : Hid (∀ W v, IsLs W v (zipN a b t (a.loop.length * b.loop.length)) → Calls Try.prog 40 #[v] W (NewT (normL (zipN a b t (a.loop.length * b.loop.length))) W)) := fun W v h => (Shortest_c W v _ h (by simpa [zipN] using hn0) (by simp [zipN]; omega) (by simp [zipN]; omega)).mono fun e w' h => h.t
  have HG : Hid (∀ W v, IsLs W v (normL (zipN a b t (a.loop.length * b.loop.length))) → Calls Try.prog 46 #[v] W (NewT (shortL (zipN a b t (a.loop.length * b.loop.length))) W)) := fun W v h => (Rformed_c W v _ h).mono fun e w' h => by
    have e2 : formedL (normL (zipN a b t (a.loop.length * b.loop.length))) = shortL (zipN a b t (a.loop.length * b.loop.length)) := rfl
    rw [e2] at h; exact h.t
  rw [fa] at HFA
  rw [fb] at HFB
  obtain ⟨v0, v1, rfl, h0, h1⟩ := ha
  obtain ⟨⟨a0, c0, b0, o0, rfl, g0⟩, -⟩ := h0
  obtain ⟨⟨a1, c1, b1, o1, rfl, g1⟩, -⟩ := h1
  obtain ⟨v2, v3, rfl, h2, h3⟩ := hb
  obtain ⟨⟨a2, c2, b2, o2, rfl, g2⟩, -⟩ := h2
  obtain ⟨⟨a3, c3, b3, o3, rfl, g3⟩, -⟩ := h3
  clear g0 g1 g2 g3 fa fb
  have HSplit := Lib.hid (zipT_split a b t (a.loop.length * b.loop.length))
  generalize zipI a b t = r at *
  generalize zipS a b = S at *
  generalize a.loop.length * b.loop.length = n at *
  generalize shortL (zipN a b t n) = sl at *
  generalize normL (zipN a b t n) = nl at *
  go_enter Try.func29, Try.ntmps29
  go_upto_region 1 with (fail)
  obtain ⟨hB0, rA, rB, rR⟩ := wabr w a0 a1 a2 a3 a.stem.length a.loop.length b.stem.length b.loop.length c0 c1 c2 c3
  change Code.wp _ _ _ _ (WABR w a0 a1 a2 a3 a.stem.length a.loop.length b.stem.length b.loop.length c0 c1 c2 c3)
  generalize WABR w a0 a1 a2 a3 a.stem.length a.loop.length b.stem.length b.loop.length c0 c1 c2 c3 = w1 at *
  obtain ⟨p0, p1, -, -⟩ := boxF rA
  go_wp2_with fail
  refine (HFA.out _ hB0).mono ?_
  rintro e w2 ⟨rfl, hb2⟩
  have hB2 := hB0.trans (hb2.mono hB0.size)
  replace rA := (hb2.block _ (Array.getElem?_eq_some_iff.1 rA).1).trans rA
  replace rB := (hb2.block _ (Array.getElem?_eq_some_iff.1 rB).1).trans rB
  replace rR := (hb2.block _ (Array.getElem?_eq_some_iff.1 rR).1).trans rR
  clear hb2 p0 p1
  obtain ⟨q0, q1, -, -⟩ := boxF rB
  go_wp2_with fail
  refine (HFB.out _ hB2).mono ?_
  rintro e w3 ⟨rfl, hb3⟩
  have hB3 := hB2.trans (hb3.mono hB2.size)
  replace rA := (hb3.block _ (Array.getElem?_eq_some_iff.1 rA).1).trans rA
  replace rB := (hb3.block _ (Array.getElem?_eq_some_iff.1 rB).1).trans rB
  have HRR := Lib.hid ((hb3.block _ (Array.getElem?_eq_some_iff.1 rR).1).trans rR)
  clear hb3 q0 q1 rR hB0 hB2
  obtain ⟨p0, p1, -, -⟩ := boxF rA
  obtain ⟨q0, q1, -, -⟩ := boxF rB
  go_upto_region 3 with (fail)
  go_cut [7] (fun v wx => w3 = wx ∧ v = .int .i64 (S : Nat))
  case first =>
    go_wp2_with fail
    all_goals
      go_meet
      case rel => exact ⟨rfl, by congr 1; omega⟩
  case rest =>
    obtain ⟨rfl, rfl⟩ := hcut
    clear hmax
    go_upto_block 0 with (fail)
    clear hmul hwm p0 p1 q0 q1
    go_wp2_with fail
    go_loopg [9, 10] (S + n) (fun gh s i wr => ∃ k : Nat, gh = S + n - k ∧ i = .int .i64 k ∧ k ≤ S + n ∧ Hid (OI wr w3.heap.size s (zipT a b t k)) ∧ Hid (∀ i, i < k → zipOk a b t i = true) ∧ Below w3.heap.size w3 wr)
    case atStart => exact ⟨0, by omega, rfl, by omega, OI_nil _ _, fun i hi => by omega, Below.refl _ _⟩
    case round =>
      obtain ⟨k, rfl, rfl, hk, HO, HA, hc⟩ := hrel
      have hB := hB3.trans (hc.mono hB3.size)
      have sA := (hc.block _ (Array.getElem?_eq_some_iff.1 rA).1).trans rA
      have sB := (hc.block _ (Array.getElem?_eq_some_iff.1 rB).1).trans rB
      by_cases hlt : k < S + n
      · obtain ⟨x, hx, hx64⟩ := HLA.out k
        obtain ⟨y, hy, hy64⟩ := HLB.out k
        obtain ⟨p0, p1, -, -⟩ := boxF sA
        have HX : Hid (∀ W, Below w.heap.size w W → Calls Try.prog 37 #[.agg #[.slice a0 a.stem.length c0, .slice a1 a.loop.length c1], .int .i64 (k : Int)] W (Calm (.int .i64 (x : Int)) W)) := fun W hW => by rw [← hx]; exact HAtA.out W hW k (by omega)
        have HY : Hid (∀ W, Below w.heap.size w W → Calls Try.prog 37 #[.agg #[.slice a2 b.stem.length c2, .slice a3 b.loop.length c3], .int .i64 (k : Int)] W (Calm (.int .i64 (y : Int)) W)) := fun W hW => by rw [← hy]; exact HAtB.out W hW k (by omega)
        have HOk : Hid (zipOk a b t k = (decide (x < t.length) && decide (y < (t.getD x []).length) && letB ((t.getD x []).getD y 0))) := by show _ = _; unfold zipOk zipW; rw [hx, hy]; rfl
        have HW : Hid (zipW a b t k = (t.getD x []).getD y 0) := by show _ = _; unfold zipW; rw [hx, hy]; rfl
        clear hx hy
        have hlt2 : (k : Int) < (S : Int) + n := by omega
        go_wp2_with fail
        refine (HX.out _ hB).mono ?_
        rintro e w4 ⟨rfl, hb4⟩
        have hB4 := hB.trans (hb4.mono hB.size)
        have hc4 := hc.trans (hb4.mono hc.size)
        have HO4 := Lib.hid (HO.out.below hb4)
        replace sB := (hb4.block _ (Array.getElem?_eq_some_iff.1 sB).1).trans sB
        clear hb4 p0 p1 sA HO hB hc HX
        obtain ⟨q0, q1, -, -⟩ := boxF sB
        go_wp2_with fail
        refine (HY.out _ hB4).mono ?_
        rintro e w5 ⟨rfl, hb5⟩
        have hB5 := hB4.trans (hb5.mono hB4.size)
        have hc5 := hc4.trans (hb5.mono hc4.size)
        have HO5 := Lib.hid (HO4.out.below hb5)
        clear hb5 q0 q1 sB HO4 hB4 hc4 HY
        have HRR5 := Lib.hid ((hc5.block _ (Array.getElem?_eq_some_iff.1 HRR.out).1).trans HRR.out)
        have HBad : Hid (zipOk a b t k = false → r = zeroL) := fun h => HNo.out k hlt h
        by_cases hxt : x < t.length
        · obtain rfl := HAd.out (by omega)
          have e1 := cellB hB5 (HGet.out x hxt)
          have hrow := (HRow.out x hxt).below hB5
          obtain ⟨⟨ar, cr, br, ro, hv, gr⟩, rr⟩ := hrow
          rw [hv] at e1
          have hnr := gr.nb
          have HG5 := Lib.hid gr
          have HI5 := Lib.hid rr
          have d1 : decide (t.length ≤ x) = false := decide_eq_false (by omega)
          clear hv gr rr
          generalize t.getD x [] = row at *
          by_cases hyt : y < row.length
          · obtain rfl := HG5.out.ad (by omega)
            have e2 := HG5.out.el y hyt
            unfold ivF at e2
            have d2 : decide (row.length ≤ y) = false := decide_eq_false (by omega)
            have hOk : Hid (zipOk a b t k = letB (row.getD y 0)) := by show _ = _; rw [HOk.out, decide_eq_true hxt, decide_eq_true hyt]; rfl
            clear HOk
            generalize row.getD y 0 = z at *
            go_wp2_with fail
            refine (Letter_c _ z).mono ?_
            rintro e w6 ⟨rfl, rfl⟩
            cases hz : letB z
            · have HZ : Hid (r = zeroL) := HBad.out (by rw [hOk.out, hz])
              clear hz
              obtain ⟨x0, x1, y0, y1⟩ := boxF HRR5.out
              go_wp2_with fail
              (have hc3 := two_set (a := .slice none 0 0) (b := .slice none 0 0) HRR5.out); (have cc0 := cell_of_row _ _ 0 _ _ _ hc3); (have cc1 := cell_of_row _ _ 1 _ _ _ hc3); (refine bodyPost_ret (v := .agg #[.slice none 0 0, .slice none 0 0]) (by simp [results, Try.results29, go_sem, cc0, cc1]) rfl ?_)
              rw [HZ.out]
              exact zeroEnd hB5 (by omega)
            · have HA2 : Hid (∀ i, i < k + 1 → zipOk a b t i = true) := fun i hi => by
                rcases Nat.lt_or_ge i k with h | h
                · exact HA.out i h
                · obtain rfl : i = k := by omega
                  rw [hOk.out, hz]
              have HS := Lib.hid (zipT_succ a b t k)
              rw [HW.out] at HS
              have HL := Lib.hid (zipT_len a b t k)
              have hz5 := hc5.size
              clear hz hOk HBad HRR5
              go_wp2_with (at_builtin; refine app_int rfl _ _ z rfl w3.heap.size _ _ HO5.out rfl _ (by simp) rfl (by rw [HL.out]; omega) hz5 ?_; intro v' w' hown' hg hmv; have HO6 := Lib.hid hown'; have HC6 := Lib.hid (hc5.grown hg hz5 (fun g h => HO5.out.ge g h)); clear hown' hg hmv)
              go_roundg (S + n - (k + 1))
              case rel => exact ⟨k + 1, by omega, by go_num, by omega, by rw [HS.out]; exact HO6, HA2, HC6.out⟩
              case measure => omega
          · have d2 : decide (row.length ≤ y) = true := decide_eq_true (by omega)
            have HZ : Hid (r = zeroL) := HBad.out (by rw [HOk.out, decide_eq_true hxt, decide_eq_false hyt]; rfl)
            obtain ⟨x0, x1, y0, y1⟩ := boxF HRR5.out
            go_wp2_with fail
            (have hc3 := two_set (a := .slice none 0 0) (b := .slice none 0 0) HRR5.out); (have cc0 := cell_of_row _ _ 0 _ _ _ hc3); (have cc1 := cell_of_row _ _ 1 _ _ _ hc3); (refine bodyPost_ret (v := .agg #[.slice none 0 0, .slice none 0 0]) (by simp [results, Try.results29, go_sem, cc0, cc1]) rfl ?_)
            rw [HZ.out]
            exact zeroEnd hB5 (by omega)
        · have d1 : decide (t.length ≤ x) = true := decide_eq_true (by omega)
          have HZ : Hid (r = zeroL) := HBad.out (by rw [HOk.out, decide_eq_false hxt]; rfl)
          obtain ⟨x0, x1, y0, y1⟩ := boxF HRR5.out
          go_wp2_with fail
          (have hc3 := two_set (a := .slice none 0 0) (b := .slice none 0 0) HRR5.out); (have cc0 := cell_of_row _ _ 0 _ _ _ hc3); (have cc1 := cell_of_row _ _ 1 _ _ _ hc3); (refine bodyPost_ret (v := .agg #[.slice none 0 0, .slice none 0 0]) (by simp [results, Try.results29, go_sem, cc0, cc1]) rfl ?_)
          rw [HZ.out]
          exact zeroEnd hB5 (by omega)
      · obtain rfl : k = S + n := by omega
        have HX := Lib.hid (HYes.out (HGood.out HA.out))
        have HRR5 := Lib.hid ((hc.block _ (Array.getElem?_eq_some_iff.1 HRR.out).1).trans HRR.out)
        have hlen := zipT_len a b t (S + n)
        have HL := Lib.hid hlen
        have hO := HO.out
        obtain ⟨gq, cq, hv, -, -⟩ := hO.row (by rw [hlen]; omega)
        rw [hlen] at hv
        subst hv
        have hZ64 : ∀ x ∈ zipT a b t (S + n), I64 x := fun x hx => by
          obtain ⟨j, hj, rfl⟩ := List.mem_map.1 hx
          have := HA.out j (List.mem_range.1 hj)
          rw [zipOk_in, Bool.and_eq_true] at this
          exact letB_I64 this.2
        have hIs := hO.is (by rw [hlen]; unfold maxN; omega) hZ64
        obtain ⟨⟨ao, cq', bq, oq, hv, gq'⟩, rq⟩ := hIs
        rw [hlen] at hv
        obtain ⟨rfl, rfl⟩ : some ⟨gq, 0, none⟩ = ao ∧ cq = cq' := by simpa using hv
        have hHead := IsInts.take gq' rq S (by rw [hlen]; omega)
        have hTail := IsInts.drop gq' rq S (by rw [hlen]; omega)
        have had := gq'.ad (by rw [hlen]; omega)
        obtain ⟨rfl, rfl⟩ : gq = bq ∧ 0 = oq := by simpa using had
        have hcq := gq'.lc
        rw [hlen] at hcq hTail
        rw [show S + n - S = n by omega, Nat.zero_add] at hTail
        have HHead := Lib.hid hHead
        have HTail := Lib.hid hTail
        clear hlen hO hv hZ64 gq' rq hHead hTail had HA HLA HLB HAtA HAtB HFA HFB hk hlt sA sB rA rB
        have k1 : S ≤ cq := by omega
        have k2 : (S : Int) ≤ cq := by omega
        have k3 : ¬ cq = S := by omega
        have k4 : (S : Int) ≤ (S : Int) + n := by omega
        have k5 : S ≤ S + n := by omega
        have k6 : S + n - S = n := by omega
        have HLs : Hid (∀ W, Below wr.heap.size wr W → IsLs W (.agg #[.slice (some ⟨gq, 0, none⟩) S cq, .slice (some ⟨gq, S, none⟩) n (cq - S)]) (zipN a b t n)) := fun W hW => by
          rw [← HSplit.out]
          exact IsLs.mk (HHead.out.below hW) (HTail.out.below hW)
        have hz2 := (Array.getElem?_eq_some_iff.1 HRR5.out).1
        clear HNo HYes HGood HHead HTail HO HRR hc hB3 HSplit
        go_wp2_with fail
        go_region_with (first | (go_at_call 40; refine (HSt.out _ _ (HLs.out _ (by repeat (first | exact Below.refl _ _ | assumption | (refine belA ?_ _) | (refine belD ?_ _) | (refine Below.drew ?_))))).mono ?_; rintro e w4 ⟨a4, k4, a3, k3, rfl, i3, i4, b4⟩; have z4 : Below wr.heap.size wr w4 := (by first | exact b4 | exact (Below.drew (Below.refl _ _)).trans b4)) | (go_at_call 46; refine (HG.out _ _ (IsLs.mk i3.out i4.out)).mono ?_; rintro e w5 ⟨a5, k5, a6, k6, rfl, i5, i6, b5⟩; have z5 : Below wr.heap.size wr w5 := z4.trans (b5.mono z4.size); have HC := Lib.hid ((z5.block _ hz2).trans HRR5.out); obtain ⟨x0, x1, y0, y1⟩ := boxF HC.out))
        all_goals
          have hB5 := hB.trans (z5.mono hB.size)
          go_wp2_with fail
          (have hc3 := two_set (a := .slice a5 sl.stem.length k5) (b := .slice a6 sl.loop.length k6) HC.out); (have cc0 := cell_of_row _ _ 0 _ _ _ hc3); (have cc1 := cell_of_row _ _ 1 _ _ _ hc3); (refine bodyPost_ret (v := .agg #[.slice a5 sl.stem.length k5, .slice a6 sl.loop.length k6]) (by simp [results, Try.results29, go_sem, cc0, cc1]) rfl ?_)
          rw [HX.out]
          exact lsEnd HC.out i5.out i6.out hB5 (by omega)

end Go.Proofs.Ytgjpdnaeldpdeaa
