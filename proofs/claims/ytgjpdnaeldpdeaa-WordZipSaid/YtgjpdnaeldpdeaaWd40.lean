/- What Short and agree compute. -/
import Derived.Test.YtgjpdnaeldpdeaaWdHd
import Derived.Test.YtgjpdnaeldpdeaaWd6
namespace Go.Proofs.Ytgjpdnaeldpdeaa
open Go.RowKit

/-- Short enough for the reference. -/
def shortB (l : Ls) : Bool := decide (l.stem.length ≤ 80) && decide (l.loop.length ≤ 80)

set_option maxHeartbeats 1000000 in
theorem Short_c (w : World) (v : Value) (l : Ls) (hl : IsLs w v l) :
    Calls Try.prog 11 #[v] w (Calm (.bool (shortB l)) w) := by
  obtain ⟨v0, v1, rfl, h0, h1⟩ := hl
  obtain ⟨⟨a0, c0, b0, o0, rfl, g0⟩, -⟩ := h0
  obtain ⟨⟨a1, c1, b1, o1, rfl, g1⟩, -⟩ := h1
  have HR : Hid (shortB l = (decide (l.stem.length ≤ 80) && decide (l.loop.length ≤ 80))) := rfl
  generalize shortB l = r at *
  clear g0 g1
  generalize l.stem.length = n0 at *
  generalize l.loop.length = n1 at *
  have hb := bel_box (w := w) (Obj.cells #[Value.slice a0 n0 c0, Value.slice a1 n1 c1] 24)
  go_enter Try.func11, Try.ntmps11
  by_cases h0 : n0 ≤ 80
  · have k0 : (n0 : Int) ≤ 80 := by omega
    by_cases h1 : n1 ≤ 80
    · have k1 : (n1 : Int) ≤ 80 := by omega
      go_wp2
      go_ret
      exact ⟨ret_bool (by rw [HR.out, decide_eq_true h0, decide_eq_true h1]; rfl), hb⟩
    · have k1 : ¬ (n1 : Int) ≤ 80 := by omega
      go_wp2
      go_ret
      exact ⟨ret_bool (by rw [HR.out, decide_eq_true h0, decide_eq_false h1]; rfl), hb⟩
  · have k0 : ¬ (n0 : Int) ≤ 80 := by omega
    go_wp2
    go_ret
    exact ⟨ret_bool (by rw [HR.out, decide_eq_false h0]; rfl), hb⟩

/-- The letters of two words at the first places. -/
def agreeB (a b : Ls) (n : Nat) : Bool := (List.range n).all fun i => decide (atI a i = atI b i)
theorem agreeB_succ {a b : Ls} {k : Nat} (h : agreeB a b k = true) (he : atI a k = atI b k) : agreeB a b (k + 1) = true := by
  unfold agreeB at *
  rw [List.range_succ, List.all_append, h]
  simp [he]
theorem agreeB_no {a b : Ls} {k n : Nat} (hk : k < n) (he : ¬ atI a k = atI b k) : agreeB a b n = false := by
  unfold agreeB
  rw [List.all_eq_false]
  exact ⟨k, List.mem_range.2 hk, by simp [he]⟩

/-- A lasso in a box of its own, seen from every later world. -/
def BoxL (p : Nat) (x0 x1 : Value) (l : Ls) (w : World) : Prop :=
  ∀ W, Below w.heap.size w W → W.cell? ⟨p, 0, none⟩ = some x0 ∧ W.cell? ⟨p, 1, none⟩ = some x1 ∧ LV l (.agg #[x0, x1]) W
theorem BoxL.of {w : World} {p : Nat} {x0 x1 : Value} {l : Ls} {t : TypeId} (hr : w.heap[p]? = some (.cells #[x0, x1] t (0, 0))) (hl : IsLs w (.agg #[x0, x1]) l) : BoxL p x0 x1 l w := fun W hW => by
  have h := (hW.block _ (Array.getElem?_eq_some_iff.1 hr).1).trans hr
  exact ⟨cell_of_row _ _ 0 _ _ _ h, cell_of_row _ _ 1 _ _ _ h, LV.of (hl.below hW)⟩
theorem BoxL.below {w wr : World} {p : Nat} {x0 x1 : Value} {l : Ls} (h : BoxL p x0 x1 l w) (hb : Below w.heap.size w wr) : BoxL p x0 x1 l wr := fun W hW => h W (hb.trans (hW.mono hb.size))

/-- Two lassos given are boxed. -/
theorem boxTwo {w : World} {x0 x1 y0 y1 : Value} {a b : Ls} (ha : IsLs w (.agg #[x0, x1]) a) (hb : IsLs w (.agg #[y0, y1]) b) :
    BoxL w.heap.size x0 x1 a ((w.alloc (Obj.cells #[x0, x1] 24)).alloc (Obj.cells #[y0, y1] 24)) ∧ BoxL (w.heap.size + 1) y0 y1 b ((w.alloc (Obj.cells #[x0, x1] 24)).alloc (Obj.cells #[y0, y1] 24)) ∧ Below w.heap.size w ((w.alloc (Obj.cells #[x0, x1] 24)).alloc (Obj.cells #[y0, y1] 24)) := by
  have h1 := bel_box (w := w) (Obj.cells #[x0, x1] 24)
  have h2 := bel_box (w := w.alloc (Obj.cells #[x0, x1] 24)) (Obj.cells #[y0, y1] 24)
  have h3 := h1.trans (h2.mono h1.size)
  refine ⟨BoxL.of ((h2.block _ (by simp)).trans (heap_alloc_new w _)) (ha.below h3), BoxL.of (t := 24) ?_ (hb.below h3), h3⟩
  have := heap_alloc_new (w.alloc (Obj.cells #[x0, x1] 24)) (Obj.cells #[y0, y1] 24)
  rwa [World.size_alloc] at this

/-- What the operations of a drawn statement leave. -/
def RAg (a b : Ls) (k : Nat) (i : Nat) (v : Value) (W : World) : Prop :=
  match i with
  | 0 => LV (a) v W
  | 1 => v = .int .i64 (k : Int)
  | 2 => v = .int .i64 (atI a k)
  | 3 => LV (b) v W
  | 4 => v = .int .i64 (k : Int)
  | 5 => v = .int .i64 (atI b k)
  | 6 => v = .bool (atI a k != atI b k)
  | _ => True
theorem RAg.mono (a b : Ls) (k : Nat) (i : Nat) (v : Value) (W W' : World) (h : RAg a b k i v W) (hb : Below W.heap.size W W') : RAg a b k i v W' := by
  unfold RAg at *
  split at h <;> first | exact h | exact SL.below h hb | exact LV.below h hb | exact RV.below h hb

set_option maxHeartbeats 2000000 in
theorem agree_c (w : World) (va vb : Value) (a b : Ls) (n : Nat) (ha : IsLs w va a) (hb : IsLs w vb b) (hn : n ≤ 1000) :
    Calls Try.prog 31 #[va, vb, .int .i64 n] w (Calm (.bool (agreeB a b n)) w) := by
  have hmx : Try.prog.follows .mixedOrders = true := by kernel_rfl
  obtain ⟨v0, v1, rfl, h0, h1⟩ := ha
  obtain ⟨v2, v3, rfl, h2, h3⟩ := hb
  obtain ⟨b0, b1, hB⟩ := boxTwo (IsLs.mk h0 h1) (IsLs.mk h2 h3)
  have HA := Lib.hid b0
  have HB := Lib.hid b1
  obtain ⟨⟨a0, c0, -, -, rfl, -⟩, -⟩ := h0
  obtain ⟨⟨a1, c1, -, -, rfl, -⟩, -⟩ := h1
  obtain ⟨⟨a2, c2, -, -, rfl, -⟩, -⟩ := h2
  obtain ⟨⟨a3, c3, -, -, rfl, -⟩, -⟩ := h3
  have HB0 := Lib.hid hB
  clear b0 b1 hB
  go_enter Try.func31, Try.ntmps31
  go_upto_region 2 with (fail)
  generalize ((w.alloc (Obj.cells #[Value.slice a0 a.stem.length c0, Value.slice a1 a.loop.length c1] 24)).alloc (Obj.cells #[Value.slice a2 b.stem.length c2, Value.slice a3 b.loop.length c3] 24)) = w1 at *
  go_loopg [7] n (fun gh i wr => ∃ k : Nat, gh = n - k ∧ i = .int .i64 k ∧ k ≤ n ∧ Below w1.heap.size w1 wr ∧ Hid (agreeB a b k = true))
  case atStart => exact ⟨0, by omega, rfl, by omega, Below.refl _ _, rfl⟩
  case round =>
    obtain ⟨k, hgh, rfl, hk, hW, HK0⟩ := hrel
    by_cases hkn : k < n
    · have hki : (k : Int) < n := by omega
      go_upto_region 4 with (fail)
      have HI := Lib.hid (show I64 (k : Int) by unfold I64; omega)
      have HX := Lib.hid (fun (h : atI a k = atI b k) => agreeB_succ HK0.out h)
      have HN := Lib.hid (fun (h : ¬ atI a k = atI b k) => agreeB_no hkn h)
      clear HK0
      refine region_stable hmx (RAg a b k) (fun vs => { tmps := (_ :: _ :: _ :: _ :: _ :: _ :: _ :: _ :: _ :: _ :: _ :: _ :: _ :: vs 0 :: vs 1 :: vs 2 :: vs 3 :: vs 4 :: vs 5 :: vs 6 :: []).toArray, defers := [] }) (fun n => [u13, u14, u15, u16, u17, u18, u19].getD n undef) rfl (by kernel_rfl) (RAg.mono a b k) ?step ?fin
      case step =>
        intro i o ho
        match i, ho with
        | 0, ho =>
          obtain rfl := Option.some.inj ho
          intro vs W K hB hD hK
          have HK := Lib.hid hK
          have hc := hW.trans (((Below.drew (Below.refl _ _)).trans hB).mono hW.size)
          obtain ⟨k0, k1, hld⟩ := HA.out W hc
          clear hK hD ho
          dsimp only
          go_simp
          have h := HK.out _ _ (Below.refl _ _) hld
          simp only [upd, Nat.reduceEqDiff, reduceIte] at h
          exact h
        | 1, ho =>
          obtain rfl := Option.some.inj ho
          intro vs W K hB hD hK
          have HK := Lib.hid hK
          clear hK hD ho
          dsimp only
          go_simp
          have h := HK.out _ _ (Below.refl _ _) rfl
          simp only [upd, Nat.reduceEqDiff, reduceIte] at h
          exact h
        | 2, ho =>
          obtain rfl := Option.some.inj ho
          intro vs W K hB hD hK
          have HK := Lib.hid hK
          have d0 := dep_of hD 0 (by rfl)
          have e1 : vs 1 = .int .i64 (k : Int) := dep_of hD 1 (by rfl)
          clear hK hD ho
          dsimp only
          go_simp
          refine (hd_at W d0 HI.out rfl).mono ?_
          rintro e W' ⟨rfl, hb⟩
          have h := HK.out _ _ hb rfl
          simp only [upd, Nat.reduceEqDiff, reduceIte, e1] at h
          exact h
        | 3, ho =>
          obtain rfl := Option.some.inj ho
          intro vs W K hB hD hK
          have HK := Lib.hid hK
          have hc := hW.trans (((Below.drew (Below.refl _ _)).trans hB).mono hW.size)
          obtain ⟨k0, k1, hld⟩ := HB.out W hc
          clear hK hD ho
          dsimp only
          go_simp
          have h := HK.out _ _ (Below.refl _ _) hld
          simp only [upd, Nat.reduceEqDiff, reduceIte] at h
          exact h
        | 4, ho =>
          obtain rfl := Option.some.inj ho
          intro vs W K hB hD hK
          have HK := Lib.hid hK
          clear hK hD ho
          dsimp only
          go_simp
          have h := HK.out _ _ (Below.refl _ _) rfl
          simp only [upd, Nat.reduceEqDiff, reduceIte] at h
          exact h
        | 5, ho =>
          obtain rfl := Option.some.inj ho
          intro vs W K hB hD hK
          have HK := Lib.hid hK
          have d3 := dep_of hD 3 (by rfl)
          have e4 : vs 4 = .int .i64 (k : Int) := dep_of hD 4 (by rfl)
          clear hK hD ho
          dsimp only
          go_simp
          refine (hd_at W d3 HI.out rfl).mono ?_
          rintro e W' ⟨rfl, hb⟩
          have h := HK.out _ _ hb rfl
          simp only [upd, Nat.reduceEqDiff, reduceIte, e4] at h
          exact h
        | 6, ho =>
          obtain rfl := Option.some.inj ho
          intro vs W K hB hD hK
          have HK := Lib.hid hK
          have e2 : vs 2 = .int .i64 (atI a k) := dep_of hD 2 (by rfl)
          have e5 : vs 5 = .int .i64 (atI b k) := dep_of hD 5 (by rfl)
          clear hK hD ho
          dsimp only
          go_simp
          have h := HK.out _ _ (Below.refl _ _) rfl
          simp only [upd, Nat.reduceEqDiff, reduceIte, e2, e5] at h
          exact h
        | n + 7, ho => simp at ho
      case fin =>
        intro vs W hB hall
        have e6 : vs 6 = .bool (atI a k != atI b k) := hall 6 (by decide)
        have hW2 := hW.trans (((Below.drew (Below.refl _ _)).trans hB).mono hW.size)
        clear hall hB hW
        generalize vs 0 = q0
        generalize vs 1 = q1
        generalize vs 2 = q2
        generalize vs 3 = q3
        generalize vs 4 = q4
        generalize vs 5 = q5
        rw [e6]
        clear e6 vs
        by_cases he : atI a k = atI b k
        · have H1 := Lib.hid (HX.out he)
          rw [show (atI a k != atI b k) = false by simp [he]]
          clear HX HN he
          go_wp2
          go_roundg (n - (k + 1))
          case rel => exact ⟨k + 1, rfl, by go_num, by omega, hW2, H1⟩
          case measure => omega
        · have H1 := Lib.hid (HN.out he)
          rw [show (atI a k != atI b k) = true by simp [he]]
          clear HX HN he
          go_wp2
          go_ret
          exact ⟨ret_bool H1.out.symm, HB0.out.trans (hW2.mono HB0.out.size)⟩
    · obtain rfl : k = n := by omega
      go_wp2
      go_ret
      exact ⟨ret_bool HK0.out.symm, HB0.out.trans (hW.mono HB0.out.size)⟩

end Go.Proofs.Ytgjpdnaeldpdeaa
