/- What normal computes. -/
import Derived.Test.YtgjpdnaeldpdeaaWd11
import Derived.Deep.RegionHeld3
namespace Go.Proofs.Ytgjpdnaeldpdeaa
open Go.RowKit

theorem two_set {wr : World} {n : Nat} {t : TypeId} {x y a b : Value} (h : wr.heap[n]? = some (.cells #[x, y] t (0, 0))) : ((wr.setCell ⟨n, 0, none⟩ a).setCell ⟨n, 1, none⟩ b).heap[n]? = some (.cells #[a, b] t (0, 0)) :=
  heap_setCell_same _ n 1 _ _ b (heap_setCell_same _ n 0 _ _ a h)
theorem below_two {w wr : World} {n : Nat} {a b : Value} (h : Below w.heap.size w wr) (hn : w.heap.size ≤ n) : Below w.heap.size w ((wr.setCell ⟨n, 0, none⟩ a).setCell ⟨n, 1, none⟩ b) :=
  (h.setCell hn _).setCell hn _
theorem ints_nil (w : World) : IsInts w (.slice none 0 0) [] := ⟨⟨none, 0, 0, 0, rfl, Nat.le_refl _, Nat.zero_le _, Nat.zero_le _, fun _ => rfl, (fun h => absurd h (by simp)), fun j hj => absurd hj (by simp)⟩, by simp⟩

/-- A store over a value that is no number. -/
theorem IsInts.setOther {w : World} {v u x : Value} {l : List Int} {a : Addr} (h : IsInts w v l) (hx : w.cell? a = some x) (hne : ∀ k n, x ≠ .int k n) : IsInts (w.setCell a u) v l := by
  obtain ⟨⟨ao, cap, b, off, rfl, g⟩, r⟩ := h
  refine ⟨⟨ao, cap, b, off, rfl, ⟨g.lc, g.cm, g.nm, g.nc, g.ad, fun j hj => ?_⟩⟩, r⟩
  have e := g.el j hj
  rw [World.cell?_setCell_other _ _ _ _ (fun he => ?_)]
  · exact e
  · rw [← he, hx] at e
    exact hne _ _ (Option.some.inj e)
theorem IsInts.setTwo {w : World} {v p q : Value} {l : List Int} {n : Nat} {t : TypeId} {ao bo : Option Addr} {m1 m2 c1 c2 : Nat} (h : IsInts w v l) (hx : w.heap[n]? = some (.cells #[.slice ao m1 c1, .slice bo m2 c2] t (0, 0))) : IsInts ((w.setCell ⟨n, 0, none⟩ p).setCell ⟨n, 1, none⟩ q) v l := by
  have h0 := h.setOther (u := p) (cell_of_row w n 0 _ _ _ hx) (fun _ _ e => by cases e)
  exact h0.setOther (cell_of_row _ n 1 _ _ _ (heap_setCell_same _ n 0 _ _ p hx)) (fun _ _ e => by cases e)

/-- A list made for the call, its slice in view. -/
def NewS (n : Nat) (l : List Int) (w : World) (e : Ending) (w' : World) : Prop := ∃ ao cap, e = .returned (.slice ao n cap) ∧ Hid (IsInts w' (.slice ao n cap) l) ∧ Below w.heap.size w w'
theorem NewN.sl {n : Nat} {l : List Int} {w w' : World} {e : Ending} (h : NewN l w e w') (hn : l.length = n) : NewS n l w e w' := by
  obtain ⟨v, rfl, hi, hb⟩ := h
  have hi2 := hi
  obtain ⟨⟨ao, cap, b, off, rfl, g⟩, r⟩ := hi
  subst hn
  exact ⟨ao, cap, rfl, hi2, hb⟩

set_option maxRecDepth 100000 in
set_option maxHeartbeats 4000000 in
theorem normal_c (w : World) (v : Value) (l : Ls) (hl : IsLs w v l) (hp : 0 < l.loop.length) (hls : l.stem.length ≤ 100000) (hll : l.loop.length ≤ 100000) :
    Calls Try.prog 39 #[v] w (NewL (normL l) w) := by
  obtain ⟨v0, v1, rfl, h0, h1⟩ := hl
  obtain ⟨p1, p2, _, _⟩ := perL_spec hp
  have HPer := Lib.hid (fun (W : World) (hW : Below w.heap.size w W) => period_c W v1 l.loop (h1.below hW) hp hll)
  obtain ⟨⟨a0, c0, b0, o0, rfl, g0⟩, r0⟩ := h0
  obtain ⟨⟨a1, c1, b1, o1, rfl, g1⟩, r1⟩ := h1
  have hn0 := g0.nb
  have hn1 := g1.nb
  have HA1 := Lib.hid (g1.ad hp)
  have hc1 := g1.lc
  have hlen : (l.loop.take (perL l.loop)).length = perL l.loop := by rw [List.length_take]; omega
  have HClone := Lib.hid (fun (W : World) (hW : Below w.heap.size w W) (k : Nat) (hk : k ≤ l.stem.length) => Clone_c W (.slice a0 k c0) (l.stem.take k) ((IsInts.take g0 r0 k hk).below hW) (by rw [List.length_take]; omega))
  have HTurn := Lib.hid (fun (W : World) (hW : Below w.heap.size w W) (k : Nat) (hk : k < perL l.loop) => turned_c W (.slice a1 (perL l.loop) c1) (l.loop.take (perL l.loop)) k ((IsInts.take g1 r1 (perL l.loop) p2).below hW) (by omega) (by omega))
  have HStart := Lib.hid (NormAt.start' hp)
  have HStep := Lib.hid (fun (k b : Nat) (h : NormAt l (l.stem.take (k + 1)) (turnL (l.loop.take (perL l.loop)) ((((l.loop.take (perL l.loop)).length) - b) % (l.loop.take (perL l.loop)).length))) => h.step)
  have HStop := Lib.hid (fun (k b : Nat) (h : NormAt l (l.stem.take k) (turnL (l.loop.take (perL l.loop)) ((((l.loop.take (perL l.loop)).length) - b) % (l.loop.take (perL l.loop)).length))) => h.stop hp)
  generalize hnn : perL l.loop = n at *
  go_enter Try.func39, Try.ntmps39
  go_upto_region 1 with (fail)
  have hB0 : Below w.heap.size w ((w.alloc (Obj.cells #[Value.slice a0 l.stem.length c0, Value.slice a1 l.loop.length c1] 24)).alloc (Obj.cells #[Value.slice none 0 0, Value.slice none 0 0] 24)) := (by repeat (first | exact Below.refl _ _ | assumption | (refine belA ?_ _) | (refine belD ?_ _)))
  have cA : ((w.alloc (Obj.cells #[Value.slice a0 l.stem.length c0, Value.slice a1 l.loop.length c1] 24)).alloc (Obj.cells #[Value.slice none 0 0, Value.slice none 0 0] 24)).cell? ⟨w.heap.size, 0, none⟩ = some (Value.slice a0 l.stem.length c0) := boxCell 0 (bel_box _) rfl
  have cB : ((w.alloc (Obj.cells #[Value.slice a0 l.stem.length c0, Value.slice a1 l.loop.length c1] 24)).alloc (Obj.cells #[Value.slice none 0 0, Value.slice none 0 0] 24)).cell? ⟨w.heap.size, 1, none⟩ = some (Value.slice a1 l.loop.length c1) := boxCell 1 (bel_box _) rfl
  have hsz : w.heap.size + 1 < ((w.alloc (Obj.cells #[Value.slice a0 l.stem.length c0, Value.slice a1 l.loop.length c1] 24)).alloc (Obj.cells #[Value.slice none 0 0, Value.slice none 0 0] 24)).heap.size := by simp
  have cR : ((w.alloc (Obj.cells #[Value.slice a0 l.stem.length c0, Value.slice a1 l.loop.length c1] 24)).alloc (Obj.cells #[Value.slice none 0 0, Value.slice none 0 0] 24)).heap[w.heap.size + 1]? = some (Obj.cells #[Value.slice none 0 0, Value.slice none 0 0] 24) := by
    have := heap_alloc_new (w.alloc (Obj.cells #[Value.slice a0 l.stem.length c0, Value.slice a1 l.loop.length c1] 24)) (Obj.cells #[Value.slice none 0 0, Value.slice none 0 0] 24)
    simpa using this
  generalize ((w.alloc (Obj.cells #[Value.slice a0 l.stem.length c0, Value.slice a1 l.loop.length c1] 24)).alloc (Obj.cells #[Value.slice none 0 0, Value.slice none 0 0] 24)) = w1 at *
  go_cut [3] (fun s3 wx => s3 = .slice a1 n c1 ∧ Below w1.heap.size w1 wx)
  case first =>
    have k1 : n ≤ c1 := by omega
    have k2 : (n : Int) ≤ c1 := by omega
    go_region_with (go_at_call 49; refine (HPer.out _ (by repeat (first | exact Below.refl _ _ | assumption | (refine belA ?_ _) | (refine belD ?_ _) | (refine Below.drew ?_)))).mono ?_; rintro e w2 ⟨rfl, hb2⟩; have hb4 : Below w1.heap.size w1 w2 := (by first | exact hb2 | exact (Below.drew (Below.refl _ _)).trans hb2); have e0 := cellB hb4 cA; have e1 := cellB hb4 cB)
    all_goals go_wp2_with fail
    all_goals
      go_meet
      case rel => exact ⟨rfl, by first | assumption | exact (by assumption : Below _ _ _).trans (Below.drew (Below.refl _ _))⟩
  case rest =>
    obtain ⟨rfl, hb⟩ := hcut
    have dA := cellB hb cA
    have dB := cellB hb cB
    have hB := hB0.trans (hb.mono hB0.size)
    have dR := (hb.block _ (by omega : w.heap.size + 1 < w1.heap.size)).trans cR
    rw [hlen] at HStart HStep HStop
    have HGet0 := Lib.hid (fun k (hk : k < l.stem.length) => g0.el k hk)
    have HGet1 := Lib.hid (fun k (hk : k < l.loop.length) => g1.el k hk)
    clear hb cA cB cR hB0 HPer
    go_wp2_with fail
    go_loopw [5, 6] (fun i j wr => ∃ k b m : Nat, i = .int .i64 k ∧ j = .int .i64 b ∧ wr = wc.drewN m ∧ k ≤ l.stem.length ∧ b < n ∧ Hid (NormAt l (l.stem.take k) (turnL (l.loop.take n) ((n - b) % n)))) (fun i _ _ => (intOf i).toNat)
    case atStart => exact ⟨l.stem.length, 0, 0, rfl, rfl, rfl, by omega, by omega, HStart⟩
    case round =>
      obtain ⟨k, b, m, rfl, rfl, rfl, hk, hb, HN⟩ := hrel
      have hy : (l.loop.take n).getD (n - 1 - b) 0 = l.loop.getD (n - 1 - b) 0 := by
        simp only [List.getD, List.getElem?_take, if_pos (show n - 1 - b < n by omega)]
      have HSt : Hid (0 < k → l.stem.getD (k - 1) 0 = l.loop.getD (n - 1 - b) 0 → NormAt l (l.stem.take (k - 1)) (turnL (l.loop.take n) ((n - (b + 1) % n) % n))) := fun h0 he => HStep.out (k - 1) b (by rw [show k - 1 + 1 = k by omega]; exact HN.out) (by omega) hb (by rw [hy]; exact he)
      have HSp : Hid (k = 0 ∨ l.stem.getD (k - 1) 0 ≠ l.loop.getD (n - 1 - b) 0 → (⟨l.stem.take k, turnL (l.loop.take n) ((n - b) % n)⟩ : Ls) = normL l) := fun h => HStop.out k b HN.out hk hb (h.imp id (fun e => by rw [hy]; exact e))
      obtain ⟨t, htt⟩ : ∃ t, (n - b) % n = t := ⟨_, rfl⟩
      have hq1 : ((n : Int) - b).tmod (n : Int) = (t : Int) := by rw [show (n : Int) - b = ((n - b : Nat) : Int) by omega, ← Int.ofNat_tmod, htt]
      have htn : t < n := by have := Nat.mod_lt (n - b) (show 0 < n by omega); omega
      have hz : ¬ (n : Int) = 0 := by omega
      have HCl := Lib.hid (fun W hW => (HClone.out W hW k hk).mono fun e w' h => h.sl (n := k) (by rw [List.length_take]; omega))
      have HTu := Lib.hid (fun W hW => (HTurn.out W hW t htn).mono fun e w' h => h.sl (n := n) (by rw [turnL_len, hlen]))
      rw [htt] at HN HSp
      replace htt := Lib.hid htt
      clear hy HN HStart HStep HStop HClone HTurn
      obtain ⟨q, hq⟩ : ∃ q, q = (decide (0 < k) && (l.stem.getD (k - 1) 0 == l.loop.getD (n - 1 - b) 0)) := ⟨_, rfl⟩
      have HQ := Lib.hid hq
      clear hq
      go_upto_region 4 with (fail)
      go_cut [35] (fun s wx => (∃ m2, wx = wc.drewN m2) ∧ s = .bool q)
      case first =>
        by_cases hk0 : k = 0
        · have hg0 : decide (0 < k) = false := by simp; omega
          have HQ2 : Hid (q = false) := by show _ = _; rw [HQ.out, hg0]; rfl
          clear hk0 HSt HSp HQ
          go_wp2
          refine wp_region_quiet_lit (by kernel_rfl) (by kernel_rfl) ?_
          ((repeat (go_big_quiet_step (fail))); refine wpQuiet_nil ?_; rintro _ ⟨nq, rfl⟩)
          go_wp2
          go_meet
          case rel => exact ⟨⟨_, World.drewN_drewN ..⟩, by rw [HQ2.out]⟩
        · obtain rfl := g0.ad (by omega)
          obtain rfl := HA1.out
          have e0 := cellB hB (HGet0.out (k - 1) (by omega))
          have e1 := cellB hB (HGet1.out (n - 1 - b) (by omega))
          unfold ivF at e0 e1
          have hg0 : decide (0 < k) = true := by simp; omega
          have HQ2 : Hid (q = (l.stem.getD (k - 1) 0 == l.loop.getD (n - 1 - b) 0)) := by show _ = _; rw [HQ.out, hg0]; rfl
          have hs1 : IntKind.i64.wrap ((k : Int) - 1) = (k : Int) - 1 := IntWalk.i64_in _ ⟨by omega, by omega⟩
          have hs2 : ((k : Int) - 1).toNat = k - 1 := by omega
          have hs3 : IntKind.i64.wrap ((n : Int) - 1) = (n : Int) - 1 := IntWalk.i64_in _ ⟨by omega, by omega⟩
          have hs4 : IntKind.i64.wrap ((n : Int) - 1 - (b : Int)) = (n : Int) - 1 - (b : Int) := IntWalk.i64_in _ ⟨by omega, by omega⟩
          have hs5 : ((n : Int) - 1 - (b : Int)).toNat = n - 1 - b := by omega
          have hs6 : 0 ≤ (k : Int) - 1 := by omega
          have hs7 : 0 ≤ (n : Int) - 1 - (b : Int) := by omega
          have hs8 : (k : Int) - 1 < l.stem.length := by omega
          have hs9 : (n : Int) - 1 - (b : Int) < n := by omega
          generalize l.stem.getD (k - 1) 0 = x at *
          generalize l.loop.getD (n - 1 - b) 0 = y at *
          go_wp2
          refine wp_region_quiet_lit (by kernel_rfl) (by kernel_rfl) ?_
          ((repeat (go_big_quiet_step (fail))); refine wpQuiet_nil ?_; rintro _ ⟨nq, rfl⟩)
          go_wp2
          go_meet
          case rel => exact ⟨⟨_, World.drewN_drewN ..⟩, by rw [HQ2.out]⟩
      case rest =>
        obtain ⟨⟨m2, rfl⟩, rfl⟩ := hcut
        cases q with
        | true =>
          have hkq : 0 < k ∧ l.stem.getD (k - 1) 0 = l.loop.getD (n - 1 - b) 0 := by have := HQ.out; simpa [Bool.and_eq_true] using this.symm
          have hkp := hkq.1
          have HN2 := Lib.hid (HSt.out hkq.1 hkq.2)
          clear hkq HSt HSp HQ
          have ht : ((b : Int) + 1).tmod (n : Int) = (((b + 1) % n : Nat) : Int) := by rw [show (b : Int) + 1 = ((b + 1 : Nat) : Int) by omega, ← Int.ofNat_tmod]
          have hm9 := Nat.mod_lt (b + 1) (show 0 < n by omega)
          have hw2 : IntKind.i64.wrap (((b + 1) % n : Nat) : Int) = (((b + 1) % n : Nat) : Int) := IntWalk.i64_in _ ⟨by omega, by omega⟩
          generalize (b + 1) % n = b2 at *
          go_wp2
          go_roundw
          case rel => exact ⟨k - 1, b2, _, by go_num, rfl, rfl, by omega, by omega, HN2.out⟩
          case measure => simp [intOf]; omega
        | false =>
          have HF : Hid ((⟨l.stem.take k, turnL (l.loop.take n) t⟩ : Ls) = normL l) := HSp.out (by
            have := HQ.out
            rcases Nat.eq_zero_or_pos k with h | h
            · exact .inl h
            · refine .inr fun e => ?_
              rw [decide_eq_true h, e, beq_self_eq_true] at this
              cases this)
          clear HSt HSp HQ
          have hN3 : Below w.heap.size w (wc.drewN m2) := belD hB m2
          have dA3 : (wc.drewN m2).cell? ⟨w.heap.size, 0, none⟩ = some (Value.slice a0 l.stem.length c0) := dA
          have dR3 : (wc.drewN m2).heap[w.heap.size + 1]? = some (Obj.cells #[Value.slice none 0 0, Value.slice none 0 0] 24) := dR
          have hz3 : w.heap.size + 1 < (wc.drewN m2).heap.size := (Array.getElem?_eq_some_iff.1 dR3).1
          clear dA dB dR hB
          generalize wc.drewN m2 = w3 at *
          have hr4 : w.heap.size < w3.heap.size := by omega
          have hkc : k ≤ c0 := by have := g0.lc; omega
          have hkc2 : (k : Int) ≤ c0 := by omega
          have hw5 : IntKind.i64.wrap ((n : Int) - b) = (n : Int) - b := IntWalk.i64_in _ ⟨by omega, by omega⟩
          have hq2 : ((n : Int) - b) % (n : Int) = (t : Int) := by rw [show (n : Int) - b = ((n - b : Nat) : Int) by omega, ← Int.natCast_emod, htt.out]
          have hw6 : IntKind.i64.wrap (t : Int) = (t : Int) := IntWalk.i64_in _ ⟨by omega, by omega⟩
          go_wp2_with fail
          have hzn : ¬ n = 0 := by omega
          go_region_with (first | (go_at_call 50; refine (HCl.out _ (by repeat (first | exact Below.refl _ _ | assumption | (refine belA ?_ _) | (refine belD ?_ _) | (refine Below.drew ?_)))).mono ?_; rintro e w5 ⟨a5, k5, rfl, i5, b5⟩; have z5 : Below w3.heap.size w3 w5 := (by first | exact b5 | exact (Below.drew (Below.refl _ _)).trans b5)) | (go_at_call 42; refine (HTu.out _ (hN3.trans (z5.mono hN3.size))).mono ?_; rintro e w6 ⟨a6, k6, rfl, i6, b6⟩; have z6 : Below w3.heap.size w3 w6 := z5.trans (b6.mono z5.size); have i5' := Lib.hid (i5.out.below b6); have dR6 := (z6.block _ hz3).trans dR3; have x0 : w6.cell? ⟨w.heap.size + 1, 0, none⟩ = some (Value.slice none 0 0) := cell_of_row _ _ 0 _ _ _ dR6; have x1 : w6.cell? ⟨w.heap.size + 1, 1, none⟩ = some (Value.slice none 0 0) := cell_of_row _ _ 1 _ _ _ dR6; have y0 : w6.frozen? ⟨w.heap.size + 1, 0, none⟩ = false := frozen_of_row _ _ 0 _ _ dR6; have y1 : w6.frozen? ⟨w.heap.size + 1, 1, none⟩ = false := frozen_of_row _ _ 1 _ _ dR6; have DR6 := Lib.hid dR6; clear dR6; have hz6 := z6.size))
          all_goals
            go_wp2_with fail
            (have hc3 := two_set (a := .slice a5 k k5) (b := .slice a6 n k6) DR6.out); (have cc0 := cell_of_row _ _ 0 _ _ _ hc3); (have cc1 := cell_of_row _ _ 1 _ _ _ hc3); (refine bodyPost_ret (v := .agg #[.slice a5 k k5, .slice a6 n k6]) (by simp [results, Try.results39, go_sem, cc0, cc1]) rfl ?_)
            have H5 : IsInts w6 _ _ := i5'.out
            have H6 : IsInts w6 _ _ := i6.out
            have hbz := hN3.trans (z6.mono hN3.size)
            refine ⟨_, rfl, ?_, below_two hbz (by omega)⟩
            rw [← HF.out]
            exact ⟨_, _, rfl, H5.setTwo DR6.out, H6.setTwo DR6.out⟩

end Go.Proofs.Ytgjpdnaeldpdeaa
