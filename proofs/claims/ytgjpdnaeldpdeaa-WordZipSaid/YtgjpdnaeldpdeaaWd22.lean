/- What Shortest computes: the walk. -/
import Derived.Test.YtgjpdnaeldpdeaaWd21
namespace Go.Proofs.Ytgjpdnaeldpdeaa
open Go.RowKit

theorem OI_zero (W : World) : OI (W.alloc (.cells #[] 3)).drew W.heap.size (.slice (some ⟨W.heap.size, 0, none⟩) 0 0) [] := OI_empty0 W

set_option maxRecDepth 100000 in
set_option maxHeartbeats 4000000 in
theorem Shortest_c (w : World) (v : Value) (l : Ls) (hl : IsLs w v l) (hp : 0 < l.loop.length) (hls : l.stem.length ≤ 100000) (hll : l.loop.length ≤ 100000) :
    Calls Try.prog 40 #[v] w (NewL (normL l) w) := by
  obtain ⟨v0, v1, rfl, h0, h1⟩ := hl
  have HRep := Lib.hid (fun (W : World) (hW : Below w.heap.size w W) (k : Nat) (h0 : 0 < k) (hk : k ≤ l.loop.length) => repeats_c W v1 l.loop k (h1.below hW) h0 hk hll)
  have HE : Hid (∀ k, 0 < k → repsB l.loop k = true → (∀ r, 0 < r → r < k → repsB l.loop r = false) → perL l.loop = k) := fun k h1 h2 h3 => perL_of hp h1 h2 h3
  have HSELF : Hid (repsB l.loop l.loop.length = true) := reps_self
  have HStart := Lib.hid (NormAt.start hp)
  have HDone : Hid (∀ s lo, NormAt l s lo → (s.length = 0 ∨ s.getD (s.length - 1) 0 ≠ lo.getD (lo.length - 1) 0) → (⟨s, lo⟩ : Ls) = normL l) := fun s lo h he => h.done' hp he
  have HStem := Lib.hid (fun (W : World) (hW : Below w.heap.size w W) => h0.below hW)
  obtain ⟨⟨a0, c0, b0, o0, rfl, g0⟩, r0⟩ := h0
  obtain ⟨⟨a1, c1, b1, o1, rfl, g1⟩, r1⟩ := h1
  have HTk := Lib.hid (fun (W : World) (hW : Below w.heap.size w W) (k : Nat) (hk : k ≤ l.loop.length) => (IsInts.take g1 r1 k hk).below hW)
  have HI0 := Lib.hid r0
  have HI1 := Lib.hid r1
  have hc1 := g1.lc
  have hn0 := g0.nb
  have hn1 := g1.nb
  clear g0 g1 r0 r1
  generalize normL l = nl at *
  generalize hpl : perL l.loop = pl at *
  clear hpl
  go_enter Try.func40, Try.ntmps40
  go_upto_region 1 with (fail)
  (have hB0 : Below w.heap.size w ((w.alloc (Obj.cells #[Value.slice a0 l.stem.length c0, Value.slice a1 l.loop.length c1] 24)).alloc (Obj.cells #[Value.slice none 0 0, Value.slice none 0 0] 24)) := (by repeat (first | exact Below.refl _ _ | assumption | (refine belA ?_ _) | (refine belD ?_ _)))); (have cA : ((w.alloc (Obj.cells #[Value.slice a0 l.stem.length c0, Value.slice a1 l.loop.length c1] 24)).alloc (Obj.cells #[Value.slice none 0 0, Value.slice none 0 0] 24)).cell? ⟨w.heap.size, 0, none⟩ = some (Value.slice a0 l.stem.length c0) := boxCell 0 (bel_box _) rfl); (have cB : ((w.alloc (Obj.cells #[Value.slice a0 l.stem.length c0, Value.slice a1 l.loop.length c1] 24)).alloc (Obj.cells #[Value.slice none 0 0, Value.slice none 0 0] 24)).cell? ⟨w.heap.size, 1, none⟩ = some (Value.slice a1 l.loop.length c1) := boxCell 1 (bel_box _) rfl); (have cR : ((w.alloc (Obj.cells #[Value.slice a0 l.stem.length c0, Value.slice a1 l.loop.length c1] 24)).alloc (Obj.cells #[Value.slice none 0 0, Value.slice none 0 0] 24)).heap[w.heap.size + 1]? = some (Obj.cells #[Value.slice none 0 0, Value.slice none 0 0] 24) := (by have := heap_alloc_new (w.alloc (Obj.cells #[Value.slice a0 l.stem.length c0, Value.slice a1 l.loop.length c1] 24)) (Obj.cells #[Value.slice none 0 0, Value.slice none 0 0] 24); simpa using this)); (have hsz : w.heap.size + 1 < ((w.alloc (Obj.cells #[Value.slice a0 l.stem.length c0, Value.slice a1 l.loop.length c1] 24)).alloc (Obj.cells #[Value.slice none 0 0, Value.slice none 0 0] 24)).heap.size := (Array.getElem?_eq_some_iff.1 cR).1); generalize ((w.alloc (Obj.cells #[Value.slice a0 l.stem.length c0, Value.slice a1 l.loop.length c1] 24)).alloc (Obj.cells #[Value.slice none 0 0, Value.slice none 0 0] 24)) = w1 at *
  go_wp2_with fail
  go_loopw [3] (fun i wr => ∃ k m : Nat, i = .int .i64 k ∧ wr = w1.drewN m ∧ 0 < k ∧ k ≤ l.loop.length ∧ Hid (∀ r, 0 < r → r < k → repsB l.loop r = false)) (fun i _ => l.loop.length - (intOf i).toNat)
  case atStart => exact ⟨1, 0, rfl, rfl, by omega, by omega, fun r h1 h2 => by omega⟩
  case round =>
    obtain ⟨n, m, rfl, rfl, hn0', hn, HA⟩ := hrel
    have HRn := Lib.hid (HRep.out (w1.drewN m) (belD hB0 m) n hn0' hn)
    have HYes : Hid (repsB l.loop n = true → pl = n) := fun h => HE.out n hn0' h HA.out
    have HNo : Hid (repsB l.loop n = false → n < l.loop.length ∧ ∀ r, 0 < r → r < n + 1 → repsB l.loop r = false) := fun h => by
      refine ⟨?_, fun r h1 h2 => ?_⟩
      · rcases Nat.lt_or_ge n l.loop.length with h3 | h3
        · exact h3
        · obtain rfl : n = l.loop.length := by omega
          rw [HSELF.out] at h; cases h
      · rcases Nat.lt_or_ge r n with h3 | h3
        · exact HA.out r h1 h3
        · obtain rfl : r = n := by omega
          exact h
    generalize hrn : repsB l.loop n = rn at *
    clear hrn HA
    have dA : (w1.drewN m).cell? ⟨w.heap.size, 0, none⟩ = some (Value.slice a0 l.stem.length c0) := cA
    have dB : (w1.drewN m).cell? ⟨w.heap.size, 1, none⟩ = some (Value.slice a1 l.loop.length c1) := cB
    go_wp2_with fail
    refine HRn.out.mono ?_
    rintro e w3 ⟨rfl, n3, rfl⟩
    cases rn with
    | false =>
      have hno := HNo.out (by trivial)
      have hlt := hno.1
      have HA2 := Lib.hid hno.2
      clear hno dA dB
      go_wp2
      go_roundw
      case rel => exact ⟨n + 1, m + n3, by go_num, by simp [World.drewN], by omega, by omega, HA2.out⟩
      case measure => simp [intOf]; omega
    | true =>
      obtain rfl := HYes.out (by trivial)
      have hlen : (l.loop.take pl).length = pl := by rw [List.length_take]; omega
      have HLen := Lib.hid hlen
      have hB2 : Below w.heap.size w ((w1.drewN m).drewN n3) := belD (belD hB0 _) _
      have hb2 : Below w1.heap.size w1 ((w1.drewN m).drewN n3) := (below_draws _ _ _).trans (below_draws _ _ _)
      have eA : ((w1.drewN m).drewN n3).cell? ⟨w.heap.size, 0, none⟩ = some (Value.slice a0 l.stem.length c0) := cA
      have eB : ((w1.drewN m).drewN n3).cell? ⟨w.heap.size, 1, none⟩ = some (Value.slice a1 l.loop.length c1) := cB
      clear HYes HNo HRn HRep HE HSELF hlen dA dB
      generalize (w1.drewN m).drewN n3 = w2 at *
      have hkc : pl ≤ c1 := by omega
      have hz2 : w.heap.size < w2.heap.size := by have := hb2.size; omega
      go_upto_region 5 with (at_builtin; refine app_ints rfl _ _ rfl w2.heap.size _ _ [] _ (OI_empty0 w2) rfl (HTk.out _ (by repeat (first | exact Below.refl _ _ | assumption | (refine belA ?_ _) | (refine belD ?_ _))) pl hn) rfl (by simp; omega) (by simp) ?_; intro v3 w3 hown3 hg3 _; have HO3 := Lib.hid hown3; have HG3 := Lib.hid hg3; clear hown3 hg3)
      have hb3 : Below w2.heap.size w2 w3 := (bel_box _).grown HG3.out (by simp) (fun g h => by simp [Value.ownBlock] at h; omega)
      have O3 : OI w3 w2.heap.size v3 (l.loop.take pl) := HO3.out
      obtain ⟨la, lc, hv3⟩ := O3.slice
      rw [HLen.out] at hv3
      subst hv3
      have I3 := O3.is (by rw [HLen.out]; unfold maxN; omega) (fun x hx => HI1.out x (List.mem_of_mem_take hx))
      have eA3 := cellB hb3 eA
      have hz3 : w.heap.size < w3.heap.size := by have := hb3.size; omega
      have hB3 := hB2.trans (hb3.mono hB2.size)
      have hc3 := hb2.trans (hb3.mono hb2.size)
      clear HO3 HG3 O3 eA eB
      have IS3 := Lib.hid (HStem.out (w3.alloc (Obj.cells #[] 3)) (belA hB3 _))
      have II3 := Lib.hid I3
      clear I3
      go_wp2_with (at_builtin; refine app_ints rfl _ _ rfl w3.heap.size _ _ [] _ (OI_empty0 w3) rfl IS3.out rfl (by simp; omega) (by simp) ?_; intro v4 w4 hown4 hg4 _; have HO4 := Lib.hid hown4; have HG4 := Lib.hid hg4; clear hown4 hg4)
      have hb4 : Below w3.heap.size w3 w4 := (bel_box _).grown HG4.out (by simp) (fun g h => by simp [Value.ownBlock] at h; omega)
      have O4 : OI w4 w3.heap.size v4 l.stem := HO4.out
      obtain ⟨sa, sc, hv4⟩ := O4.slice
      subst hv4
      have I4 := Lib.hid (O4.is (by unfold maxN; omega) HI0.out)
      have I3 := Lib.hid (II3.out.below hb4)
      have hB4 := hB3.trans (hb4.mono hB3.size)
      have hc4 := hc3.trans (hb4.mono hc3.size)
      clear HO4 HG4 O4 eA3 IS3 II3 hb3 hb4 hB3 hc3 hb2 hB2
      go_loopg [4, 5] l.stem.length (fun gh v4 v5 wr => ∃ (s lo : List Int) (la : Option Addr) (lc : Nat) (sa : Option Addr) (sc : Nat), gh = s.length ∧ v4 = .slice la pl lc ∧ v5 = .slice sa s.length sc ∧ s.length ≤ l.stem.length ∧ Hid (lo.length = pl) ∧ Hid (IsInts wr (.slice la pl lc) lo) ∧ Hid (IsInts wr (.slice sa s.length sc) s) ∧ Hid (NormAt l s lo) ∧ Below w1.heap.size w1 wr)
      case atStart => exact ⟨l.stem, l.loop.take pl, la, lc, sa, sc, rfl, rfl, rfl, by omega, HLen, I3, I4, HStart, hc4⟩
      case round =>
        obtain ⟨s, lo, la, lc, sa, sc, rfl, rfl, rfl, hs, HLo, I3, I4, HN, hc⟩ := hrel
        clear hc4 hB4
        have HI3 := I3.out
        have HI4 := I4.out
        obtain ⟨⟨la', lc', lb, lo', h3, g3⟩, r3⟩ := HI3
        obtain ⟨⟨sa', sc', sb, so, h4, g4⟩, r4⟩ := HI4
        obtain ⟨rfl, -, rfl⟩ : la = la' ∧ pl = lo.length ∧ lc = lc' := by simpa using h3
        obtain ⟨rfl, rfl⟩ : sa = sa' ∧ sc = sc' := by simpa using h4
        rw [HLo.out] at g3
        have HGet0 := Lib.hid (fun k (hk : k < s.length) => g4.el k hk)
        have HGet1 := Lib.hid (fun k (hk : k < pl) => g3.el k hk)
        have HA0 := Lib.hid g4.ad
        have HA1 := Lib.hid g3.ad
        have hlc := g3.lc
        have hsc := g4.lc
        have HTurn : Hid (0 < s.length → s.getD (s.length - 1) 0 = lo.getD (pl - 1) 0 → NormAt l (s.take (s.length - 1)) (lo.getD (pl - 1) 0 :: lo.take (pl - 1))) := fun h0 he => by
          have := HN.out.turn' h0 (by rw [HLo.out]; exact he)
          rwa [HLo.out] at this
        have HEnd : Hid (s.length = 0 ∨ s.getD (s.length - 1) 0 ≠ lo.getD (pl - 1) 0 → (⟨s, lo⟩ : Ls) = nl) := fun h => HDone.out s lo HN.out (by rw [HLo.out]; exact h)
        have HTkS : Hid (IsInts wr (.slice sa (s.length - 1) sc) (s.take (s.length - 1))) := IsInts.take g4 r4 (s.length - 1) (by omega)
        have HTkL : Hid (IsInts wr (.slice la (pl - 1) lc) (lo.take (pl - 1))) := IsInts.take (by rw [HLo.out]; exact g3) r3 (pl - 1) (by have := HLo.out; omega)
        have HRL := Lib.hid r3
        clear h3 h4 g3 g4 r3 r4
        obtain ⟨q, hq⟩ : ∃ q, q = (decide (0 < s.length) && (s.getD (s.length - 1) 0 == lo.getD (pl - 1) 0)) := ⟨_, rfl⟩
        have HQ := Lib.hid hq
        clear hq
        go_upto_region 6 with (fail)
        go_cut [39] (fun b wx => (∃ m2, wx = wr.drewN m2) ∧ b = .bool q)
        case first =>
          by_cases hk0 : s.length = 0
          · have hg0 : decide (0 < s.length) = false := decide_eq_false (by omega)
            have HQ2 : Hid (q = false) := by show _ = _; rw [HQ.out, hg0]; rfl
            have hs0 := List.eq_nil_of_length_eq_zero hk0
            subst hs0
            clear hk0 HQ hg0
            go_wp2
            refine wp_region_quiet_lit (by kernel_rfl) (by kernel_rfl) ?_
            ((repeat (go_big_quiet_step (fail))); refine wpQuiet_nil ?_; rintro _ ⟨nq, rfl⟩)
            go_wp2
            go_meet
            case rel => exact ⟨⟨_, rfl⟩, by rw [HQ2.out]⟩
          · obtain rfl := HA0.out (by omega)
            obtain rfl := HA1.out (by omega)
            have e0 := HGet0.out (s.length - 1) (by omega)
            have e1 := HGet1.out (pl - 1) (by omega)
            unfold ivF at e0 e1
            have hg0 : decide (0 < s.length) = true := decide_eq_true (by omega)
            have HQ2 : Hid (q = (s.getD (s.length - 1) 0 == lo.getD (pl - 1) 0)) := by show _ = _; rw [HQ.out, hg0]; rfl
            have hs1 : IntKind.i64.wrap ((s.length : Int) - 1) = (s.length : Int) - 1 := IntWalk.i64_in _ ⟨by omega, by omega⟩
            have hs2 : ((s.length : Int) - 1).toNat = s.length - 1 := by omega
            have hs3 : IntKind.i64.wrap ((pl : Int) - 1) = (pl : Int) - 1 := IntWalk.i64_in _ ⟨by omega, by omega⟩
            have hs5 : ((pl : Int) - 1).toNat = pl - 1 := by omega
            have hs6 : 0 ≤ (s.length : Int) - 1 := by omega
            have hs7 : 0 ≤ (pl : Int) - 1 := by omega
            have hs8 : (s.length : Int) - 1 < s.length := by omega
            have hs9 : (pl : Int) - 1 < pl := by omega
            have hg1 : 0 < s.length := by omega
            have hg2 : 1 ≤ s.length := by omega
            generalize s.getD (s.length - 1) 0 = x at *
            generalize lo.getD (pl - 1) 0 = y at *
            go_wp2
            refine wp_region_quiet_lit (by kernel_rfl) (by kernel_rfl) ?_
            ((repeat (go_big_quiet_step (fail))); refine wpQuiet_nil ?_; rintro _ ⟨nq, rfl⟩)
            go_wp2
            go_meet
            case rel => exact ⟨⟨_, rfl⟩, by rw [HQ2.out]⟩
        case rest =>
          obtain ⟨⟨m2, rfl⟩, rfl⟩ := hcut
          cases q with
          | true =>
            have hkq : 0 < s.length ∧ s.getD (s.length - 1) 0 = lo.getD (pl - 1) 0 := by have := HQ.out; simpa [Bool.and_eq_true] using this.symm
            have hkp := hkq.1
            have HN2 := Lib.hid (HTurn.out hkq.1 hkq.2)
            obtain rfl := HA1.out (by omega)
            have e1 := HGet1.out (pl - 1) (by omega)
            unfold ivF at e1
            have hx64 : I64 (lo.getD (pl - 1) 0) := by
              have hl := HLo.out
              rw [getD_lt _ _ _ (by omega)]
              exact HRL.out _ (List.getElem_mem _)
            have HX := Lib.hid hx64
            have hlx : (lo.take (pl - 1)).length = pl - 1 := by have := HLo.out; rw [List.length_take]; omega
            have HLX := Lib.hid hlx
            have HLen2 : Hid ((lo.getD (pl - 1) 0 :: lo.take (pl - 1)).length = pl) := by show _ = _; rw [List.length_cons, hlx]; omega
            have hsl : (s.take (s.length - 1)).length = s.length - 1 := by rw [List.length_take]; omega
            have HSL := Lib.hid hsl
            clear hkq hx64 hlx hsl HTurn HEnd HQ HN
            generalize lo.getD (pl - 1) 0 = x at *
            have e2 : (wr.drewN m2).cell? ⟨lb, lo' + (pl - 1), none⟩ = some (.int .i64 x) := e1
            have hc2 : Below w1.heap.size w1 (wr.drewN m2) := belD hc m2
            have J4 := Lib.hid (show IsInts (wr.drewN m2) (.slice sa (s.length - 1) sc) (s.take (s.length - 1)) from HTkS.out.below (below_draws _ _ _))
            have J3 := Lib.hid (show IsInts (wr.drewN m2) (.slice (some ⟨lb, lo', none⟩) (pl - 1) lc) (lo.take (pl - 1)) from HTkL.out.below (below_draws _ _ _))
            clear HTkS HTkL I3 I4 e1 hc
            generalize wr.drewN m2 = w5 at *
            go_upto_region 8 with (fail)
            have hs3 : IntKind.i64.wrap ((pl : Int) - 1) = (pl : Int) - 1 := IntWalk.i64_in _ ⟨by omega, by omega⟩
            have hs5 : ((pl : Int) - 1).toNat = pl - 1 := by omega
            have hs7 : 0 ≤ (pl : Int) - 1 := by omega
            have hs9 : (pl : Int) - 1 < pl := by omega
            have hs12 : 1 ≤ (pl : Int) := by omega
            have hs13 : 1 ≤ pl := by omega
            have hs10 : pl - 1 ≤ lc := by omega
            have hs11 : (pl : Int) - 1 ≤ lc := by omega
            have hlb : lb < w5.heap.size := World.block_lt_of_cell? w5 _ e2
            go_region_law ((rw [if_pos (by rfl)]; refine wp_app_ints _ _ _ (by rfl) w5.heap.size _ _ [x] (lo.take (pl - 1)) (by rfl) (OI_one w5 x) (by rfl) (J3.out.below (by repeat (first | exact Below.refl _ _ | assumption | (refine belA ?_ _) | (refine belD ?_ _) | (refine Below.drew ?_)))) (by rw [HLX.out]; simp; omega) (by simp) ?_; intro v6 w6 hown6 hg6; obtain ⟨a6, c6, hv6⟩ := hown6.slice; rw [show ([x] ++ lo.take (pl - 1)).length = pl from HLen2.out] at hv6; subst hv6; have HO6 := Lib.hid hown6; have HG6 := Lib.hid hg6; clear hown6 hg6))
            all_goals
              have hb6 : Below w5.heap.size w5 w6 := (bel_box _).drew.grown HG6.out (by simp) (fun g h => by simp [Value.ownBlock] at h; omega)
              have I6 := Lib.hid (show IsInts w6 (.slice a6 pl c6) (x :: lo.take (pl - 1)) from HO6.out.is (by rw [show ([x] ++ lo.take (pl - 1)).length = pl from HLen2.out]; unfold maxN; omega) (fun z hz => by
                rcases List.mem_cons.1 hz with rfl | hz
                · exact HX.out
                · exact HRL.out z (List.mem_of_mem_take hz)))
              have J6 := Lib.hid (J4.out.below hb6)
              have hc6 := hc2.trans (hb6.mono hc2.size)
              clear HO6 HG6 hb6 J3 J4 e2
              go_wp2
              go_roundg (s.length - 1)
              case rel => exact ⟨s.take (s.length - 1), x :: lo.take (pl - 1), a6, c6, sa, sc, HSL.out.symm, rfl, by rw [HSL.out], by rw [HSL.out]; omega, HLen2, I6, by rw [HSL.out]; exact J6, HN2, hc6⟩
              case measure => omega
          | false =>
            have HF : Hid ((⟨s, lo⟩ : Ls) = nl) := HEnd.out (by
              have := HQ.out
              rcases Nat.eq_zero_or_pos s.length with h | h
              · exact .inl h
              · refine .inr fun e => ?_
                rw [decide_eq_true h, e, beq_self_eq_true] at this
                cases this)
            have hz5 : w.heap.size + 1 < (wr.drewN m2).heap.size := by have := hc.size; show _ < wr.heap.size; omega
            have HC : Hid ((wr.drewN m2).heap[w.heap.size + 1]? = some (Obj.cells #[Value.slice none 0 0, Value.slice none 0 0] 24 (0, 0))) := (hc.block _ hsz).trans cR
            have hB5 : Below w.heap.size w (wr.drewN m2) := belD (hB0.trans (hc.mono hB0.size)) m2
            have J3 := Lib.hid (show IsInts (wr.drewN m2) (.slice la pl lc) lo from I3.out.below (below_draws _ _ _))
            have J4 := Lib.hid (show IsInts (wr.drewN m2) (.slice sa s.length sc) s from I4.out.below (below_draws _ _ _))
            obtain ⟨x0, x1, y0, y1⟩ := boxF HC.out
            clear cA cB cR HTurn HEnd HQ
            generalize wr.drewN m2 = w5 at *
            go_wp2_with fail
            (have hc3 := two_set (a := .slice sa s.length sc) (b := .slice la pl lc) HC.out); (have cc0 := cell_of_row _ _ 0 _ _ _ hc3); (have cc1 := cell_of_row _ _ 1 _ _ _ hc3); (refine bodyPost_ret (v := .agg #[.slice sa s.length sc, .slice la pl lc]) (by simp [results, Try.results40, go_sem, cc0, cc1]) rfl ?_)
            rw [← HF.out]
            exact lsEnd HC.out J4.out J3.out hB5 (by omega)

end Go.Proofs.Ytgjpdnaeldpdeaa
