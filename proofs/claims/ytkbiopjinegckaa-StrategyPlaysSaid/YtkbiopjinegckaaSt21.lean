/- What Play of strategies returns. -/
import Derived.Test.YtkbiopjinegckaaSt20
namespace Go.Proofs.Ytkbiopjinegckaa
open Go.RowKit

/-- The memory of Play. -/
structure PS (w W : World) (s : Nat) (cs : Array Value) (sa sb : Value) (way : List Nat) (vw : Value) (f : Int) : Prop where
  bl : Below w.heap.size w W
  b0 : W.heap[w.heap.size]? = some (.cells cs 25 (0, 0))
  bp : W.heap[w.heap.size + 1]? = some (.cells #[.slice none 0 0, .slice none 0 0] 28 (0, 0))
  bw : W.heap[s]? = some (.cells #[vw] 22 (0, 0))
  bf : W.heap[s + 1]? = some (.cells #[.int .i64 f] 3 (0, 0))
  bs : W.heap[s + 1 + 1]? = some (.cells #[sa, sb] 53 (0, 0))
  num : NumL W (s + 1 + 1 + 1) (castL way)
  ow : OI W (s + 4) vw (castL way)
  ls : w.heap.size + 2 ≤ s
  sz : s + 4 ≤ W.heap.size
section
variable {w W W1 : World} {s : Nat} {cs : Array Value} {sa sb vw vw' : Value} {way : List Nat} {f : Int}
theorem PS.below (h : PS w W s cs sa sb way vw f) (hb : Below W.heap.size W W1) : PS w W1 s cs sa sb way vw f := by
  have hsz := h.sz
  have hls := h.ls
  exact ⟨h.bl.trans (hb.mono h.bl.size), (hb.block _ (by omega)).trans h.b0, (hb.block _ (by omega)).trans h.bp, (hb.block _ (by omega)).trans h.bw, (hb.block _ (by omega)).trans h.bf, (hb.block _ (by omega)).trans h.bs, h.num.kept (below_grown hb) (by simp), h.ow.below hb, hls, Nat.le_trans hsz hb.size⟩
/-- A position is numbered and put to the way. -/
theorem PS.push {W2 : World} (h : PS w W s cs sa sb way vw f) {v : Nat} (hn : NumL W1 (s + 1 + 1 + 1) (castL (way ++ [v]))) (hg : W.grownBy W1 (some (s + 1 + 1 + 1))) (h1 : OI W2 (s + 4) vw' (castL way ++ [(v : Int)])) (hg2 : W1.grownBy W2 vw.ownBlock) :
    PS w (W2.setCell ⟨s, 0, none⟩ vw') s cs sa sb (way ++ [v]) vw' f ∧ W2.heap[s]? = some (.cells #[vw] 22 (0, 0)) := by
  have hsz := h.sz
  have hls := h.ls
  have hv : ∀ k, vw.ownBlock = some k → s + 4 ≤ k := fun k hk => h.ow.ge k hk
  have hs1 := hg.size
  have hs2 := hg2.size
  have hb1 : ∀ k, k < s + 4 → k ≠ s + 3 → W2.heap[k]? = W.heap[k]? := fun k hk hne => (hg2.block k (by omega) (fun e => by have := hv k e.symm; omega)).trans (hg.block k (by omega) (by simp; omega))
  have hb2 : ∀ k, k < s + 4 → k ≠ s + 3 → k ≠ s → (W2.setCell ⟨s, 0, none⟩ vw').heap[k]? = W.heap[k]? := fun k hk h3 h0 => (heap_set_ne W2 s 0 k vw' h0).trans (hb1 k hk h3)
  have hbw := (hb1 s (by omega) (by omega)).trans h.bw
  have hbl : Below w.heap.size w W2 := by
    refine (h.bl.grown hg h.bl.size (fun k hk => ?_)).grown hg2 (by have := h.bl.size; omega) (fun k hk => ?_)
    · have : s + 1 + 1 + 1 = k := by simpa using hk
      omega
    · have := hv k hk; omega
  exact ⟨⟨hbl.setCell (show w.heap.size ≤ s by omega) _, (hb2 _ (by omega) (by omega) (by omega)).trans h.b0, (hb2 _ (by omega) (by omega) (by omega)).trans h.bp, one_set hbw, (hb2 _ (by omega) (by omega) (by omega)).trans h.bf, (hb2 _ (by omega) (by omega) (by omega)).trans h.bs,
    (hn.kept hg2 (fun e => by have := hv _ e.symm; omega)).kept (grown_set _ _ _ _) (by simp; omega), by
      rw [castL_app, castL_one]
      exact h1.only (S := fun k => k = s) (Only.set _ _ _ rfl) fun k hk e => by have := h1.ge k hk; omega, hls, by simp; omega⟩, hbw⟩
theorem PS.row (h : PS w W s cs sa sb way vw f) (hg : W.grownBy W1 (some (s + 1 + 1 + 1))) : OI W1 (s + 4) vw (castL way) ∧ W1.heap[s]? = some (.cells #[vw] 22 (0, 0)) ∧ s + 4 ≤ W1.heap.size := by
  have hsz := h.sz
  have hs := hg.size
  refine ⟨h.ow.grown hg ?_, (hg.block s (by omega) (by simp; omega)).trans h.bw, by omega⟩
  by_cases e : vw.ownBlock = some (s + 1 + 1 + 1)
  · have := h.ow.ge _ e; omega
  · exact .inr e

end

set_option maxRecDepth 100000 in
set_option maxHeartbeats 8000000 in
theorem Play_c (w : World) (vg va vb : Value) (g : Gm) (a b : List Int) (x : Int) (hg : IsGame w vg g) (ha : IsInts w va a) (hb : IsInts w vb b) :
    Calls Try.prog 11 #[vg, va, vb, .int .i64 x] w (NewPath (playR g a b x) w) := by
  have HV : Hid (∀ W, Below w.heap.size w W → Calls Try.prog 29 #[vg] W (Calm (.bool (validB g)) W)) := fun W hW => AValid_c W _ g (hg.below hW)
  obtain ⟨v0, v1, v2, rfl, i0, i1, i2⟩ := id hg
  obtain ⟨a0, c0, rfl⟩ := i0.shape
  obtain ⟨aA, cA, rfl⟩ := ha.shape
  obtain ⟨aB, cB, rfl⟩ := hb.shape
  obtain ⟨a2, c2, b2, o2, V, hv2, hd2, m2, dd2⟩ := i2.data
  subst hv2
  obtain ⟨b0, o0, hd0, m0, dd0⟩ := i0.data
  obtain ⟨bA, oA, hdA, mA, ddA⟩ := ha.data
  obtain ⟨bB, oB, hdB, mB, ddB⟩ := hb.data
  have hbx : Below w.heap.size w ((w.alloc (.cells #[.slice a0 g.owner.length c0, v1, .slice a2 g.succ.length c2] 25)).alloc (.cells #[.slice none 0 0, .slice none 0 0] 28)) := (by repeat (first | exact Below.refl _ _ | assumption | (refine belA ?_ _) | (refine belD ?_ _)))
  have HP1 : Hid (((w.alloc (.cells #[.slice a0 g.owner.length c0, v1, .slice a2 g.succ.length c2] 25)).alloc (.cells #[.slice none 0 0, .slice none 0 0] 28)).heap[w.heap.size]? = some (.cells #[.slice a0 g.owner.length c0, v1, .slice a2 g.succ.length c2] 25 (0, 0))) := (by (repeat (rw [alloc_get]; first | rw [if_pos (by first | (simp; done) | (simp; omega))] | rw [if_neg (by first | (simp; done) | (simp; omega))])); (try rfl))
  have HP2 : Hid (((w.alloc (.cells #[.slice a0 g.owner.length c0, v1, .slice a2 g.succ.length c2] 25)).alloc (.cells #[.slice none 0 0, .slice none 0 0] 28)).heap[w.heap.size + 1]? = some (.cells #[.slice none 0 0, .slice none 0 0] 28 (0, 0))) := (by (repeat (rw [alloc_get]; first | rw [if_pos (by first | (simp; done) | (simp; omega))] | rw [if_neg (by first | (simp; done) | (simp; omega))])); (try rfl))
  have HBX := Lib.hid hbx
  have hmf : ∀ (fn : Fn) (first cap : Array Value) (w : World), (Instr.makeFunc fn first cap).run Try.prog w = .ok (.func fn first cap) w := fun _ _ _ _ => rfl
  have hmm := @run_makeMap Try.prog
  clear hg i0 i1 i2 ha hb
  cases hv : validB g
  case false =>
    have HR : Hid (playR g a b x = ⟨[], []⟩) := playR_no (.inl hv)
    have HVV := Lib.hid hv
    clear hv
    clear hmf hmm hd0 hd2 hdA hdB dd0 dd2 ddA ddB hbx
    go_enter_defers Try.func11, Try.ntmps11
    go_wp2
    go_step3
    go_wp2_with fail
    refine (HV.out _ HBX.out).mono ?_
    rintro e w1 ⟨rfl, hb1⟩
    rw [HVV.out]
    have hB1 := HBX.out.trans (hb1.mono HBX.out.size)
    have hp1 := (hb1.block _ (Array.getElem?_eq_some_iff.1 HP2.out).1).trans HP2.out
    have k0 := cell_of_row _ _ 0 _ _ _ hp1
    have k1 := cell_of_row _ _ 1 _ _ _ hp1
    have f0 := frozen_of_row _ _ 0 _ _ hp1
    have f1 := frozen_of_row _ _ 1 _ _ hp1
    have HS := Lib.hid (two_set (c := .slice none 0 0) (d := .slice none 0 0) hp1)
    have HB2 : Hid (Below w.heap.size w ((w1.setCell ⟨w.heap.size + 1, 0, none⟩ (.slice none 0 0)).setCell ⟨w.heap.size + 1, 1, none⟩ (.slice none 0 0))) := (hB1.setCell (by show _ ≤ _ + 1; omega) _).setCell (by show _ ≤ _ + 1; omega) _
    clear hb1 hB1 hp1
    go_wp2
    (try rw [Exit.noGoto_ret])
    have c0 := cell_of_row _ _ 0 _ _ _ HS.out
    have c1 := cell_of_row _ _ 1 _ _ _ HS.out
    refine ⟨.agg #[.slice none 0 0, .slice none 0 0], by simp [results, Try.results11, go_sem, c0, c1], ?_⟩
    rw [HR.out]
    exact ⟨_, rfl, ⟨_, _, rfl, ints_nil _, ints_nil _⟩, HB2.out⟩
  case true =>
    have HVV := Lib.hid hv
    have hlens := valid_lens hv
    cases ha : ((a.length : Int) != g.owner.length)
    case true =>
      have HR : Hid (playR g a b x = ⟨[], []⟩) := playR_no (.inr (.inl (by simp at ha; omega)))
      clear hv hlens
      clear hmf hmm hd0 hd2 hdA hdB dd0 dd2 ddA ddB hbx
      go_enter_defers Try.func11, Try.ntmps11
      go_wp2
      go_step3
      go_wp2_with fail
      refine (HV.out _ HBX.out).mono ?_
      rintro e w1 ⟨rfl, hb1⟩
      rw [HVV.out]
      have hB1 := HBX.out.trans (hb1.mono HBX.out.size)
      have hp1 := (hb1.block _ (Array.getElem?_eq_some_iff.1 HP2.out).1).trans HP2.out
      have k0 := cell_of_row _ _ 0 _ _ _ hp1
      have k1 := cell_of_row _ _ 1 _ _ _ hp1
      have f0 := frozen_of_row _ _ 0 _ _ hp1
      have f1 := frozen_of_row _ _ 1 _ _ hp1
      have HS := Lib.hid (two_set (c := .slice none 0 0) (d := .slice none 0 0) hp1)
      have HB2 : Hid (Below w.heap.size w ((w1.setCell ⟨w.heap.size + 1, 0, none⟩ (.slice none 0 0)).setCell ⟨w.heap.size + 1, 1, none⟩ (.slice none 0 0))) := (hB1.setCell (by show _ ≤ _ + 1; omega) _).setCell (by show _ ≤ _ + 1; omega) _
      clear hb1 hB1 hp1
      go_wp2
      (try rw [Exit.noGoto_ret])
      have c0 := cell_of_row _ _ 0 _ _ _ HS.out
      have c1 := cell_of_row _ _ 1 _ _ _ HS.out
      refine ⟨.agg #[.slice none 0 0, .slice none 0 0], by simp [results, Try.results11, go_sem, c0, c1], ?_⟩
      rw [HR.out]
      exact ⟨_, rfl, ⟨_, _, rfl, ints_nil _, ints_nil _⟩, HB2.out⟩
    case false =>
      cases hb : ((b.length : Int) != g.owner.length)
      case true =>
        have HR : Hid (playR g a b x = ⟨[], []⟩) := playR_no (.inr (.inr (.inl (by simp at hb; omega))))
        clear hv hlens
        clear hmf hmm hd0 hd2 hdA hdB dd0 dd2 ddA ddB hbx
        go_enter_defers Try.func11, Try.ntmps11
        go_wp2
        go_step3
        go_wp2_with fail
        refine (HV.out _ HBX.out).mono ?_
        rintro e w1 ⟨rfl, hb1⟩
        rw [HVV.out]
        have hB1 := HBX.out.trans (hb1.mono HBX.out.size)
        have hp1 := (hb1.block _ (Array.getElem?_eq_some_iff.1 HP2.out).1).trans HP2.out
        have k0 := cell_of_row _ _ 0 _ _ _ hp1
        have k1 := cell_of_row _ _ 1 _ _ _ hp1
        have f0 := frozen_of_row _ _ 0 _ _ hp1
        have f1 := frozen_of_row _ _ 1 _ _ hp1
        have HS := Lib.hid (two_set (c := .slice none 0 0) (d := .slice none 0 0) hp1)
        have HB2 : Hid (Below w.heap.size w ((w1.setCell ⟨w.heap.size + 1, 0, none⟩ (.slice none 0 0)).setCell ⟨w.heap.size + 1, 1, none⟩ (.slice none 0 0))) := (hB1.setCell (by show _ ≤ _ + 1; omega) _).setCell (by show _ ≤ _ + 1; omega) _
        clear hb1 hB1 hp1
        go_wp2
        (try rw [Exit.noGoto_ret])
        have c0 := cell_of_row _ _ 0 _ _ _ HS.out
        have c1 := cell_of_row _ _ 1 _ _ _ HS.out
        refine ⟨.agg #[.slice none 0 0, .slice none 0 0], by simp [results, Try.results11, go_sem, c0, c1], ?_⟩
        rw [HR.out]
        exact ⟨_, rfl, ⟨_, _, rfl, ints_nil _, ints_nil _⟩, HB2.out⟩
      case false =>
        by_cases hx : x < 0
        · have hx0 : decide (x < 0) = true := by simpa using hx
          have HR : Hid (playR g a b x = ⟨[], []⟩) := playR_no (.inr (.inr (.inr (.inl hx))))
          clear hv hlens hx
          clear hmf hmm hd0 hd2 hdA hdB dd0 dd2 ddA ddB hbx
          go_enter_defers Try.func11, Try.ntmps11
          go_wp2
          go_step3
          go_wp2_with fail
          refine (HV.out _ HBX.out).mono ?_
          rintro e w1 ⟨rfl, hb1⟩
          rw [HVV.out]
          have hB1 := HBX.out.trans (hb1.mono HBX.out.size)
          have hp1 := (hb1.block _ (Array.getElem?_eq_some_iff.1 HP2.out).1).trans HP2.out
          have k0 := cell_of_row _ _ 0 _ _ _ hp1
          have k1 := cell_of_row _ _ 1 _ _ _ hp1
          have f0 := frozen_of_row _ _ 0 _ _ hp1
          have f1 := frozen_of_row _ _ 1 _ _ hp1
          have HS := Lib.hid (two_set (c := .slice none 0 0) (d := .slice none 0 0) hp1)
          have HB2 : Hid (Below w.heap.size w ((w1.setCell ⟨w.heap.size + 1, 0, none⟩ (.slice none 0 0)).setCell ⟨w.heap.size + 1, 1, none⟩ (.slice none 0 0))) := (hB1.setCell (by show _ ≤ _ + 1; omega) _).setCell (by show _ ≤ _ + 1; omega) _
          clear hb1 hB1 hp1
          go_wp2
          (try rw [Exit.noGoto_ret])
          have c0 := cell_of_row _ _ 0 _ _ _ HS.out
          have c1 := cell_of_row _ _ 1 _ _ _ HS.out
          refine ⟨.agg #[.slice none 0 0, .slice none 0 0], by simp [results, Try.results11, go_sem, c0, c1], ?_⟩
          rw [HR.out]
          exact ⟨_, rfl, ⟨_, _, rfl, ints_nil _, ints_nil _⟩, HB2.out⟩
        · have hx0 : decide (x < 0) = false := by simpa using hx
          by_cases hx1 : (g.owner.length : Int) ≤ x
          · have hx2 : decide ((g.owner.length : Int) ≤ x) = true := by simpa using hx1
            have HR : Hid (playR g a b x = ⟨[], []⟩) := playR_no (.inr (.inr (.inr (.inr hx1))))
            clear hv hlens hx hx1
            clear hmf hmm hd0 hd2 hdA hdB dd0 dd2 ddA ddB hbx
            go_enter_defers Try.func11, Try.ntmps11
            go_wp2
            go_step3
            go_wp2_with fail
            refine (HV.out _ HBX.out).mono ?_
            rintro e w1 ⟨rfl, hb1⟩
            rw [HVV.out]
            have hB1 := HBX.out.trans (hb1.mono HBX.out.size)
            have hp1 := (hb1.block _ (Array.getElem?_eq_some_iff.1 HP2.out).1).trans HP2.out
            have k0 := cell_of_row _ _ 0 _ _ _ hp1
            have k1 := cell_of_row _ _ 1 _ _ _ hp1
            have f0 := frozen_of_row _ _ 0 _ _ hp1
            have f1 := frozen_of_row _ _ 1 _ _ hp1
            have HS := Lib.hid (two_set (c := .slice none 0 0) (d := .slice none 0 0) hp1)
            have HB2 : Hid (Below w.heap.size w ((w1.setCell ⟨w.heap.size + 1, 0, none⟩ (.slice none 0 0)).setCell ⟨w.heap.size + 1, 1, none⟩ (.slice none 0 0))) := (hB1.setCell (by show _ ≤ _ + 1; omega) _).setCell (by show _ ≤ _ + 1; omega) _
            clear hb1 hB1 hp1
            go_wp2
            (try rw [Exit.noGoto_ret])
            have c0 := cell_of_row _ _ 0 _ _ _ HS.out
            have c1 := cell_of_row _ _ 1 _ _ _ HS.out
            refine ⟨.agg #[.slice none 0 0, .slice none 0 0], by simp [results, Try.results11, go_sem, c0, c1], ?_⟩
            rw [HR.out]
            exact ⟨_, rfl, ⟨_, _, rfl, ints_nil _, ints_nil _⟩, HB2.out⟩
          · have hx2 : decide ((g.owner.length : Int) ≤ x) = false := by simpa using hx1
            obtain ⟨v0n, rfl⟩ : ∃ v : Nat, x = v := ⟨x.toNat, by omega⟩
            have hla : a.length = g.owner.length := by simp at ha; omega
            have hlb : b.length = g.owner.length := by simp at hb; omega
            obtain ⟨n, hn⟩ : ∃ n, n = g.owner.length := ⟨_, rfl⟩
            have hvn : v0n < n := by omega
            have HR : Hid (playR g a b (v0n : Int) = playF g a b (n + 1) [] v0n) := by show _ = _; rw [hn]; exact playR_yes hv hla hlb (by omega)
            have HOw : Hid (∀ u, u < n → 0 ≤ g.owner.getD u 0 ∧ g.owner.getD u 0 ≤ 1) := fun u hu => (valid_at hv u (by omega)).1
            have HSr : Hid (∀ u, u < n → ∀ y ∈ g.succ.getD u [], 0 ≤ y ∧ y < n) := fun u hu y hy => by have := (valid_at hv u (by omega)).2.2.2 y hy; omega
            rw [hlens.2.2] at hd2 dd2
            rw [← hn] at hd0 hd2 dd0 dd2
            rw [hla, ← hn] at hdA ddA
            rw [hlb, ← hn] at hdB ddB
            have H0 : Hid (∀ j, j < n → ∀ W, Below w.heap.size w W → W.cell? ⟨b0, o0 + j, none⟩ = some (.int .i64 (g.owner.getD j 0))) := fun j hj W hW => cellB hW (dd0 j hj)
            have H2 : Hid (∀ j, j < n → ∀ W, Below w.heap.size w W → W.cell? ⟨b2, o2 + j, none⟩ = some (V j) ∧ IsInts W (V j) (g.succ.getD j [])) := fun j hj W hW => ⟨cellB hW (dd2 j hj).1, (dd2 j hj).2.below hW⟩
            have HA : Hid (∀ j, j < n → ∀ W, Below w.heap.size w W → W.cell? ⟨bA, oA + j, none⟩ = some (.int .i64 (a.getD j 0))) := fun j hj W hW => cellB hW (ddA j hj)
            have HBc : Hid (∀ j, j < n → ∀ W, Below w.heap.size w W → W.cell? ⟨bB, oB + j, none⟩ = some (.int .i64 (b.getD j 0))) := fun j hj W hW => cellB hW (ddB j hj)
            obtain rfl := hd0 (by omega)
            obtain rfl := hd2 (by omega)
            obtain rfl := hdA (by omega)
            obtain rfl := hdB (by omega)
            have hn3 : n ≤ 3000 := by omega
            have HLs : Hid (a.length = n ∧ b.length = n ∧ g.owner.length = n ∧ g.succ.length = n) := ⟨by omega, by omega, by omega, by omega⟩
            rw [hlens.2.2, ← hn] at HV HP1 HP2 HBX ⊢
            rw [hla, hlb, ← hn]
            rw [hla, ← hn] at ha
            rw [hlb, ← hn] at hb
            rw [← hn] at hx2
            have hNN : ((n : Int) != (n : Int)) = false := by simp
            clear hv hlens hx hx1 hla hlb hn hd0 hd2 hdA hdB dd0 dd2 ddA ddB hbx m0 m2 mA mB ha hb
            go_enter_defers Try.func11, Try.ntmps11
            go_wp2
            go_step3
            go_wp2_with fail
            refine (HV.out _ HBX.out).mono ?_
            rintro e w1 ⟨rfl, hb1⟩
            rw [HVV.out]
            have hB1 := HBX.out.trans (hb1.mono HBX.out.size)
            have hp1 := (hb1.block _ (Array.getElem?_eq_some_iff.1 HP2.out).1).trans HP2.out
            have hp0 := (hb1.block _ (Array.getElem?_eq_some_iff.1 HP1.out).1).trans HP1.out
            have hs1 : w.heap.size + 2 ≤ w1.heap.size := by have := (Array.getElem?_eq_some_iff.1 hp1).1; omega
            clear hb1
            have HPS : Hid (PS w ((((w1.alloc (.cells #[.slice none 0 0] 22)).alloc (.cells #[.int .i64 (-1)] 3)).alloc (.cells #[.slice (some ⟨bA, oA, none⟩) n cA, .slice (some ⟨bB, oB, none⟩) n cB] 53)).alloc (.map #[] 0)) w1.heap.size #[.slice (some ⟨b0, o0, none⟩) n c0, v1, .slice (some ⟨b2, o2, none⟩) n c2] (.slice (some ⟨bA, oA, none⟩) n cA) (.slice (some ⟨bB, oB, none⟩) n cB) [] (.slice none 0 0) (-1)) := by
              have hbb : Below w1.heap.size w1 ((((w1.alloc (.cells #[.slice none 0 0] 22)).alloc (.cells #[.int .i64 (-1)] 3)).alloc (.cells #[.slice (some ⟨bA, oA, none⟩) n cA, .slice (some ⟨bB, oB, none⟩) n cB] 53)).alloc (.map #[] 0)) := (by repeat (first | exact Below.refl _ _ | assumption | (refine belA ?_ _) | (refine belD ?_ _)))
              refine ⟨hB1.trans (hbb.mono hB1.size), (hbb.block _ (by omega)).trans hp0, (hbb.block _ (by omega)).trans hp1, (by (repeat (rw [alloc_get]; first | rw [if_pos (by first | (simp; done) | (simp; omega))] | rw [if_neg (by first | (simp; done) | (simp; omega))])); (try rfl)), (by (repeat (rw [alloc_get]; first | rw [if_pos (by first | (simp; done) | (simp; omega))] | rw [if_neg (by first | (simp; done) | (simp; omega))])); (try rfl)), (by (repeat (rw [alloc_get]; first | rw [if_pos (by first | (simp; done) | (simp; omega))] | rw [if_neg (by first | (simp; done) | (simp; omega))])); (try rfl)), ?_, OI_nil _ _, hs1, by simp⟩
              have hnm := NumL.made (((w1.alloc (.cells #[.slice none 0 0] 22)).alloc (.cells #[.int .i64 (-1)] 3)).alloc (.cells #[.slice (some ⟨bA, oA, none⟩) n cA, .slice (some ⟨bB, oB, none⟩) n cB] 53))
              simp only [World.size_alloc] at hnm
              exact hnm
            clear hB1 hp1 hp0
            go_wp2
            go_step3
            go_wp2
            generalize ((((w1.alloc (.cells #[.slice none 0 0] 22)).alloc (.cells #[.int .i64 (-1)] 3)).alloc (.cells #[.slice (some ⟨bA, oA, none⟩) n cA, .slice (some ⟨bB, oB, none⟩) n cB] 53)).alloc (.map #[] 0)) = W0 at *
            generalize w1.heap.size = s at *
            have HEnd0 : Hid (∀ (P : Ph) (w9 : World) (y0 y1 : Value), Below w.heap.size w w9 → IsInts w9 y0 P.stem → IsInts w9 y1 P.loop → P = playR g a b v0n → NewPath (playR g a b v0n) w (.returned (.agg #[y0, y1])) w9) := fun P w9 y0 y1 h1 h2 h3 h4 => by
              subst h4
              exact ⟨_, rfl, ⟨_, _, rfl, h2, h3⟩, h1⟩
            go_loopg [14] (n + 1) (fun gh x wr => ∃ (fu : Nat) (way : List Nat) (v : Nat) (vw : Value), gh = fu ∧ x = .int .i64 (v : Int) ∧ v < n ∧ Hid (PS w wr s #[.slice (some ⟨b0, o0, none⟩) n c0, v1, .slice (some ⟨b2, o2, none⟩) n c2] (.slice (some ⟨bA, oA, none⟩) n cA) (.slice (some ⟨bB, oB, none⟩) n cB) way vw (-1)) ∧ Hid (way.Nodup ∧ (∀ u ∈ way, u < n) ∧ fu + way.length = n + 1 ∧ playF g a b fu way v = playR g a b v0n))
            case atStart => exact ⟨n + 1, [], v0n, _, rfl, rfl, hvn, HPS, List.nodup_nil, fun u hu => absurd hu (by simp), rfl, HR.out.symm⟩
            case round =>
              clear HPS
              obtain ⟨fu, way, v, vw, hgk, rfl, hv, HPS, HW⟩ := hrel
              have HGK := Lib.hid hgk
              clear hgk
              have hwn : way.length ≤ n := nd_len HW.out.1 HW.out.2.1
              obtain ⟨fu', hfu⟩ : ∃ f', fu = f' + 1 := ⟨fu - 1, by have := HW.out.2.2.1; omega⟩
              have hls := HPS.out.ls
              have hsz := HPS.out.sz
              have hv64 : I64 (v : Int) := by unfold I64; omega
              have hget := HPS.out.num.num.get hv64
              by_cases hin : v ∈ way
              · have hlk := hget.1 (castL_mem.2 hin)
                rw [castL_idx] at hlk
                have hidx : way.idxOf v < way.length := List.idxOf_lt_length_of_mem hin
                have HPl : Hid (playR g a b v0n = ⟨castL (way.take (way.idxOf v)), castL (way.drop (way.idxOf v))⟩) := by
                  show _ = _
                  rw [← HW.out.2.2.2, hfu, playF_yes hin]
                generalize way.idxOf v = ix at *
                have hb := HPS.out.bf
                have g0 := cell_of_row _ _ 0 _ _ _ hb
                have g1 := frozen_of_row _ _ 0 _ _ hb
                obtain ⟨aW, cW, hvw, -, -⟩ := HPS.out.ow.row (by rw [castL_len]; omega)
                rw [castL_len] at hvw
                subst hvw
                -- behind the two stores
                have HB1 : Hid (Below w.heap.size w (wr.setCell ⟨s + 1, 0, none⟩ (.int .i64 (ix : Int)))) := HPS.out.bl.setCell (show w.heap.size ≤ s + 1 by omega) _
                have HPQ : Hid ((wr.setCell ⟨s + 1, 0, none⟩ (.int .i64 (ix : Int))).heap[w.heap.size + 1]? = some (.cells #[.slice none 0 0, .slice none 0 0] 28 (0, 0))) := (heap_set_ne wr (s + 1) 0 _ _ (by omega)).trans HPS.out.bp
                have HF1 : Hid ((wr.setCell ⟨s + 1, 0, none⟩ (.int .i64 (ix : Int))).heap[s + 1]? = some (.cells #[.int .i64 (ix : Int)] 3 (0, 0))) := one_set hb
                have HW1 : Hid ((wr.setCell ⟨s + 1, 0, none⟩ (.int .i64 (ix : Int))).heap[s]? = some (.cells #[.slice (some ⟨aW, 0, none⟩) way.length cW] 22 (0, 0))) := (heap_set_ne wr (s + 1) 0 _ _ (by omega)).trans HPS.out.bw
                have HO1 : Hid (OI (wr.setCell ⟨s + 1, 0, none⟩ (.int .i64 (ix : Int))) (s + 4) (.slice (some ⟨aW, 0, none⟩) way.length cW) (castL way)) := HPS.out.ow.only (S := fun k => k = s + 1) (Only.set _ _ _ rfl) fun k hk e => by have := HPS.out.ow.ge k hk; omega
                have hp1 := HPQ.out
                have k0 := cell_of_row _ _ 0 _ _ _ hp1
                have k1 := cell_of_row _ _ 1 _ _ _ hp1
                have f0 := frozen_of_row _ _ 0 _ _ hp1
                have f1 := frozen_of_row _ _ 1 _ _ hp1
                have HS := Lib.hid (two_set (c := .slice none 0 0) (d := .slice none 0 0) hp1)
                have HDf : Hid (CallsD Try.prog 30 #[.pointer (some ⟨s + 1, 0, none⟩), .pointer (some ⟨s, 0, none⟩), .pointer (some ⟨w.heap.size + 1, 0, none⟩)] .returning (((wr.setCell ⟨s + 1, 0, none⟩ (.int .i64 (ix : Int))).setCell ⟨w.heap.size + 1, 0, none⟩ (.slice none 0 0)).setCell ⟨w.heap.size + 1, 1, none⟩ (.slice none 0 0))
                    (fun e u' w' => u' = .returning ∧ DefOut w.heap.size (((wr.setCell ⟨s + 1, 0, none⟩ (.int .i64 (ix : Int))).setCell ⟨w.heap.size + 1, 0, none⟩ (.slice none 0 0)).setCell ⟨w.heap.size + 1, 1, none⟩ (.slice none 0 0)) (w.heap.size + 1) ⟨(castL way).take ix, (castL way).drop ix⟩ e w')) := by
                  have hne : ∀ k, k ≠ w.heap.size + 1 → (((wr.setCell ⟨s + 1, 0, none⟩ (.int .i64 (ix : Int))).setCell ⟨w.heap.size + 1, 0, none⟩ (.slice none 0 0)).setCell ⟨w.heap.size + 1, 1, none⟩ (.slice none 0 0)).heap[k]? = (wr.setCell ⟨s + 1, 0, none⟩ (.int .i64 (ix : Int))).heap[k]? := fun k hk => (heap_set_ne _ _ _ _ _ hk).trans (heap_set_ne _ _ _ _ _ hk)
                  have hO2 := (HO1.out.only (S := fun k => k = w.heap.size + 1) (Only.set (w.heap.size + 1) 0 (.slice none 0 0) rfl) fun k hk e => by have := HO1.out.ge k hk; omega).only (S := fun k => k = w.heap.size + 1) (Only.set (w.heap.size + 1) 1 (.slice none 0 0) rfl) fun k hk e => by have := HO1.out.ge k hk; omega
                  rw [← castL_len way] at hO2
                  have hw2 := cell_of_row _ _ 0 _ _ _ ((hne s (by omega)).trans HW1.out)
                  rw [← castL_len way] at hw2
                  exact def_yes w.heap.size (s + 1) s (w.heap.size + 1) _ aW cW ix (castL way) (cell_of_row _ _ 0 _ _ _ ((hne (s + 1) (by omega)).trans HF1.out)) hw2 (hO2.base (by omega)) (castL_i64 HW.out.2.1 (by omega)) (by rw [castL_len]; omega) (by rw [castL_len]; exact hidx) HS.out (by omega)
                have HEnd : Hid (∀ (w9 : World) (y0 y1 : Value), Below w.heap.size (((wr.setCell ⟨s + 1, 0, none⟩ (.int .i64 (ix : Int))).setCell ⟨w.heap.size + 1, 0, none⟩ (.slice none 0 0)).setCell ⟨w.heap.size + 1, 1, none⟩ (.slice none 0 0)) w9 → IsInts w9 y0 ((castL way).take ix) → IsInts w9 y1 ((castL way).drop ix) → NewPath (playR g a b v0n) w (.returned (.agg #[y0, y1])) w9) := fun w9 y0 y1 h1 h2 h3 =>
                  HEnd0.out ⟨(castL way).take ix, (castL way).drop ix⟩ w9 y0 y1 (((HB1.out.setCell (show w.heap.size ≤ w.heap.size + 1 by omega) _).setCell (show w.heap.size ≤ w.heap.size + 1 by omega) _).trans h1) h2 h3 (by rw [HPl.out, castL_take, castL_drop])
                clear hget hin hb hp1
                go_wp2
                (try rw [Exit.noGoto_ret])
                refine leaves_cons (f := 30) (args := #[.pointer (some ⟨s + 1, 0, none⟩), .pointer (some ⟨s, 0, none⟩), .pointer (some ⟨w.heap.size + 1, 0, none⟩)]) (by simp) (by simp [go_sem]) ?_
                refine (HDf.out).mono ?_
                rintro e u' w9 ⟨rfl, rfl, hb9, y0, y1, hp9, iy0, iy1⟩
                obtain ⟨a0', c0', rfl⟩ := iy0.shape
                obtain ⟨a1', c1', rfl⟩ := iy1.shape
                have k0 := cell_of_row _ _ 0 _ _ _ hp9
                have k1 := cell_of_row _ _ 1 _ _ _ hp9
                show Leaves _ _ _ _ [] .returning w9
                exact ⟨.agg #[_, _], by simp [results, Try.results11, go_sem, k0, k1], HEnd.out w9 _ _ hb9 iy0 iy1⟩
              · obtain ⟨c, hlk⟩ := hget.2 fun h => hin (castL_mem.1 h)
                have HNI := Lib.hid hin
                have HFU := Lib.hid hfu
                obtain ⟨aW, cW, hvw⟩ := HPS.out.ow.slice
                rw [castL_len] at hvw
                subst hvw
                have z2 := cell_of_row _ _ 0 _ _ _ HPS.out.bw
                obtain ⟨aV, cV, hvV⟩ := (H2.out v hv w (Below.refl _ _)).2.shape
                obtain ⟨row, hrow⟩ : ∃ row, g.succ.getD v [] = row := ⟨_, rfl⟩
                have HRW := Lib.hid hrow
                rw [hrow] at hvV
                have HVV2 := Lib.hid hvV
                clear hrow
                obtain ⟨ow0, ow1⟩ := HOw.out v hv
                have hvI : (v : Int) < n := by omega
                clear hget hin hfu hvV
                by_cases how : g.owner.getD v 0 = 1
                · have HOv := Lib.hid how
                  obtain ⟨ti, hti⟩ : ∃ ti, b.getD v 0 = ti := ⟨_, rfl⟩
                  have HTI := Lib.hid hti
                  clear hti
                  clear how ow0 ow1
                  obtain ⟨w3, hup, hnm, hgr⟩ := HPS.out.num.upd hv64 (fun h => HNI.out (castL_mem.1 h)) (by rw [castL_len]; omega)
                  rw [castL_len] at hup
                  have hnm2 : NumL w3 (s + 1 + 1 + 1) (castL (way ++ [v])) := by rw [castL_app]; exact hnm
                  have HUp : Hid (NumL w3 (s + 1 + 1 + 1) (castL (way ++ [v])) ∧ wr.grownBy w3 (some (s + 1 + 1 + 1))) := ⟨hnm2, hgr⟩
                  obtain ⟨hOS, hz3, hB3⟩ := HPS.out.row hgr
                  have z3 := cell_of_row _ _ 0 _ _ _ hz3
                  clear hnm hnm2 hgr hz3
                  go_wp2_with (at_builtin; refine app_int rfl _ _ (v : Int) rfl (s + 4) _ _ hOS rfl _ (by simp) rfl (by rw [castL_len]; omega) hB3 ?_; intro v' w' hown' hg hmv; obtain ⟨ao', cap', hv'⟩ := hown'.slice; rw [List.length_append, List.length_singleton, castL_len] at hv'; subst hv'; have HP := Lib.hid (HPS.out.push HUp.out.1 HUp.out.2 hown' hg); have k2 := cell_of_row _ _ 0 _ _ _ HP.out.2; have f2 := frozen_of_row _ _ 0 _ _ HP.out.2; have q0 := cell_of_row _ _ 0 _ _ _ HP.out.1.b0; have q2 := cell_of_row _ _ 2 _ _ _ HP.out.1.b0; have q3 := cell_of_row _ _ 1 _ _ _ HP.out.1.bs; have q4 := H0.out v hv _ HP.out.1.bl; rw [HOv.out] at q4; have q5 := HBc.out v hv _ HP.out.1.bl; rw [HTI.out] at q5; have q6 := (H2.out v hv _ HP.out.1.bl).1; rw [HVV2.out] at q6; clear hown' hg hmv)
                  have HP5 := Lib.hid HP.out.1
                  have HIV : Hid (IsInts (w'.setCell ⟨s, 0, none⟩ (.slice ao' (way.length + 1) cap')) (.slice aV row.length cV) row) := by
                    have := (H2.out v hv _ HP5.out.bl).2
                    rw [HVV2.out, HRW.out] at this
                    exact this
                  clear k2 f2 q0 q2 q3 q4 q5 q6 HP z3 z2 hup hOS hB3 hlk
                  generalize w'.setCell ⟨s, 0, none⟩ (.slice ao' (way.length + 1) cap') = w5 at *
                  refine (Contains_c _ _ _ _ HIV.out).mono ?_
                  rintro e w6 ⟨rfl, nq, rfl⟩
                  have HP6 := Lib.hid (HP5.out.below (below_draws w5 _ nq))
                  clear HP5 HIV
                  generalize w5.drewN nq = w6 at *
                  have HSy : Hid (sayP g a b v = ti) := by
                    show _ = _
                    unfold sayP
                    rw [HOv.out]
                    exact HTI.out
                  generalize hd : decide (ti ∈ row) = dd
                  cases dd
                  · have HPl : Hid (playR g a b v0n = ⟨[], []⟩) := by
                      show _ = _
                      rw [← HW.out.2.2.2, HFU.out, playF_no HNI.out (by rw [HSy.out, HRW.out]; exact of_decide_eq_false hd)]
                    have HPQ : Hid (w6.heap[w.heap.size + 1]? = some (.cells #[.slice none 0 0, .slice none 0 0] 28 (0, 0))) := HP6.out.bp
                    have hp1 := HPQ.out
                    have k0 := cell_of_row _ _ 0 _ _ _ hp1
                    have k1 := cell_of_row _ _ 1 _ _ _ hp1
                    have f0 := frozen_of_row _ _ 0 _ _ hp1
                    have f1 := frozen_of_row _ _ 1 _ _ hp1
                    have HS := Lib.hid (two_set (c := .slice none 0 0) (d := .slice none 0 0) hp1)
                    have HDf : Hid (CallsD Try.prog 30 #[.pointer (some ⟨s + 1, 0, none⟩), .pointer (some ⟨s, 0, none⟩), .pointer (some ⟨w.heap.size + 1, 0, none⟩)] .returning ((w6.setCell ⟨w.heap.size + 1, 0, none⟩ (.slice none 0 0)).setCell ⟨w.heap.size + 1, 1, none⟩ (.slice none 0 0))
                        (fun e u' w' => u' = .returning ∧ DefOut w.heap.size ((w6.setCell ⟨w.heap.size + 1, 0, none⟩ (.slice none 0 0)).setCell ⟨w.heap.size + 1, 1, none⟩ (.slice none 0 0)) (w.heap.size + 1) ⟨[], []⟩ e w')) := by
                      have hne : ∀ k, k ≠ w.heap.size + 1 → ((w6.setCell ⟨w.heap.size + 1, 0, none⟩ (.slice none 0 0)).setCell ⟨w.heap.size + 1, 1, none⟩ (.slice none 0 0)).heap[k]? = w6.heap[k]? := fun k hk => (heap_set_ne _ _ _ _ _ hk).trans (heap_set_ne _ _ _ _ _ hk)
                      exact def_no w.heap.size (s + 1) s (w.heap.size + 1) _ (cell_of_row _ _ 0 _ _ _ ((hne (s + 1) (by omega)).trans HP6.out.bf)) HS.out
                    have HEnd : Hid (∀ (w9 : World) (y0 y1 : Value), Below w.heap.size ((w6.setCell ⟨w.heap.size + 1, 0, none⟩ (.slice none 0 0)).setCell ⟨w.heap.size + 1, 1, none⟩ (.slice none 0 0)) w9 → IsInts w9 y0 [] → IsInts w9 y1 [] → NewPath (playR g a b v0n) w (.returned (.agg #[y0, y1])) w9) := fun w9 y0 y1 h1 h2 h3 =>
                      HEnd0.out ⟨[], []⟩ w9 y0 y1 (((HP6.out.bl.setCell (show w.heap.size ≤ w.heap.size + 1 by omega) _).setCell (show w.heap.size ≤ w.heap.size + 1 by omega) _).trans h1) h2 h3 HPl.out.symm
                    clear hp1 hd
                    go_wp2
                    (try rw [Exit.noGoto_ret])
                    refine leaves_cons (f := 30) (args := #[.pointer (some ⟨s + 1, 0, none⟩), .pointer (some ⟨s, 0, none⟩), .pointer (some ⟨w.heap.size + 1, 0, none⟩)]) (by simp) (by simp [go_sem]) ?_
                    refine (HDf.out).mono ?_
                    rintro e u' w9 ⟨rfl, rfl, hb9, y0, y1, hp9, iy0, iy1⟩
                    obtain ⟨a0', c0', rfl⟩ := iy0.shape
                    obtain ⟨a1', c1', rfl⟩ := iy1.shape
                    have k0 := cell_of_row _ _ 0 _ _ _ hp9
                    have k1 := cell_of_row _ _ 1 _ _ _ hp9
                    show Leaves _ _ _ _ [] .returning w9
                    exact ⟨.agg #[_, _], by simp [results, Try.results11, go_sem, k0, k1], HEnd.out w9 _ _ hb9 iy0 iy1⟩
                  · have hmem := of_decide_eq_true hd
                    rw [← HRW.out] at hmem
                    obtain ⟨t0, t1⟩ := HSr.out v hv _ hmem
                    have HPl : Hid (playF g a b fu' (way ++ [v]) (ti).toNat = playR g a b v0n) := by
                      show _ = _
                      rw [← HW.out.2.2.2, HFU.out, playF_next HNI.out (by rw [HSy.out]; exact hmem), HSy.out]
                    obtain ⟨t, rfl⟩ := Int.eq_ofNat_of_zero_le t0
                    have htn : t < n := by omega
                    rw [Int.toNat_natCast] at HPl
                    clear hd hmem t0 t1
                    go_wp2
                    go_roundg fu'
                    case measure => have := HGK.out; have := HFU.out; omega
                    case rel =>
                      refine ⟨fu', way ++ [v], t, _, rfl, rfl, htn, HP6, ?_, ?_, ?_, HPl.out⟩
                      · rw [List.nodup_append]
                        exact ⟨HW.out.1, by simp, fun q hq r hr => by rw [List.mem_singleton.1 hr]; rintro rfl; exact HNI.out hq⟩
                      · intro q hq
                        rcases List.mem_append.1 hq with h | h
                        · exact HW.out.2.1 q h
                        · rw [List.mem_singleton.1 h]; exact hv
                      · have h1 := HW.out.2.2.1
                        have h2 := HFU.out
                        rw [List.length_append, List.length_singleton]; omega
                · have how0 : g.owner.getD v 0 = 0 := by omega
                  have HOv := Lib.hid how0
                  obtain ⟨ti, hti⟩ : ∃ ti, a.getD v 0 = ti := ⟨_, rfl⟩
                  have HTI := Lib.hid hti
                  clear hti
                  clear how how0 ow0 ow1
                  obtain ⟨w3, hup, hnm, hgr⟩ := HPS.out.num.upd hv64 (fun h => HNI.out (castL_mem.1 h)) (by rw [castL_len]; omega)
                  rw [castL_len] at hup
                  have hnm2 : NumL w3 (s + 1 + 1 + 1) (castL (way ++ [v])) := by rw [castL_app]; exact hnm
                  have HUp : Hid (NumL w3 (s + 1 + 1 + 1) (castL (way ++ [v])) ∧ wr.grownBy w3 (some (s + 1 + 1 + 1))) := ⟨hnm2, hgr⟩
                  obtain ⟨hOS, hz3, hB3⟩ := HPS.out.row hgr
                  have z3 := cell_of_row _ _ 0 _ _ _ hz3
                  clear hnm hnm2 hgr hz3
                  go_wp2_with (at_builtin; refine app_int rfl _ _ (v : Int) rfl (s + 4) _ _ hOS rfl _ (by simp) rfl (by rw [castL_len]; omega) hB3 ?_; intro v' w' hown' hg hmv; obtain ⟨ao', cap', hv'⟩ := hown'.slice; rw [List.length_append, List.length_singleton, castL_len] at hv'; subst hv'; have HP := Lib.hid (HPS.out.push HUp.out.1 HUp.out.2 hown' hg); have k2 := cell_of_row _ _ 0 _ _ _ HP.out.2; have f2 := frozen_of_row _ _ 0 _ _ HP.out.2; have q0 := cell_of_row _ _ 0 _ _ _ HP.out.1.b0; have q2 := cell_of_row _ _ 2 _ _ _ HP.out.1.b0; have q3 := cell_of_row _ _ 0 _ _ _ HP.out.1.bs; have q4 := H0.out v hv _ HP.out.1.bl; rw [HOv.out] at q4; have q5 := HA.out v hv _ HP.out.1.bl; rw [HTI.out] at q5; have q6 := (H2.out v hv _ HP.out.1.bl).1; rw [HVV2.out] at q6; clear hown' hg hmv)
                  have HP5 := Lib.hid HP.out.1
                  have HIV : Hid (IsInts (w'.setCell ⟨s, 0, none⟩ (.slice ao' (way.length + 1) cap')) (.slice aV row.length cV) row) := by
                    have := (H2.out v hv _ HP5.out.bl).2
                    rw [HVV2.out, HRW.out] at this
                    exact this
                  clear k2 f2 q0 q2 q3 q4 q5 q6 HP z3 z2 hup hOS hB3 hlk
                  generalize w'.setCell ⟨s, 0, none⟩ (.slice ao' (way.length + 1) cap') = w5 at *
                  refine (Contains_c _ _ _ _ HIV.out).mono ?_
                  rintro e w6 ⟨rfl, nq, rfl⟩
                  have HP6 := Lib.hid (HP5.out.below (below_draws w5 _ nq))
                  clear HP5 HIV
                  generalize w5.drewN nq = w6 at *
                  have HSy : Hid (sayP g a b v = ti) := by
                    show _ = _
                    unfold sayP
                    rw [HOv.out]
                    exact HTI.out
                  generalize hd : decide (ti ∈ row) = dd
                  cases dd
                  · have HPl : Hid (playR g a b v0n = ⟨[], []⟩) := by
                      show _ = _
                      rw [← HW.out.2.2.2, HFU.out, playF_no HNI.out (by rw [HSy.out, HRW.out]; exact of_decide_eq_false hd)]
                    have HPQ : Hid (w6.heap[w.heap.size + 1]? = some (.cells #[.slice none 0 0, .slice none 0 0] 28 (0, 0))) := HP6.out.bp
                    have hp1 := HPQ.out
                    have k0 := cell_of_row _ _ 0 _ _ _ hp1
                    have k1 := cell_of_row _ _ 1 _ _ _ hp1
                    have f0 := frozen_of_row _ _ 0 _ _ hp1
                    have f1 := frozen_of_row _ _ 1 _ _ hp1
                    have HS := Lib.hid (two_set (c := .slice none 0 0) (d := .slice none 0 0) hp1)
                    have HDf : Hid (CallsD Try.prog 30 #[.pointer (some ⟨s + 1, 0, none⟩), .pointer (some ⟨s, 0, none⟩), .pointer (some ⟨w.heap.size + 1, 0, none⟩)] .returning ((w6.setCell ⟨w.heap.size + 1, 0, none⟩ (.slice none 0 0)).setCell ⟨w.heap.size + 1, 1, none⟩ (.slice none 0 0))
                        (fun e u' w' => u' = .returning ∧ DefOut w.heap.size ((w6.setCell ⟨w.heap.size + 1, 0, none⟩ (.slice none 0 0)).setCell ⟨w.heap.size + 1, 1, none⟩ (.slice none 0 0)) (w.heap.size + 1) ⟨[], []⟩ e w')) := by
                      have hne : ∀ k, k ≠ w.heap.size + 1 → ((w6.setCell ⟨w.heap.size + 1, 0, none⟩ (.slice none 0 0)).setCell ⟨w.heap.size + 1, 1, none⟩ (.slice none 0 0)).heap[k]? = w6.heap[k]? := fun k hk => (heap_set_ne _ _ _ _ _ hk).trans (heap_set_ne _ _ _ _ _ hk)
                      exact def_no w.heap.size (s + 1) s (w.heap.size + 1) _ (cell_of_row _ _ 0 _ _ _ ((hne (s + 1) (by omega)).trans HP6.out.bf)) HS.out
                    have HEnd : Hid (∀ (w9 : World) (y0 y1 : Value), Below w.heap.size ((w6.setCell ⟨w.heap.size + 1, 0, none⟩ (.slice none 0 0)).setCell ⟨w.heap.size + 1, 1, none⟩ (.slice none 0 0)) w9 → IsInts w9 y0 [] → IsInts w9 y1 [] → NewPath (playR g a b v0n) w (.returned (.agg #[y0, y1])) w9) := fun w9 y0 y1 h1 h2 h3 =>
                      HEnd0.out ⟨[], []⟩ w9 y0 y1 (((HP6.out.bl.setCell (show w.heap.size ≤ w.heap.size + 1 by omega) _).setCell (show w.heap.size ≤ w.heap.size + 1 by omega) _).trans h1) h2 h3 HPl.out.symm
                    clear hp1 hd
                    go_wp2
                    (try rw [Exit.noGoto_ret])
                    refine leaves_cons (f := 30) (args := #[.pointer (some ⟨s + 1, 0, none⟩), .pointer (some ⟨s, 0, none⟩), .pointer (some ⟨w.heap.size + 1, 0, none⟩)]) (by simp) (by simp [go_sem]) ?_
                    refine (HDf.out).mono ?_
                    rintro e u' w9 ⟨rfl, rfl, hb9, y0, y1, hp9, iy0, iy1⟩
                    obtain ⟨a0', c0', rfl⟩ := iy0.shape
                    obtain ⟨a1', c1', rfl⟩ := iy1.shape
                    have k0 := cell_of_row _ _ 0 _ _ _ hp9
                    have k1 := cell_of_row _ _ 1 _ _ _ hp9
                    show Leaves _ _ _ _ [] .returning w9
                    exact ⟨.agg #[_, _], by simp [results, Try.results11, go_sem, k0, k1], HEnd.out w9 _ _ hb9 iy0 iy1⟩
                  · have hmem := of_decide_eq_true hd
                    rw [← HRW.out] at hmem
                    obtain ⟨t0, t1⟩ := HSr.out v hv _ hmem
                    have HPl : Hid (playF g a b fu' (way ++ [v]) (ti).toNat = playR g a b v0n) := by
                      show _ = _
                      rw [← HW.out.2.2.2, HFU.out, playF_next HNI.out (by rw [HSy.out]; exact hmem), HSy.out]
                    obtain ⟨t, rfl⟩ := Int.eq_ofNat_of_zero_le t0
                    have htn : t < n := by omega
                    rw [Int.toNat_natCast] at HPl
                    clear hd hmem t0 t1
                    go_wp2
                    go_roundg fu'
                    case measure => have := HGK.out; have := HFU.out; omega
                    case rel =>
                      refine ⟨fu', way ++ [v], t, _, rfl, rfl, htn, HP6, ?_, ?_, ?_, HPl.out⟩
                      · rw [List.nodup_append]
                        exact ⟨HW.out.1, by simp, fun q hq r hr => by rw [List.mem_singleton.1 hr]; rintro rfl; exact HNI.out hq⟩
                      · intro q hq
                        rcases List.mem_append.1 hq with h | h
                        · exact HW.out.2.1 q h
                        · rw [List.mem_singleton.1 h]; exact hv
                      · have h1 := HW.out.2.2.1
                        have h2 := HFU.out
                        rw [List.length_append, List.length_singleton]; omega

end Go.Proofs.Ytkbiopjinegckaa
