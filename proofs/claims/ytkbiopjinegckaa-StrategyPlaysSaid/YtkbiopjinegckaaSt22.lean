/- What the reference's Play of strategies returns. -/
import Derived.Test.YtkbiopjinegckaaSt21
namespace Go.Proofs.Ytkbiopjinegckaa
open Go.RowKit

/-- The memory of the reference's Play. -/
structure PR (w W : World) (cs : Array Value) (way : List Nat) (vl : Value) : Prop where
  bl : Below w.heap.size w W
  b0 : W.heap[w.heap.size]? = some (.cells cs 25 (0, 0))
  bp : W.heap[w.heap.size + 1]? = some (.cells #[.slice none 0 0, .slice none 0 0] 28 (0, 0))
  ow : OI W (w.heap.size + 2) vl (castL way)
theorem PR.below {w W W1 : World} {cs : Array Value} {way : List Nat} {vl : Value} (h : PR w W cs way vl) (hb : Below W.heap.size W W1) : PR w W1 cs way vl :=
  ⟨h.bl.trans (hb.mono h.bl.size), (hb.block _ (Array.getElem?_eq_some_iff.1 h.b0).1).trans h.b0, (hb.block _ (Array.getElem?_eq_some_iff.1 h.bp).1).trans h.bp, h.ow.below hb⟩
theorem PR.push {w W W1 : World} {cs : Array Value} {way : List Nat} {vl vl' : Value} {v : Nat} (h : PR w W cs way vl) (h1 : OI W1 (w.heap.size + 2) vl' (castL way ++ [(v : Int)])) (hg : W.grownBy W1 vl.ownBlock) : PR w W1 cs (way ++ [v]) vl' := by
  have hv : ∀ k, vl.ownBlock = some k → w.heap.size + 2 ≤ k := fun k hk => h.ow.ge k hk
  refine ⟨h.bl.grown hg h.bl.size fun k hk => by have := hv k hk; omega, (hg.block _ (Array.getElem?_eq_some_iff.1 h.b0).1 fun e => by have := hv _ e.symm; omega).trans h.b0, (hg.block _ (Array.getElem?_eq_some_iff.1 h.bp).1 fun e => by have := hv _ e.symm; omega).trans h.bp, ?_⟩
  rw [castL_app, castL_one]; exact h1
theorem idx_at {way : List Nat} {v i : Nat} (h : v ∉ way.take i) (hi : i < way.length) (e : way.getD i 0 = v) : way.idxOf v = i := by
  have h1 : way.take (i + 1) = way.take i ++ [v] := by rw [List.take_succ_eq_append_getElem hi, ← getD_lt _ 0 _ hi, e]
  have h2 : (way.take (i + 1)).idxOf v = i := by
    rw [h1, idxN_new h, List.length_take]; omega
  have h3 : way = way.take (i + 1) ++ way.drop (i + 1) := (List.take_append_drop _ _).symm
  rw [h3, idxN_pre (by rw [h1]; simp), h2]

set_option maxRecDepth 100000 in
set_option maxHeartbeats 8000000 in
theorem RPlay_c (w : World) (vg va vb : Value) (g : Gm) (a b : List Int) (x : Int) (hg : IsGame w vg g) (ha : IsInts w va a) (hb : IsInts w vb b) :
    Calls Try.prog 12 #[vg, va, vb, .int .i64 x] w (NewPath (playR g a b x) w) := by
  have HV : Hid (∀ W, Below w.heap.size w W → Calls Try.prog 33 #[vg] W (Calm (.bool (validB g)) W)) := fun W hW => RValid_c W _ g (hg.below hW)
  have HFW : Hid (∀ W, Below w.heap.size w W → ∀ k x, k < g.succ.length → Calls Try.prog 34 #[vg, .int .i64 ((k : Nat) : Int), .int .i64 x] W (Calm (.bool (decide (x ∈ g.succ.getD k []))) W)) := fun W hW k x hk => follows_c W _ g k x (hg.below hW) hk
  obtain ⟨v0, v1, v2, rfl, i0, i1, i2⟩ := id hg
  obtain ⟨a0, c0, rfl⟩ := i0.shape
  obtain ⟨aA, cA, rfl⟩ := ha.shape
  obtain ⟨aB, cB, rfl⟩ := hb.shape
  obtain ⟨b0, o0, hd0, m0, dd0⟩ := i0.data
  obtain ⟨bA, oA, hdA, mA, ddA⟩ := ha.data
  obtain ⟨bB, oB, hdB, mB, ddB⟩ := hb.data
  have hbx : Below w.heap.size w ((w.alloc (.cells #[.slice a0 g.owner.length c0, v1, v2] 25)).alloc (.cells #[.slice none 0 0, .slice none 0 0] 28)) := (by repeat (first | exact Below.refl _ _ | assumption | (refine belA ?_ _) | (refine belD ?_ _)))
  have HP1 : Hid (((w.alloc (.cells #[.slice a0 g.owner.length c0, v1, v2] 25)).alloc (.cells #[.slice none 0 0, .slice none 0 0] 28)).heap[w.heap.size]? = some (.cells #[.slice a0 g.owner.length c0, v1, v2] 25 (0, 0))) := (by (repeat (rw [alloc_get]; first | rw [if_pos (by first | (simp; done) | (simp; omega))] | rw [if_neg (by first | (simp; done) | (simp; omega))])); (try rfl))
  have HP2 : Hid (((w.alloc (.cells #[.slice a0 g.owner.length c0, v1, v2] 25)).alloc (.cells #[.slice none 0 0, .slice none 0 0] 28)).heap[w.heap.size + 1]? = some (.cells #[.slice none 0 0, .slice none 0 0] 28 (0, 0))) := (by (repeat (rw [alloc_get]; first | rw [if_pos (by first | (simp; done) | (simp; omega))] | rw [if_neg (by first | (simp; done) | (simp; omega))])); (try rfl))
  have HBX := Lib.hid hbx
  clear hg i0 i1 i2 ha hb
  cases hv : validB g
  case false =>
    have HR : Hid (playR g a b x = ⟨[], []⟩) := playR_no (.inl hv)
    have HVV := Lib.hid hv
    clear hv
    clear hd0 hdA hdB dd0 ddA ddB hbx HFW
    go_enter Try.func12, Try.ntmps12
    go_wp2_with fail
    refine (HV.out _ HBX.out).mono ?_
    rintro e w1 ⟨rfl, hb1⟩
    rw [HVV.out]
    have hB1 := HBX.out.trans (hb1.mono HBX.out.size)
    have hp1 := (hb1.block _ (Array.getElem?_eq_some_iff.1 HP2.out).1).trans HP2.out
    have k0 := cell_of_row _ _ 0 _ _ _ hp1
    have k1 := cell_of_row _ _ 1 _ _ _ hp1
    have f0 := frozen_of_row _ _ 0 _ _ hp1
    have f1 := frozen_of_row _ _ 1 _ _ hp1
    have HS := Lib.hid (two_set (c := .slice none 0 0) (d := .slice none 0 0) hp1)
    have HB2 : Hid (Below w.heap.size w ((w1.setCell ⟨w.heap.size + 1, 0, none⟩ (.slice none 0 0)).setCell ⟨w.heap.size + 1, 1, none⟩ (.slice none 0 0))) := (hB1.setCell (by show _ ≤ _ + 1; omega) _).setCell (by show _ ≤ _ + 1; omega) _
    clear hb1 hB1 hp1
    go_wp2
    have c0 := cell_of_row _ _ 0 _ _ _ HS.out
    have c1 := cell_of_row _ _ 1 _ _ _ HS.out
    refine bodyPost_ret (v := .agg #[.slice none 0 0, .slice none 0 0]) (by simp [results, Try.results12, go_sem, c0, c1]) rfl ?_
    rw [HR.out]
    exact ⟨_, rfl, ⟨_, _, rfl, ints_nil _, ints_nil _⟩, HB2.out⟩
  case true =>
    have HVV := Lib.hid hv
    have hlens := valid_lens hv
    cases ha : ((a.length : Int) != g.owner.length)
    case true =>
      have HR : Hid (playR g a b x = ⟨[], []⟩) := playR_no (.inr (.inl (by simp at ha; omega)))
      clear hv hlens
      clear hd0 hdA hdB dd0 ddA ddB hbx HFW
      go_enter Try.func12, Try.ntmps12
      go_wp2_with fail
      refine (HV.out _ HBX.out).mono ?_
      rintro e w1 ⟨rfl, hb1⟩
      rw [HVV.out]
      have hB1 := HBX.out.trans (hb1.mono HBX.out.size)
      have hp1 := (hb1.block _ (Array.getElem?_eq_some_iff.1 HP2.out).1).trans HP2.out
      have k0 := cell_of_row _ _ 0 _ _ _ hp1
      have k1 := cell_of_row _ _ 1 _ _ _ hp1
      have f0 := frozen_of_row _ _ 0 _ _ hp1
      have f1 := frozen_of_row _ _ 1 _ _ hp1
      have HS := Lib.hid (two_set (c := .slice none 0 0) (d := .slice none 0 0) hp1)
      have HB2 : Hid (Below w.heap.size w ((w1.setCell ⟨w.heap.size + 1, 0, none⟩ (.slice none 0 0)).setCell ⟨w.heap.size + 1, 1, none⟩ (.slice none 0 0))) := (hB1.setCell (by show _ ≤ _ + 1; omega) _).setCell (by show _ ≤ _ + 1; omega) _
      clear hb1 hB1 hp1
      go_wp2
      have c0 := cell_of_row _ _ 0 _ _ _ HS.out
      have c1 := cell_of_row _ _ 1 _ _ _ HS.out
      refine bodyPost_ret (v := .agg #[.slice none 0 0, .slice none 0 0]) (by simp [results, Try.results12, go_sem, c0, c1]) rfl ?_
      rw [HR.out]
      exact ⟨_, rfl, ⟨_, _, rfl, ints_nil _, ints_nil _⟩, HB2.out⟩
    case false =>
      cases hb : ((b.length : Int) != g.owner.length)
      case true =>
        have HR : Hid (playR g a b x = ⟨[], []⟩) := playR_no (.inr (.inr (.inl (by simp at hb; omega))))
        clear hv hlens
        clear hd0 hdA hdB dd0 ddA ddB hbx HFW
        go_enter Try.func12, Try.ntmps12
        go_wp2_with fail
        refine (HV.out _ HBX.out).mono ?_
        rintro e w1 ⟨rfl, hb1⟩
        rw [HVV.out]
        have hB1 := HBX.out.trans (hb1.mono HBX.out.size)
        have hp1 := (hb1.block _ (Array.getElem?_eq_some_iff.1 HP2.out).1).trans HP2.out
        have k0 := cell_of_row _ _ 0 _ _ _ hp1
        have k1 := cell_of_row _ _ 1 _ _ _ hp1
        have f0 := frozen_of_row _ _ 0 _ _ hp1
        have f1 := frozen_of_row _ _ 1 _ _ hp1
        have HS := Lib.hid (two_set (c := .slice none 0 0) (d := .slice none 0 0) hp1)
        have HB2 : Hid (Below w.heap.size w ((w1.setCell ⟨w.heap.size + 1, 0, none⟩ (.slice none 0 0)).setCell ⟨w.heap.size + 1, 1, none⟩ (.slice none 0 0))) := (hB1.setCell (by show _ ≤ _ + 1; omega) _).setCell (by show _ ≤ _ + 1; omega) _
        clear hb1 hB1 hp1
        go_wp2
        have c0 := cell_of_row _ _ 0 _ _ _ HS.out
        have c1 := cell_of_row _ _ 1 _ _ _ HS.out
        refine bodyPost_ret (v := .agg #[.slice none 0 0, .slice none 0 0]) (by simp [results, Try.results12, go_sem, c0, c1]) rfl ?_
        rw [HR.out]
        exact ⟨_, rfl, ⟨_, _, rfl, ints_nil _, ints_nil _⟩, HB2.out⟩
      case false =>
        by_cases hx : x < 0
        · have hx0 : decide (x < 0) = true := by simpa using hx
          have HR : Hid (playR g a b x = ⟨[], []⟩) := playR_no (.inr (.inr (.inr (.inl hx))))
          clear hv hlens hx
          clear hd0 hdA hdB dd0 ddA ddB hbx HFW
          go_enter Try.func12, Try.ntmps12
          go_wp2_with fail
          refine (HV.out _ HBX.out).mono ?_
          rintro e w1 ⟨rfl, hb1⟩
          rw [HVV.out]
          have hB1 := HBX.out.trans (hb1.mono HBX.out.size)
          have hp1 := (hb1.block _ (Array.getElem?_eq_some_iff.1 HP2.out).1).trans HP2.out
          have k0 := cell_of_row _ _ 0 _ _ _ hp1
          have k1 := cell_of_row _ _ 1 _ _ _ hp1
          have f0 := frozen_of_row _ _ 0 _ _ hp1
          have f1 := frozen_of_row _ _ 1 _ _ hp1
          have HS := Lib.hid (two_set (c := .slice none 0 0) (d := .slice none 0 0) hp1)
          have HB2 : Hid (Below w.heap.size w ((w1.setCell ⟨w.heap.size + 1, 0, none⟩ (.slice none 0 0)).setCell ⟨w.heap.size + 1, 1, none⟩ (.slice none 0 0))) := (hB1.setCell (by show _ ≤ _ + 1; omega) _).setCell (by show _ ≤ _ + 1; omega) _
          clear hb1 hB1 hp1
          go_wp2
          have c0 := cell_of_row _ _ 0 _ _ _ HS.out
          have c1 := cell_of_row _ _ 1 _ _ _ HS.out
          refine bodyPost_ret (v := .agg #[.slice none 0 0, .slice none 0 0]) (by simp [results, Try.results12, go_sem, c0, c1]) rfl ?_
          rw [HR.out]
          exact ⟨_, rfl, ⟨_, _, rfl, ints_nil _, ints_nil _⟩, HB2.out⟩
        · have hx0 : decide (x < 0) = false := by simpa using hx
          by_cases hx1 : (g.owner.length : Int) ≤ x
          · have hx2 : decide ((g.owner.length : Int) ≤ x) = true := by simpa using hx1
            have HR : Hid (playR g a b x = ⟨[], []⟩) := playR_no (.inr (.inr (.inr (.inr hx1))))
            clear hv hlens hx hx1
            clear hd0 hdA hdB dd0 ddA ddB hbx HFW
            go_enter Try.func12, Try.ntmps12
            go_wp2_with fail
            refine (HV.out _ HBX.out).mono ?_
            rintro e w1 ⟨rfl, hb1⟩
            rw [HVV.out]
            have hB1 := HBX.out.trans (hb1.mono HBX.out.size)
            have hp1 := (hb1.block _ (Array.getElem?_eq_some_iff.1 HP2.out).1).trans HP2.out
            have k0 := cell_of_row _ _ 0 _ _ _ hp1
            have k1 := cell_of_row _ _ 1 _ _ _ hp1
            have f0 := frozen_of_row _ _ 0 _ _ hp1
            have f1 := frozen_of_row _ _ 1 _ _ hp1
            have HS := Lib.hid (two_set (c := .slice none 0 0) (d := .slice none 0 0) hp1)
            have HB2 : Hid (Below w.heap.size w ((w1.setCell ⟨w.heap.size + 1, 0, none⟩ (.slice none 0 0)).setCell ⟨w.heap.size + 1, 1, none⟩ (.slice none 0 0))) := (hB1.setCell (by show _ ≤ _ + 1; omega) _).setCell (by show _ ≤ _ + 1; omega) _
            clear hb1 hB1 hp1
            go_wp2
            have c0 := cell_of_row _ _ 0 _ _ _ HS.out
            have c1 := cell_of_row _ _ 1 _ _ _ HS.out
            refine bodyPost_ret (v := .agg #[.slice none 0 0, .slice none 0 0]) (by simp [results, Try.results12, go_sem, c0, c1]) rfl ?_
            rw [HR.out]
            exact ⟨_, rfl, ⟨_, _, rfl, ints_nil _, ints_nil _⟩, HB2.out⟩
          · have hx2 : decide ((g.owner.length : Int) ≤ x) = false := by simpa using hx1
            obtain ⟨v0n, rfl⟩ : ∃ v : Nat, x = v := ⟨x.toNat, by omega⟩
            have hla : a.length = g.owner.length := by simp at ha; omega
            have hlb : b.length = g.owner.length := by simp at hb; omega
            obtain ⟨n, hn⟩ : ∃ n, n = g.owner.length := ⟨_, rfl⟩
            have hvn : v0n < n := by omega
            have HR : Hid (playR g a b (v0n : Int) = playF g a b (n + 1) [] v0n) := by show _ = _; rw [hn]; exact playR_yes hv hla hlb (by omega)
            have HOw : Hid (∀ u, u < n → 0 ≤ g.owner.getD u 0 ∧ g.owner.getD u 0 ≤ 1) := fun u hu => (valid_at hv u (by omega)).1
            have HSr : Hid (∀ u, u < n → ∀ y ∈ g.succ.getD u [], 0 ≤ y ∧ y < n) := fun u hu y hy => by have := (valid_at hv u (by omega)).2.2.2 y hy; omega
            rw [← hn] at hd0 dd0
            rw [hla, ← hn] at hdA ddA
            rw [hlb, ← hn] at hdB ddB
            have H0 : Hid (∀ j, j < n → ∀ W, Below w.heap.size w W → W.cell? ⟨b0, o0 + j, none⟩ = some (.int .i64 (g.owner.getD j 0))) := fun j hj W hW => cellB hW (dd0 j hj)
            have HA : Hid (∀ j, j < n → ∀ W, Below w.heap.size w W → W.cell? ⟨bA, oA + j, none⟩ = some (.int .i64 (a.getD j 0))) := fun j hj W hW => cellB hW (ddA j hj)
            have HBc : Hid (∀ j, j < n → ∀ W, Below w.heap.size w W → W.cell? ⟨bB, oB + j, none⟩ = some (.int .i64 (b.getD j 0))) := fun j hj W hW => cellB hW (ddB j hj)
            obtain rfl := hd0 (by omega)
            obtain rfl := hdA (by omega)
            obtain rfl := hdB (by omega)
            have hn3 : n ≤ 3000 := by omega
            have HF2 : Hid (∀ W, Below w.heap.size w W → ∀ k x, k < n → Calls Try.prog 34 #[.agg #[.slice (some ⟨b0, o0, none⟩) n c0, v1, v2], .int .i64 ((k : Nat) : Int), .int .i64 x] W (Calm (.bool (decide (x ∈ g.succ.getD k []))) W)) := fun W hW k x hk => by
              have := HFW.out W hW k x (by omega)
              rw [← hn] at this
              exact this
            rw [← hn] at HV HP1 HP2 HBX ⊢
            rw [hla, hlb, ← hn]
            have hx2' := hx2
            rw [← hn] at hx2
            have hx3 : decide (n ≤ v0n) = false := by simp; omega
            have hNN : ((n : Int) != (n : Int)) = false := by simp
            clear hv hlens hx hx1 hla hlb hn hd0 hdA hdB dd0 ddA ddB hbx m0 mA mB ha hb hx2' HFW
            go_enter Try.func12, Try.ntmps12
            go_wp2_with fail
            refine (HV.out _ HBX.out).mono ?_
            rintro e w1 ⟨rfl, hb1⟩
            rw [HVV.out]
            have HPR : Hid (PR w (w1.alloc (.cells #[] 3)) #[.slice (some ⟨b0, o0, none⟩) n c0, v1, v2] [] (.slice (some ⟨w1.heap.size, 0, none⟩) 0 0)) := by
              have h1 := Below.trans (hb1.mono (Nat.le_refl _)) (bel_box (w := w1) (.cells #[] 3) |>.mono hb1.size)
              have hs1 := (Array.getElem?_eq_some_iff.1 HP2.out).1
              have hs2 := hb1.size
              exact ⟨HBX.out.trans (h1.mono HBX.out.size), (h1.block _ (Array.getElem?_eq_some_iff.1 HP1.out).1).trans HP1.out, (h1.block _ hs1).trans HP2.out, (OI_empty0 w1).base (by omega)⟩
            clear hb1
            go_wp2
            generalize w1.alloc (.cells #[] 3) = w2 at *
            generalize w1.heap.size = sb at *
            have HEnd0 : Hid (∀ (P : Ph) (w9 : World) (y0 y1 : Value), Below w.heap.size w w9 → IsInts w9 y0 P.stem → IsInts w9 y1 P.loop → P = playR g a b v0n → NewPath (playR g a b v0n) w (.returned (.agg #[y0, y1])) w9) := fun P w9 y0 y1 h1 h2 h3 h4 => by
              subst h4
              exact ⟨_, rfl, ⟨_, _, rfl, h2, h3⟩, h1⟩
            go_loopg [3, 10, 11, 12] (n + 1) (fun gh x l _ _ wr => ∃ (fu : Nat) (way : List Nat) (v : Nat), gh = fu ∧ x = .int .i64 (v : Int) ∧ v < n ∧ Hid (PR w wr #[.slice (some ⟨b0, o0, none⟩) n c0, v1, v2] way l) ∧ Hid (way.Nodup ∧ (∀ u ∈ way, u < n) ∧ fu + way.length = n + 1 ∧ playF g a b fu way v = playR g a b v0n))
            case atStart => exact ⟨n + 1, [], v0n, rfl, rfl, hvn, HPR, List.nodup_nil, fun u hu => absurd hu (by simp), rfl, HR.out.symm⟩
            case round =>
              clear HPR
              obtain ⟨fu, way, v, hgk, rfl, hv, HPR, HW⟩ := hrel
              have HGK := Lib.hid hgk
              clear hgk
              have hwn : way.length ≤ n := nd_len HW.out.1 HW.out.2.1
              obtain ⟨fu', hfu⟩ : ∃ f', fu = f' + 1 := ⟨fu - 1, by have := HW.out.2.2.1; omega⟩
              have HFU := Lib.hid hfu
              obtain ⟨aW, cW, hvl⟩ := HPR.out.ow.slice
              rw [castL_len] at hvl
              subst hvl
              obtain ⟨wo, rfl⟩ : ∃ wo : World, wo = wr := ⟨_, rfl⟩
              clear hfu
              go_wp2
              go_loopg [11] way.length (fun gh i wi => ∃ k : Nat, gh = way.length - k ∧ i = .int .i64 k ∧ k ≤ way.length ∧ wo = wi ∧ Hid (v ∉ way.take k))
              case atStart => exact ⟨0, rfl, rfl, by omega, rfl, by simp [Hid]⟩
              case round =>
                obtain ⟨k, hgk, rfl, hk, rfl, HNI⟩ := hrel
                have HGK2 := Lib.hid hgk
                clear hgk
                by_cases hkl : k < way.length
                · obtain ⟨gW, cW', hvw, -, -⟩ := HPR.out.ow.row (by rw [castL_len]; omega)
                  rw [castL_len] at hvw
                  injection hvw with h1 h2 h3
                  subst h1
                  subst h3
                  have hos := HPR.out.ow
                  rw [← castL_len way] at hos
                  have hlt := castL_len way
                  have ew : wo.cell? ⟨gW, k, none⟩ = some (.int .i64 ((way.getD k 0 : Nat) : Int)) := by
                    have h1 := World.ownsRow.cellAt hos k (by rw [castL_len]; omega)
                    rw [h1, ← castL_get hkl, getD_lt _ _ _ (by rw [castL_len]; exact hkl)]
                    simp [hkl, castL_len]
                  have HTk : Hid (way.take (k + 1) = way.take k ++ [way.getD k 0]) := by show _ = _; rw [List.take_succ_eq_append_getElem hkl, getD_lt _ _ _ hkl]
                  have HIx : Hid (way.getD k 0 = v → way.idxOf v = k ∧ v ∈ way) := fun e => ⟨idx_at HNI.out hkl e, by rw [← e, getD_lt _ _ _ hkl]; exact List.getElem_mem hkl⟩
                  have hbnd := HW.out.2.1 (way.getD k 0) (by rw [getD_lt _ _ _ hkl]; exact List.getElem_mem hkl)
                  generalize way.getD k 0 = u at *
                  by_cases huv : u = v
                  · have heq : ((u : Int) == (v : Int)) = true := by simp [huv]
                    obtain ⟨hi1, hi2⟩ := HIx.out huv
                    have HPl : Hid (playR g a b v0n = ⟨castL (way.take k), castL (way.drop k)⟩) := by
                      show _ = _
                      rw [← HW.out.2.2.2, HFU.out, playF_yes hi2, hi1]
                    have hcI := castL_i64 HW.out.2.1 (by omega)
                    have hge : w.heap.size + 2 ≤ gW := hos.ge gW rfl
                    have hosF : OI (((wo.setCell ⟨w.heap.size + 1, 0, none⟩ (.slice (some ⟨gW, 0, none⟩) k cW)).setCell ⟨w.heap.size + 1, 1, none⟩ (.slice (some ⟨gW, k, none⟩) (way.length - k) (cW - k))).drew) (w.heap.size + 2) (.slice (some ⟨gW, 0, none⟩) (castL way).length cW) (castL way) :=
                      ((hos.only (S := fun q => q = w.heap.size + 1) (Only.set _ 0 _ rfl) (fun q hq e => by have := hos.ge q hq; omega)).only (S := fun q => q = w.heap.size + 1) (Only.set _ 1 _ rfl) (fun q hq e => by have := hos.ge q hq; omega)).below (Below.drew (Below.refl _ _))
                    obtain ⟨hI2, hc1, hc2⟩ := hosF.dropI hcI (by rw [castL_len]; unfold maxN; omega) (k := k) (by rw [castL_len]; omega)
                    have hI1 := (OI.cut hosF (k := k) (by rw [castL_len]; omega)).is (by rw [List.length_take, castL_len]; unfold maxN; omega) fun x hx => hcI x (List.mem_of_mem_take hx)
                    rw [castL_len] at hI2 hc1
                    have hb0 : (k : Int) ≤ way.length := by omega
                    have hb1 : k ≤ cW := by omega
                    have hb2 : (k : Int) ≤ cW := by omega
                    have hb3 : ¬ cW = k := by omega
                    have hb4 : (0 : Int) ≤ k := by omega
                    have hp1 := HPR.out.bp
                    have k0 := cell_of_row _ _ 0 _ _ _ hp1
                    have k1 := cell_of_row _ _ 1 _ _ _ hp1
                    have f0 := frozen_of_row _ _ 0 _ _ hp1
                    have f1 := frozen_of_row _ _ 1 _ _ hp1
                    have HS := Lib.hid (two_set (c := .slice (some ⟨gW, 0, none⟩) k cW) (d := .slice (some ⟨gW, k, none⟩) (way.length - k) (cW - k)) hp1)
                    have HE : Hid (NewPath (playR g a b v0n) w (.returned (.agg #[.slice (some ⟨gW, 0, none⟩) k cW, .slice (some ⟨gW, k, none⟩) (way.length - k) (cW - k)])) ((wo.setCell ⟨w.heap.size + 1, 0, none⟩ (.slice (some ⟨gW, 0, none⟩) k cW)).setCell ⟨w.heap.size + 1, 1, none⟩ (.slice (some ⟨gW, k, none⟩) (way.length - k) (cW - k))).drew) := by
                      refine HEnd0.out ⟨(castL way).take k, (castL way).drop k⟩ _ _ _ ?_ hI1 hI2 (by rw [HPl.out, castL_take, castL_drop])
                      exact (Below.drew ((HPR.out.bl.setCell (show w.heap.size ≤ w.heap.size + 1 by omega) _).setCell (show w.heap.size ≤ w.heap.size + 1 by omega) _))
                    clear hos hosF hlt hI1 hI2 hc1 hc2 hp1 hge huv hi1 hi2 hcI
                    go_upto_region 9 with (fail)
                    go_region
                    all_goals
                      go_wp2
                      have c0 := cell_of_row _ _ 0 _ _ _ HS.out
                      have c1 := cell_of_row _ _ 1 _ _ _ HS.out
                      refine bodyPost_ret (v := .agg #[.slice (some ⟨gW, 0, none⟩) k cW, .slice (some ⟨gW, k, none⟩) (way.length - k) (cW - k)]) (by simp [results, Try.results12, go_sem, c0, c1]) rfl ?_
                      exact HE.out
                  · have heq : ((u : Int) == (v : Int)) = false := by rw [beq_eq_false_iff_ne]; omega
                    have HN2 : Hid (v ∉ way.take (k + 1)) := by
                      show ¬ _
                      rw [HTk.out, List.mem_append, List.mem_singleton]
                      rintro (h | h)
                      · exact HNI.out h
                      · exact huv h.symm
                    clear huv hos hlt
                    go_wp2
                    go_roundg (way.length - (k + 1))
                    case measure => have := HGK2.out; omega
                    case rel => exact ⟨k + 1, rfl, by go_num, by omega, rfl, HN2⟩
                · obtain rfl : k = way.length := by omega
                  rw [List.take_length] at HNI
                  have hwz : w.heap.size + 2 ≤ wo.heap.size := by have := (Array.getElem?_eq_some_iff.1 HPR.out.bp).1; omega
                  obtain ⟨ow0, ow1⟩ := HOw.out v hv
                  have hvI : (v : Int) < n := by omega
                  by_cases how : g.owner.getD v 0 = 1
                  · have HOv := Lib.hid how
                    obtain ⟨ti, hti⟩ : ∃ ti, b.getD v 0 = ti := ⟨_, rfl⟩
                    have HTI := Lib.hid hti
                    clear how ow0 ow1 hti
                    go_wp2_with (at_builtin; refine app_int rfl _ _ (v : Int) rfl (w.heap.size + 2) _ _ HPR.out.ow rfl _ (by simp) rfl (by rw [castL_len]; omega) hwz ?_; intro v' w' hown' hg hmv; obtain ⟨ao', cap', hv'⟩ := hown'.slice; rw [List.length_append, List.length_singleton, castL_len] at hv'; subst hv'; have HP := Lib.hid (HPR.out.push hown' hg); have q0 := cell_of_row _ _ 0 _ _ _ HP.out.b0; have q1 := cell_of_row _ _ 1 _ _ _ HP.out.b0; have q2 := cell_of_row _ _ 2 _ _ _ HP.out.b0; have q4 := H0.out v hv _ HP.out.bl; rw [HOv.out] at q4; have q5 := HA.out v hv _ HP.out.bl; have q6 := HBc.out v hv _ HP.out.bl; rw [HTI.out] at q6; clear hown' hg hmv)
                    refine (HF2.out _ HP.out.bl v ti hv).mono ?_
                    rintro e w6 ⟨rfl, hb6⟩
                    have HP6 := Lib.hid (HP.out.below hb6)
                    clear hb6 q0 q1 q2 q4 q5 q6 HP
                    have HSy : Hid (sayP g a b v = ti) := by
                      show _ = _
                      unfold sayP
                      rw [HOv.out]
                      exact HTI.out
                    generalize hd : decide (ti ∈ g.succ.getD v []) = dd
                    cases dd
                    · have HPl : Hid (playR g a b v0n = ⟨[], []⟩) := by
                        show _ = _
                        rw [← HW.out.2.2.2, HFU.out, playF_no HNI.out (by rw [HSy.out]; exact of_decide_eq_false hd)]
                      have hp1 := HP6.out.bp
                      have k0 := cell_of_row _ _ 0 _ _ _ hp1
                      have k1 := cell_of_row _ _ 1 _ _ _ hp1
                      have f0 := frozen_of_row _ _ 0 _ _ hp1
                      have f1 := frozen_of_row _ _ 1 _ _ hp1
                      have HS := Lib.hid (two_set (c := .slice none 0 0) (d := .slice none 0 0) hp1)
                      have HE := Lib.hid (HEnd0.out ⟨[], []⟩ ((w6.setCell ⟨w.heap.size + 1, 0, none⟩ (.slice none 0 0)).setCell ⟨w.heap.size + 1, 1, none⟩ (.slice none 0 0)) _ _ ((HP6.out.bl.setCell (show w.heap.size ≤ w.heap.size + 1 by omega) _).setCell (show w.heap.size ≤ w.heap.size + 1 by omega) _) (ints_nil _) (ints_nil _) HPl.out.symm)
                      clear hp1 hd
                      go_wp2
                      have c0 := cell_of_row _ _ 0 _ _ _ HS.out
                      have c1 := cell_of_row _ _ 1 _ _ _ HS.out
                      refine bodyPost_ret (v := .agg #[.slice none 0 0, .slice none 0 0]) (by simp [results, Try.results12, go_sem, c0, c1]) rfl ?_
                      exact HE.out
                    · have hmem := of_decide_eq_true hd
                      obtain ⟨t0, t1⟩ := HSr.out v hv _ hmem
                      have HPl : Hid (playF g a b fu' (way ++ [v]) ti.toNat = playR g a b v0n) := by
                        show _ = _
                        rw [← HW.out.2.2.2, HFU.out, playF_next HNI.out (by rw [HSy.out]; exact hmem), HSy.out]
                      obtain ⟨t, rfl⟩ := Int.eq_ofNat_of_zero_le t0
                      have htn : t < n := by omega
                      rw [Int.toNat_natCast] at HPl
                      clear hd hmem t0 t1
                      go_wp2
                      go_roundg fu'
                      case measure => have := HGK.out; have := HFU.out; omega
                      case rel =>
                        refine ⟨fu', way ++ [v], t, rfl, rfl, htn, HP6, ?_, ?_, ?_, HPl.out⟩
                        · rw [List.nodup_append]
                          exact ⟨HW.out.1, by simp, fun q hq r hr => by rw [List.mem_singleton.1 hr]; rintro rfl; exact HNI.out hq⟩
                        · intro q hq
                          rcases List.mem_append.1 hq with h | h
                          · exact HW.out.2.1 q h
                          · rw [List.mem_singleton.1 h]; exact hv
                        · have h1 := HW.out.2.2.1
                          have h2 := HFU.out
                          rw [List.length_append, List.length_singleton]; omega
                  · have how0 : g.owner.getD v 0 = 0 := by omega
                    have HOv := Lib.hid how0
                    obtain ⟨ti, hti⟩ : ∃ ti, a.getD v 0 = ti := ⟨_, rfl⟩
                    have HTI := Lib.hid hti
                    clear how how0 ow0 ow1 hti
                    go_wp2_with (at_builtin; refine app_int rfl _ _ (v : Int) rfl (w.heap.size + 2) _ _ HPR.out.ow rfl _ (by simp) rfl (by rw [castL_len]; omega) hwz ?_; intro v' w' hown' hg hmv; obtain ⟨ao', cap', hv'⟩ := hown'.slice; rw [List.length_append, List.length_singleton, castL_len] at hv'; subst hv'; have HP := Lib.hid (HPR.out.push hown' hg); have q0 := cell_of_row _ _ 0 _ _ _ HP.out.b0; have q1 := cell_of_row _ _ 1 _ _ _ HP.out.b0; have q2 := cell_of_row _ _ 2 _ _ _ HP.out.b0; have q4 := H0.out v hv _ HP.out.bl; rw [HOv.out] at q4; have q5 := HA.out v hv _ HP.out.bl; rw [HTI.out] at q5; clear hown' hg hmv)
                    refine (HF2.out _ HP.out.bl v ti hv).mono ?_
                    rintro e w6 ⟨rfl, hb6⟩
                    have HP6 := Lib.hid (HP.out.below hb6)
                    clear hb6 q0 q1 q2 q4 q5  HP
                    have HSy : Hid (sayP g a b v = ti) := by
                      show _ = _
                      unfold sayP
                      rw [HOv.out]
                      exact HTI.out
                    generalize hd : decide (ti ∈ g.succ.getD v []) = dd
                    cases dd
                    · have HPl : Hid (playR g a b v0n = ⟨[], []⟩) := by
                        show _ = _
                        rw [← HW.out.2.2.2, HFU.out, playF_no HNI.out (by rw [HSy.out]; exact of_decide_eq_false hd)]
                      have hp1 := HP6.out.bp
                      have k0 := cell_of_row _ _ 0 _ _ _ hp1
                      have k1 := cell_of_row _ _ 1 _ _ _ hp1
                      have f0 := frozen_of_row _ _ 0 _ _ hp1
                      have f1 := frozen_of_row _ _ 1 _ _ hp1
                      have HS := Lib.hid (two_set (c := .slice none 0 0) (d := .slice none 0 0) hp1)
                      have HE := Lib.hid (HEnd0.out ⟨[], []⟩ ((w6.setCell ⟨w.heap.size + 1, 0, none⟩ (.slice none 0 0)).setCell ⟨w.heap.size + 1, 1, none⟩ (.slice none 0 0)) _ _ ((HP6.out.bl.setCell (show w.heap.size ≤ w.heap.size + 1 by omega) _).setCell (show w.heap.size ≤ w.heap.size + 1 by omega) _) (ints_nil _) (ints_nil _) HPl.out.symm)
                      clear hp1 hd
                      go_wp2
                      have c0 := cell_of_row _ _ 0 _ _ _ HS.out
                      have c1 := cell_of_row _ _ 1 _ _ _ HS.out
                      refine bodyPost_ret (v := .agg #[.slice none 0 0, .slice none 0 0]) (by simp [results, Try.results12, go_sem, c0, c1]) rfl ?_
                      exact HE.out
                    · have hmem := of_decide_eq_true hd
                      obtain ⟨t0, t1⟩ := HSr.out v hv _ hmem
                      have HPl : Hid (playF g a b fu' (way ++ [v]) ti.toNat = playR g a b v0n) := by
                        show _ = _
                        rw [← HW.out.2.2.2, HFU.out, playF_next HNI.out (by rw [HSy.out]; exact hmem), HSy.out]
                      obtain ⟨t, rfl⟩ := Int.eq_ofNat_of_zero_le t0
                      have htn : t < n := by omega
                      rw [Int.toNat_natCast] at HPl
                      clear hd hmem t0 t1
                      go_wp2
                      go_roundg fu'
                      case measure => have := HGK.out; have := HFU.out; omega
                      case rel =>
                        refine ⟨fu', way ++ [v], t, rfl, rfl, htn, HP6, ?_, ?_, ?_, HPl.out⟩
                        · rw [List.nodup_append]
                          exact ⟨HW.out.1, by simp, fun q hq r hr => by rw [List.mem_singleton.1 hr]; rintro rfl; exact HNI.out hq⟩
                        · intro q hq
                          rcases List.mem_append.1 hq with h | h
                          · exact HW.out.2.1 q h
                          · rw [List.mem_singleton.1 h]; exact hv
                        · have h1 := HW.out.2.2.1
                          have h2 := HFU.out
                          rw [List.length_append, List.length_singleton]; omega

end Go.Proofs.Ytkbiopjinegckaa
