/- The part of the positions that a player wins from: it wins everywhere there; the walk of SolveParts. -/
import Derived.Test.YtjhafakkadnfmaaSo25
import Derived.Test.YtjhafakkadnfmaaC19
import Derived.Test.YtjhafakkadnfmaaRegSt
namespace Go.Proofs.Ytjhafakkadnfmaa
open Go.RowKit

theorem Plus.map {r s : Nat → Nat → Prop} (f : Nat → Nat) (h : ∀ a b, r a b → s (f a) (f b)) {a b : Nat} (k : Plus r a b) : Plus s (f a) (f b) := by
  induction k with
  | one k => exact .one (h _ _ k)
  | more k _ ih => exact .more (h _ _ k) ih

theorem keptI_at (s : List Bool) (v : Nat) (hs : s.getD v false = true) : ∀ k, v < k → (keptI s k).getD (keptI s v).length 0 = (v : Int) := by
  intro k
  induction k with
  | zero => intro h; omega
  | succ k ih =>
    intro h
    rw [keptI_succ]
    by_cases e : v = k
    · subst e
      rw [if_pos hs]
      simp [List.getD]
    · have hv : v < k := by omega
      have hlt := keptI_lt s hv hs
      have := ih hv
      split
      · rw [List.getD, List.getElem?_append_left hlt]; exact this
      · exact this

theorem part_won {g : Gm} (hv : validB g = true) {p : Int} (hp : p = 0 ∨ p = 1) (h0 : 0 < (keptI (setP (solR g) p) g.owner.length).length) (hS : ∀ i, (g.succ.getD i []).length ≤ 1000) :
    partR g (setP (solR g) p) = (partG g (setP (solR g) p) (keptI (setP (solR g) p) g.owner.length), keptI (setP (solR g) p) g.owner.length) ∧
    validB (partG g (setP (solR g) p) (keptI (setP (solR g) p) g.owner.length)) = true ∧ (∀ j, j < (keptI (setP (solR g) p) g.owner.length).length → (solR (partG g (setP (solR g) p) (keptI (setP (solR g) p) g.owner.length))).getD j 0 = p) := by
  have hsl : (setP (solR g) p).length = g.owner.length := by rw [setP_len, solR_len hv]
  have hget : ∀ i, i < g.owner.length → ((setP (solR g) p).getD i false = true ↔ (solR g).getD i 0 = p) := fun i hi => by rw [setP_get _ _ _ (by rw [solR_len hv]; exact hi)]; simp
  have hT := (region_sets hv hS hp).1
  have F := valid_fits hv (1 - p) (by omega)
  obtain ⟨q1, q2⟩ := part_valid (by rw [hsl]; exact F) hT (by rw [hsl]; exact h0) hv
  rw [hsl] at q1 q2
  refine ⟨?_, q2, ?_⟩
  · unfold partR
    rw [hsl, hv, q1]; simp
  have hs := ((solR_is g).2 hv).2
  obtain ⟨σ, hD⟩ := hs.dom hp
  generalize setP (solR g) p = s at *
  generalize hks : keptI s g.owner.length = ks at *
  have hkm : ∀ j, j < ks.length → ∃ v : Nat, ks.getD j 0 = v ∧ v < g.owner.length ∧ s.getD v false = true := fun j hj => by
    have := get_mem hj
    rw [← hks] at this
    obtain ⟨v, e, h1, h2⟩ := keptI_mem this
    rw [hks] at e
    exact ⟨v, e, h1, h2⟩
  have hm : (partG g s ks).owner.length = ks.length := by simp [partG]
  have eo : ∀ j, j < ks.length → own (partG g s ks) j = own g (ks.getD j 0).toNat := fun j hj => by
    unfold own; simp [partG, List.getD, hj]
  have ep : ∀ j, j < ks.length → pri (partG g s ks) j = pri g (ks.getD j 0).toNat := fun j hj => by
    unfold pri; simp [partG, List.getD, hj]
  have es : ∀ j, j < ks.length → (partG g s ks).succ.getD j [] = subI s (g.succ.getD (ks.getD j 0).toNat []) := fun j hj => by
    simp [partG, List.getD, hj]
  have hnum : ∀ v : Nat, v < g.owner.length → s.getD v false = true → (keptI s v).length < ks.length ∧ ks.getD (keptI s v).length 0 = (v : Int) := fun v hv hsv => by
    rw [← hks]; exact ⟨keptI_lt s hv hsv, keptI_at s v hsv _ hv⟩
  have hedge : ∀ j, j < ks.length → ∀ v : Nat, Edge g (ks.getD j 0).toNat v → s.getD v false = true → Edge (partG g s ks) j (keptI s v).length := fun j hj v he hsv => by
    unfold Edge
    rw [es j hj]
    exact List.mem_map.2 ⟨(v : Int), List.mem_filter.2 ⟨he, hsv⟩, by simp⟩
  have hedge2 : ∀ a b, a < ks.length → b < ks.length → Edge (partG g s ks) a b → Edge g (ks.getD a 0).toNat (ks.getD b 0).toNat := fun a b ha hb he => by
    unfold Edge at he
    rw [es a ha] at he
    obtain ⟨y, hy, e⟩ := List.mem_map.1 he
    obtain ⟨h1, h2⟩ := List.mem_filter.1 hy
    obtain ⟨u, eu, hun, -⟩ := hkm a ha
    rw [eu, Int.toNat_natCast] at h1 ⊢
    obtain ⟨v, rfl, hvn⟩ := valid_rg hv u hun y h1
    rw [Int.toNat_natCast] at e
    have hb' : b = (keptI s v).length := by omega
    have h3 := (hnum v hvn h2).2
    rw [← hb'] at h3
    unfold Edge
    rw [h3, Int.toNat_natCast]
    exact h1
  have hW : WinsBy (partG g s ks) p (fun j => j < ks.length) (fun j => j < ks.length) (fun j => (keptI s (σ (ks.getD j 0).toNat)).length) := by
    refine ⟨fun _ h => h, fun j hj ho => ?_, fun j _ _ i _ hi => hi, fun v hvk hl hP => ?_⟩
    · obtain ⟨u, eu, hun, hus⟩ := hkm j hj
      rw [eo j hj, eu, Int.toNat_natCast] at ho
      obtain ⟨h1, h2⟩ := hD.mine u ⟨hun, (hget u hun).1 hus⟩ ho
      have h3 := (hget _ h2.1).2 h2.2
      rw [eu, Int.toNat_natCast]
      refine ⟨hedge j hj _ (by rw [eu, Int.toNat_natCast]; exact h1) h3, (hnum _ h2.1 h3).1⟩
    · obtain ⟨u, eu, hun, hus⟩ := hkm v hvk
      refine hD.free u ⟨hun, (hget u hun).1 hus⟩ (by rw [ep v hvk, eu, Int.toNat_natCast] at hl; exact hl) ?_
      have := hP.map (s := Step g p (fun i => i < g.owner.length ∧ (solR g).getD i 0 = p) σ (pri g u)) (fun j => (ks.getD j 0).toNat) fun a b ⟨ha, hb, he, k1, k2, hst⟩ => by
        obtain ⟨x, ex, hxn, hxs⟩ := hkm a ha
        obtain ⟨y, ey, hyn, hys⟩ := hkm b hb
        have he2 := hedge2 a b ha hb he
        rw [ep v hvk, ep a ha] at k1
        rw [ep v hvk, ep b hb] at k2
        rw [eo a ha] at hst
        rw [eu, Int.toNat_natCast] at k1 k2
        have ea : (ks.getD a 0).toNat = x := by rw [ex, Int.toNat_natCast]
        have eb : (ks.getD b 0).toNat = y := by rw [ey, Int.toNat_natCast]
        simp only [ea, eb] at he2 k1 k2 hst ⊢
        refine ⟨⟨hxn, (hget x hxn).1 hxs⟩, ⟨hyn, (hget y hyn).1 hys⟩, he2, k1, k2, fun ho => ?_⟩
        have h4 := hst ho
        obtain ⟨-, h2⟩ := hD.mine x ⟨hxn, (hget x hxn).1 hxs⟩ ho
        have h5 := (hnum _ h2.1 ((hget _ h2.1).2 h2.2)).2
        rw [← h4, ey] at h5
        omega
      simp only [eu, Int.toNat_natCast] at this
      exact this
  intro j hj
  have hsol := ((solR_is (partG g s ks)).2 q2).2
  rw [hm] at hsol
  exact hsol.has (n := ks.length) ⟨_, hW⟩ hp (fun _ h => h) (fun i hi => valid_own q2 i (by rw [hm]; exact hi)) j hj

/-- What the operations of a drawn statement leave. -/
def RPt (ao0 ao1 ao2 : Option Addr) (cap0 cap1 cap2 : Nat) (g : Gm) (p : Nat) (ix : Nat) (v : Value) (W : World) : Prop :=
  match ix with
  | 0 => v = (.agg #[Value.slice ao0 g.owner.length cap0, Value.slice ao1 g.prio.length cap1, Value.slice ao2 g.succ.length cap2])
  | 1 => v = (.agg #[Value.slice ao0 g.owner.length cap0, Value.slice ao1 g.prio.length cap1, Value.slice ao2 g.succ.length cap2])
  | 2 => IsInts W v (solR g)
  | 3 => v = .int .i64 (p : Int)
  | 4 => IsBools W v (setP (solR g) (p : Int))
  | 5 => IsBools W v (setP (solR g) (p : Int))
  | _ => True
theorem RPt.mono (ao0 ao1 ao2 : Option Addr) (cap0 cap1 cap2 : Nat) (g : Gm) (p : Nat) (ix : Nat) (v : Value) (W W' : World) (h : RPt ao0 ao1 ao2 cap0 cap1 cap2 g p ix v W) (hb : Below W.heap.size W W') : RPt ao0 ao1 ao2 cap0 cap1 cap2 g p ix v W' := by
  unfold RPt at *
  split at h <;> first | exact h | exact IsInts.below h hb | exact IsBools.below h hb

set_option maxHeartbeats 1000000 in
theorem some23_c (w : World) (v : Value) (l : List Bool) (h : IsBools w v l) : Calls Try.prog 26 #[v] w (Calm (.bool (l.any id)) w) := by
  obtain ⟨ao, cap, b, off, rfl, g0⟩ := h
  have hn := g0.nb
  go_enter Try.func26, Try.ntmps26
  go_wp2
  go_loopg [3] l.length (fun gh i wr => ∃ k : Nat, gh = l.length - k ∧ i = .int .i64 k ∧ k ≤ l.length ∧ wr = w ∧ Hid ((l.take k).any id = false))
  case atStart => exact ⟨0, by omega, rfl, by omega, rfl, by simp [Hid]⟩
  case round =>
    obtain ⟨k, rfl, rfl, hk, rfl, HE⟩ := hrel
    by_cases hlt : k < l.length
    · obtain rfl := g0.ad (by omega)
      have e1 := g0.el k hlt
      unfold bvF at e1
      rw [getD_lt _ _ _ hlt] at e1
      have HN : Hid ((l.take (k + 1)).any id = ((l.take k).any id || id l[k])) := any_take_succ _ _ _ hlt
      have HT : Hid (l[k] = true → l.any id = true) := fun h => any_true_of _ _ _ hlt h
      generalize l[k] = x at *
      cases x with
      | true =>
        have HT2 := Lib.hid (HT.out rfl)
        go_wp2
        go_ret
        exact ⟨ret_bool HT2.out.symm, Below.refl _ _⟩
      | false =>
        go_wp2
        go_roundg (l.length - (k + 1))
        case rel => exact ⟨k + 1, rfl, by go_num, by omega, rfl, by show _ = _; rw [HN.out, HE.out]; rfl⟩
        case measure => omega
    · obtain rfl : k = l.length := by omega
      rw [List.take_length] at HE
      go_wp2
      go_ret
      exact ⟨ret_bool HE.out.symm, Below.refl _ _⟩

set_option maxRecDepth 100000 in
set_option maxHeartbeats 8000000 in
theorem Parts_w (w : World) (vg : Value) (g : Gm) (who : Int) (hg : IsGame w vg g) (hwho : 0 ≤ who ∧ who ≤ 255) :
    Calls Try.prog 9 #[vg, .int .u8 who] w (Calm (.bool true) w) := by
  obtain ⟨v0, v1, v2, rfl, i0, i1, i2⟩ := id hg
  have HG := Lib.hid hg
  clear hg
  obtain ⟨⟨ao0, cap0, b0, off0, rfl, -⟩, -⟩ := i0
  obtain ⟨⟨ao1, cap1, b1, off1, rfl, -⟩, -⟩ := i1
  obtain ⟨V, ⟨ao2, cap2, b2, off2, rfl, -⟩, -⟩ := i2
  obtain ⟨who, rfl⟩ : ∃ k : Nat, who = k := ⟨who.toNat, by omega⟩
  have hmx : Try.prog.follows .mixedOrders = true := by kernel_rfl
  go_enter Try.func9, Try.ntmps9
  go_upto_region 1 with (fail)
  have hbg := boxGame (w := w) (v0 := Value.slice ao0 g.owner.length cap0) (v1 := Value.slice ao1 g.prio.length cap1) (v2 := Value.slice ao2 g.succ.length cap2)
  generalize (w.alloc (Obj.cells #[Value.slice ao0 g.owner.length cap0, Value.slice ao1 g.prio.length cap1, Value.slice ao2 g.succ.length cap2] 25)) = w1 at *
  have HBX : Hid (∀ W, Below w1.heap.size w1 W → W.heap[w.heap.size]? = some (Obj.cells #[Value.slice ao0 g.owner.length cap0, Value.slice ao1 g.prio.length cap1, Value.slice ao2 g.succ.length cap2] 25 (0, 0))) := fun W hW => (hW.block _ (Array.getElem?_eq_some_iff.1 hbg.1).1).trans hbg.1
  have HB := Lib.hid hbg.2
  clear hbg
  go_wp2_with fail
  refine (head_c w1).mono ?_
  rintro e w2 ⟨rfl, hW⟩
  have hX := HBX.out w2 hW
  have d0 := cell_of_row _ _ 0 _ _ _ hX
  have d1 := cell_of_row _ _ 1 _ _ _ hX
  have d2 := cell_of_row _ _ 2 _ _ _ hX
  go_wp2_with fail
  refine (small_c w2 _ g 30 (HG.out.below (HB.out.trans (hW.mono HB.out.size)))).mono ?_
  rintro e w3 ⟨rfl, hb⟩
  replace hW := hW.trans (hb.mono hW.size)
  clear hb hX d0 d1 d2
  cases hsm : smallV g 30 with
  | false =>
    have hF := HB.out.trans (hW.mono HB.out.size)
    go_wp2
    go_ret
    exact ⟨rfl, hF⟩
  | true =>
    have hsm2 : smallB g 30 = true ∧ validB g = true := by unfold smallV at hsm; rwa [Bool.and_eq_true] at hsm
    have HV := Lib.hid hsm2.2
    have HSl := Lib.hid (small_sl hsm2.1)
    have hnn := (valid_fits hsm2.2 0 (.inl rfl)).le
    have HSn := Lib.hid (valid_fits hsm2.2 0 (.inl rfl)).sn
    clear hsm hsm2
    have htm : ((who : Int)).tmod 2 = ((who % 2 : Nat) : Int) := (Int.ofNat_tmod who 2).symm
    have hm9 := Nat.mod_lt who (show 0 < 2 by omega)
    have hw1 : IntKind.i64.wrap (who : Int) = (who : Int) := IntWalk.i64_in _ ⟨by omega, by omega⟩
    have hw2 : IntKind.i64.wrap ((who % 2 : Nat) : Int) = ((who % 2 : Nat) : Int) := IntWalk.i64_in _ ⟨by omega, by omega⟩
    generalize who % 2 = p at *
    have hp : (p : Int) = 0 ∨ (p : Int) = 1 := by omega
    have HP := Lib.hid hp
    clear hp
    have HSL := Lib.hid (solR_len HV.out)
    have HOl : Hid ((setP (solR g) (p : Int)).length = g.owner.length) := by show _ = _; rw [setP_len, HSL.out]
    have HF3 := Lib.hid (HB.out.trans (hW.mono HB.out.size))
    have HBX3 : Hid (∀ W, Below w3.heap.size w3 W → W.heap[w.heap.size]? = some (Obj.cells #[Value.slice ao0 g.owner.length cap0, Value.slice ao1 g.prio.length cap1, Value.slice ao2 g.succ.length cap2] 25 (0, 0))) := fun W h => HBX.out W (hW.trans (h.mono hW.size))
    have HG3 : Hid (∀ W, Below w3.heap.size w3 W → IsGame W (.agg #[Value.slice ao0 g.owner.length cap0, Value.slice ao1 g.prio.length cap1, Value.slice ao2 g.succ.length cap2]) g) := fun W h => HG.out.below (HF3.out.trans (h.mono HF3.out.size))
    clear HBX HB hW
    go_upto_region 5 with (fail)
    clear htm hw1 hw2
    refine region_stable hmx (RPt ao0 ao1 ao2 cap0 cap1 cap2 g p) (fun vs => { tmps := (_ :: _ :: _ :: _ :: _ :: _ :: _ :: vs 5 :: _ :: _ :: _ :: _ :: _ :: _ :: _ :: _ :: _ :: _ :: _ :: _ :: vs 0 :: vs 1 :: vs 2 :: vs 3 :: vs 4 :: _ :: _ :: _ :: _ :: _ :: _ :: _ :: _ :: _ :: _ :: _ :: _ :: _ :: _ :: _ :: _ :: _ :: _ :: _ :: _ :: _ :: _ :: _ :: _ :: _ :: _ :: _ :: _ :: _ :: _ :: _ :: _ :: _ :: _ :: _ :: []).toArray, defers := [] }) (fun _ => undef) rfl (by kernel_rfl) (RPt.mono ao0 ao1 ao2 cap0 cap1 cap2 g p) ?step ?fin
    case step =>
        have HD : Hid (∀ W, Below w3.drew.heap.size w3.drew W → Below w3.heap.size w3 W) := fun W h => (Below.drew (Below.refl _ _)).trans h
        intro ix o ho
        match ix, ho with
          | 0, ho =>
            obtain rfl := Option.some.inj ho
            intro vs W K hB hD hK
            have HK := Lib.hid hK
            have hX := HBX3.out W (HD.out W hB)
            have d0 := cell_of_row _ _ 0 _ _ _ hX
            have d1 := cell_of_row _ _ 1 _ _ _ hX
            have d2 := cell_of_row _ _ 2 _ _ _ hX
            clear hK hD ho
            dsimp only
            go_simp
            have h := HK.out _ _ (Below.refl _ _) rfl
            simp only [upd, Nat.reduceEqDiff, reduceIte] at h
            exact h
          | 1, ho =>
            obtain rfl := Option.some.inj ho
            intro vs W K hB hD hK
            have HK := Lib.hid hK
            have hX := HBX3.out W (HD.out W hB)
            have d0 := cell_of_row _ _ 0 _ _ _ hX
            have d1 := cell_of_row _ _ 1 _ _ _ hX
            have d2 := cell_of_row _ _ 2 _ _ _ hX
            clear hK hD ho
            dsimp only
            go_simp
            have h := HK.out _ _ (Below.refl _ _) rfl
            simp only [upd, Nat.reduceEqDiff, reduceIte] at h
            exact h
          | 2, ho =>
            obtain rfl := Option.some.inj ho
            intro vs W K hB hD hK
            have HK := Lib.hid hK
            have e1 : vs 1 = (.agg #[Value.slice ao0 g.owner.length cap0, Value.slice ao1 g.prio.length cap1, Value.slice ao2 g.succ.length cap2]) := dep_of hD 1 (by rfl)
            clear hK hD ho
            dsimp only
            go_simp
            refine (SolveR_c W _ g (HG3.out W (HD.out W hB)) HSl.out).mono ?_
            rintro e W' ⟨v, rfl, hv, hb⟩
            have h := HK.out _ _ hb hv
            simp only [upd, Nat.reduceEqDiff, reduceIte, e1] at h
            exact h
          | 3, ho =>
            obtain rfl := Option.some.inj ho
            intro vs W K hB hD hK
            have HK := Lib.hid hK
            clear hK hD ho
            dsimp only
            go_simp
            have h := HK.out _ _ (Below.refl _ _) rfl
            simp only [upd, Nat.reduceEqDiff, reduceIte] at h
            exact h
          | 4, ho =>
            obtain rfl := Option.some.inj ho
            intro vs W K hB hD hK
            have HK := Lib.hid hK
            have e0 : vs 0 = (.agg #[Value.slice ao0 g.owner.length cap0, Value.slice ao1 g.prio.length cap1, Value.slice ao2 g.succ.length cap2]) := dep_of hD 0 (by rfl)
            have d2 : IsInts W (vs 2) (solR g) := dep_of hD 2 (by rfl)
            have e3 : vs 3 = .int .i64 (p : Int) := dep_of hD 3 (by rfl)
            clear hK hD ho
            dsimp only
            go_simp
            refine (won_c W _ _ g (solR g) (p : Int) (HG3.out W (HD.out W hB)) d2 (by rw [HSL.out, HSn.out]) (by rw [HSL.out]; exact hnn)).mono ?_
            rintro e W' ⟨v, rfl, hv, hb⟩
            have h := HK.out _ _ hb (hv.is (by rw [HOl.out]; unfold maxN; omega))
            simp only [upd, Nat.reduceEqDiff, reduceIte, e0, e3] at h
            exact h
          | 5, ho =>
            obtain rfl := Option.some.inj ho
            intro vs W K hB hD hK
            have HK := Lib.hid hK
            have d4 : IsBools W (vs 4) (setP (solR g) (p : Int)) := dep_of hD 4 (by rfl)
            clear hK hD ho
            dsimp only
            go_simp
            have h := HK.out _ _ (Below.refl _ _) d4
            simp only [upd, Nat.reduceEqDiff, reduceIte] at h
            exact h
          | n + 6, ho => simp at ho
    case fin =>
      intro vs W3 hB hall
      have H5 : Hid (IsBools W3 (vs 5) (setP (solR g) (p : Int))) := hall 5 (by decide)
      have hW := (Below.drew (Below.refl _ _)).trans hB
      clear hall hB
      generalize vs 0 = q0
      generalize vs 1 = q1
      generalize vs 2 = q2
      generalize vs 3 = q3
      generalize vs 4 = q4
      generalize vs 5 = q5 at *
      clear vs
      go_wp2_with fail
      refine (some23_c W3 q5 _ H5.out).mono ?_
      rintro e w5 ⟨rfl, hb⟩
      have H55 := Lib.hid (H5.out.below hb)
      replace hW := hW.trans (hb.mono hW.size)
      clear hb H5
      cases hany : (setP (solR g) (p : Int)).any id with
      | false =>
        have hF := HF3.out.trans (hW.mono HF3.out.size)
        go_wp2
        go_ret
        exact ⟨rfl, hF⟩
      | true =>
        have h0 : 0 < (keptI (setP (solR g) (p : Int)) g.owner.length).length := by
          obtain ⟨i, hi⟩ := (any_iff _).1 hany
          have hin := set_lt (al := setP (solR g) (p : Int)) hi
          rw [HOl.out] at hin
          have := keptI_lt _ hin hi
          omega
        clear hany
        obtain ⟨hq1, hq2, hq3⟩ := part_won HV.out HP.out h0 HSl.out
        have hle := keptI_len (setP (solR g) (p : Int)) g.owner.length
        have hsl2 : Hid (∀ i, ((partG g (setP (solR g) (p : Int)) (keptI (setP (solR g) (p : Int)) g.owner.length)).succ.getD i []).length ≤ 1000) := fun i => by
          by_cases hi : i < (keptI (setP (solR g) (p : Int)) g.owner.length).length
          · simp only [partG, List.getD, List.getElem?_map, List.getElem?_eq_getElem hi, Option.map_some, Option.getD_some]
            exact Nat.le_trans (subI_len _ _) (HSl.out _)
          · simp [partG, List.getD, List.getElem?_eq_none (by omega : (keptI (setP (solR g) (p : Int)) g.owner.length).length ≤ i)]
        have hol : (partG g (setP (solR g) (p : Int)) (keptI (setP (solR g) (p : Int)) g.owner.length)).owner.length = (keptI (setP (solR g) (p : Int)) g.owner.length).length := by simp [partG]
        have hX := HBX3.out w5 hW
        have d0 := cell_of_row _ _ 0 _ _ _ hX
        have d1 := cell_of_row _ _ 1 _ _ _ hX
        have d2 := cell_of_row _ _ 2 _ _ _ hX
        have HQ1 := Lib.hid hq1
        have HQ3 := Lib.hid hq3
        have HQ4 : Hid ((solR (partG g (setP (solR g) (p : Int)) (keptI (setP (solR g) (p : Int)) g.owner.length))).length = (keptI (setP (solR g) (p : Int)) g.owner.length).length) := by
          show _ = _; rw [solR_len hq2, hol]
        clear hq1 hq2 hq3 hol
        generalize partG g (setP (solR g) (p : Int)) (keptI (setP (solR g) (p : Int)) g.owner.length) = h at *
        generalize keptI (setP (solR g) (p : Int)) g.owner.length = ks at *
        go_wp2_with fail
        refine (Part_c w5 _ q5 g _ (HG3.out w5 hW) H55.out HSl.out).mono ?_
        rw [HQ1.out]
        rintro e w6 ⟨vh, vk, rfl, hh, hk, hb⟩
        replace hW := hW.trans (hb.mono hW.size)
        have HH := Lib.hid hh
        obtain ⟨u0, u1, u2, rfl, j0, j1, j2⟩ := hh
        obtain ⟨⟨bo0, bp0, c0, f0, rfl, -⟩, -⟩ := j0
        obtain ⟨⟨bo1, bp1, c1, f1, rfl, -⟩, -⟩ := j1
        obtain ⟨V2, ⟨bo2, bp2, c2, f2, rfl, -⟩, -⟩ := j2
        obtain ⟨⟨ak, ck, bk, ok, rfl, -⟩, -⟩ := hk
        clear hb hX d0 d1 d2
        go_upto_region 9 with (fail)
        have hbg := boxGame (w := w6) (v0 := Value.slice bo0 h.owner.length bp0) (v1 := Value.slice bo1 h.prio.length bp1) (v2 := Value.slice bo2 h.succ.length bp2)
        have HH7 := Lib.hid (HH.out.below hbg.2)
        replace hW := hW.trans (hbg.2.mono hW.size)
        generalize (w6.alloc (Obj.cells #[Value.slice bo0 h.owner.length bp0, Value.slice bo1 h.prio.length bp1, Value.slice bo2 h.succ.length bp2] 25)) = w7 at *
        have d0 := cell_of_row _ _ 0 _ _ _ hbg.1
        have d1 := cell_of_row _ _ 1 _ _ _ hbg.1
        have d2 := cell_of_row _ _ 2 _ _ _ hbg.1
        clear hbg
        go_wp2_with fail
        refine (SolveR_c w7 _ h HH7.out hsl2.out).mono ?_
        rintro e w8 ⟨vz, rfl, hi, hb⟩
        replace hW := hW.trans (hb.mono hW.size)
        obtain ⟨⟨az, cz, bz, oz, rfl, gs⟩, -⟩ := hi
        rw [HQ4.out] at gs ⊢
        have HGs := Lib.hid gs
        have HF8 := Lib.hid (HF3.out.trans (hW.mono HF3.out.size))
        clear hb gs d0 d1 d2 hW
        have hne0 : ((ks.length : Int) == 0) = false := beq_eq_false_iff_ne.2 (by omega)
        have hneq : ((ks.length : Int) != (ks.length : Int)) = false := by simp
        go_wp2
        clear hne0 hneq
        go_loopg [11] ks.length (fun gh i wr => ∃ k : Nat, gh = ks.length - k ∧ i = .int .i64 k ∧ k ≤ ks.length ∧ wr = w8)
        case atStart => exact ⟨0, by omega, rfl, by omega, rfl⟩
        case round =>
          obtain ⟨k, rfl, rfl, hk, rfl⟩ := hrel
          by_cases hlt : k < ks.length
          · have hgs := HGs.out
            obtain rfl := hgs.ad (by omega)
            have e4 := hgs.el k hlt
            unfold ivF at e4
            rw [HQ3.out k hlt] at e4
            clear hgs
            have hpp : ((p : Int) != (p : Int)) = false := by simp
            go_wp2
            go_roundg (ks.length - (k + 1))
            case rel => exact ⟨k + 1, rfl, by go_num, by omega, rfl⟩
            case measure => omega
          · obtain rfl : k = ks.length := by omega
            go_wp2
            go_ret
            exact ⟨rfl, HF8.out⟩

end Go.Proofs.Ytjhafakkadnfmaa
