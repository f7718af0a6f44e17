/- What the reference's Valid and Wins of strategies return. -/
import Derived.Test.YtkbiopjinegckaaSt18
import Derived.Test.YtkbiopjinegckaaSt5
import Derived.BigQuiet
namespace Go.Proofs.Ytkbiopjinegckaa
open Go.RowKit

set_option maxHeartbeats 4000000 in
theorem RStValid_c (w : World) (vg vs vt : Value) (g : Gm) (p : Int) (set : List Bool) (s : List Int) (hg : IsGame w vg g) (hs : IsBools w vs set) (ht : IsInts w vt s) :
    Calls Try.prog 14 #[vg, .int .i64 p, vs, vt] w (Calm (.bool (stB g p set s)) w) := by
  cases h0 : (p != 0)
  · exact RStValid_1 w vg vs vt g p set s hg hs ht (.inl h0)
  cases h1 : (p != 1)
  · exact RStValid_1 w vg vs vt g p set s hg hs ht (.inr ⟨h0, h1⟩)
  have HV : Hid (∀ W, Below w.heap.size w W → Calls Try.prog 33 #[vg] W (Calm (.bool (validB g)) W)) := fun W hW => RValid_c W _ g (hg.below hW)
  have HF : Hid (stB g p set s = false) := stB_false (.inl (by rw [h0, h1]; rfl))
  obtain ⟨v0, v1, v2, rfl, -, -, -⟩ := hg
  obtain ⟨aS, cS, rfl⟩ := hs.shape
  obtain ⟨aT, cT, rfl⟩ := ht.shape
  clear hs ht
  cases hv : validB g
  all_goals
    go_enter Try.func14, Try.ntmps14
    go_wp2_with fail
    refine (HV.out _ (by repeat (first | exact Below.refl _ _ | assumption | (refine belA ?_ _) | (refine belD ?_ _) | (refine Below.drew ?_)))).mono ?_
    rintro e w1 ⟨rfl, hb1⟩
    rw [hv]
    have hB1 := (Boxed.start hb1).bl
    clear hv hb1
    go_wp2
    go_ret
    exact ⟨ret_bool HF.out.symm, hB1⟩

def RS6 (g : Gm) (p : Int) (set : List Bool) (s : List Int) (z : Nat) (a0 : Option Addr) (n c0 b1 o1 c1 : Nat) (a2 : Option Addr) (c2 bS oS cS : Nat) (aT : Option Addr) (cT k : Nat) (q : Int) (bw : Bool) (ix : Nat) (u : Value) (W : World) : Prop :=
  match ix with
  | 0 => u = .slice (some ⟨bS, oS, none⟩) n cS
  | 1 => u = .int .i64 (k : Int)
  | 2 => u = .pointer (some ⟨bS, oS + k, none⟩)
  | 3 => u = .bool true
  | 4 => u = .bool true
  | 5 => u = .pointer (some ⟨z, 1, none⟩)
  | 6 => u = .slice (some ⟨b1, o1, none⟩) n c1
  | 7 => u = .int .i64 (k : Int)
  | 8 => u = .pointer (some ⟨b1, o1 + k, none⟩)
  | 9 => u = .int .i64 q
  | 10 => u = .int .i64 (q % 2)
  | 11 => u = .int .i64 p
  | 12 => u = .bool true
  | 13 => u = .bool true
  | 14 => u = .bool true
  | 15 => u = .agg #[.slice a0 n c0, .slice (some ⟨b1, o1, none⟩) n c1, .slice a2 n c2]
  | 16 => u = .int .i64 p
  | 17 => u = .slice (some ⟨bS, oS, none⟩) n cS
  | 18 => u = .slice aT n cT
  | 19 => u = .pointer (some ⟨z, 1, none⟩)
  | 20 => u = .slice (some ⟨b1, o1, none⟩) n c1
  | 21 => u = .int .i64 (k : Int)
  | 22 => u = .pointer (some ⟨b1, o1 + k, none⟩)
  | 23 => u = .int .i64 q
  | 24 => ∃ B G, MA W B u n n G (WK (movB g p set s q) n)
  | 25 => u = .int .i64 (k : Int)
  | 26 => ∃ B G gO c, u = .pointer (some ⟨gO, k, none⟩) ∧ MA W B (.slice (some ⟨gO, 0, none⟩) n c) n n G (WK (movB g p set s q) n)
  | 27 => ∃ B v G, u = .slice (some ⟨G k, 0, none⟩) n n ∧ MA W B v n n G (WK (movB g p set s q) n)
  | 28 => u = .int .i64 (k : Int)
  | 29 => ∃ B v G, u = .pointer (some ⟨G k, k, none⟩) ∧ MA W B v n n G (WK (movB g p set s q) n)
  | 30 => u = .bool bw
  | 31 => u = .bool bw
  | _ => True

theorem RS6.mono (g : Gm) (p : Int) (set : List Bool) (s : List Int) (z : Nat) (a0 : Option Addr) (n c0 b1 o1 c1 : Nat) (a2 : Option Addr) (c2 bS oS cS : Nat) (aT : Option Addr) (cT k : Nat) (q : Int) (bw : Bool) (ix : Nat) (v : Value) (W W' : World)
    (h : RS6 g p set s z a0 n c0 b1 o1 c1 a2 c2 bS oS cS aT cT k q bw ix v W) (hb : Below W.heap.size W W') : RS6 g p set s z a0 n c0 b1 o1 c1 a2 c2 bS oS cS aT cT k q bw ix v W' := by
  by_cases e : ix = 24 ∨ ix = 26 ∨ ix = 27 ∨ ix = 29
  · rcases e with rfl | rfl | rfl | rfl
    · obtain ⟨B, G, hM⟩ := h; exact ⟨B, G, hM.below hb⟩
    · obtain ⟨B, G, gO, c, e, hM⟩ := h; exact ⟨B, G, gO, c, e, hM.below hb⟩
    · obtain ⟨B, v, G, e, hM⟩ := h; exact ⟨B, v, G, e, hM.below hb⟩
    · obtain ⟨B, v, G, e, hM⟩ := h; exact ⟨B, v, G, e, hM.below hb⟩
  · unfold RS6 at h ⊢
    split at h <;> first | exact h | exact absurd (by simp) e

set_option maxRecDepth 100000 in
set_option maxHeartbeats 20000000 in
theorem RWins_c (w : World) (vg vs vt : Value) (g : Gm) (p : Int) (set : List Bool) (s : List Int) (hg : IsGame w vg g) (hs : IsBools w vs set) (ht : IsInts w vt s) :
    Calls Try.prog 16 #[vg, .int .i64 p, vs, vt] w (Calm (.bool (winB g p set s)) w) := by
  have HV : Hid (∀ W, Below w.heap.size w W → Calls Try.prog 14 #[vg, .int .i64 p, vs, vt] W (Calm (.bool (stB g p set s)) W)) := fun W hW => RStValid_c W vg vs vt g p set s (hg.below hW) (hs.below hW) (ht.below hW)
  cases hv : stB g p set s
  · obtain ⟨v0, v1, v2, rfl, -, -, -⟩ := hg
    have HW : Hid (winB g p set s = false) := by show _ = _; unfold winB; rw [hv]; rfl
    clear hs ht
    go_enter Try.func16, Try.ntmps16
    go_wp2_with fail
    refine (HV.out _ (by repeat (first | exact Below.refl _ _ | assumption | (refine belA ?_ _) | (refine belD ?_ _) | (refine Below.drew ?_)))).mono ?_
    rintro e w1 ⟨rfl, hb1⟩
    rw [hv]
    have hbx := (Boxed.start hb1).bl
    clear hv hb1
    go_wp2
    go_ret
    exact ⟨ret_bool HW.out.symm, hbx⟩
  · have HPath : Hid (∀ q W, Below w.heap.size w W → Calls Try.prog 38 #[vg, .int .i64 p, vs, vt, .int .i64 q] W (PathsOut W g p set s q)) := fun q W hW => paths_c W vg vs vt g p set s q (hg.below hW) (hs.below hW) (ht.below hW) hv
    obtain ⟨hp, hvg, l1, l2, -⟩ := keeps_at hv
    obtain ⟨lo, lp, ls⟩ := valid_lens hvg
    have HPr : Hid (∀ k, k < g.owner.length → 0 ≤ g.prio.getD k 0 ∧ g.prio.getD k 0 ≤ 30000) := fun k hk => (valid_at hvg k hk).2.1
    have HWin : Hid (winB g p set s = (List.range g.owner.length).all fun i => !(set.getD i false && (g.prio.getD i 0 % 2 != p) && WK (movB g p set s (g.prio.getD i 0)) g.owner.length i i)) := by
      show _ = _
      unfold winB; rw [hv]; rfl
    obtain ⟨v0, v1, v2, rfl, i0, i1, i2⟩ := hg
    obtain ⟨a0, c0, rfl⟩ := i0.shape
    obtain ⟨a1, c1, rfl⟩ := i1.shape
    obtain ⟨aS, cS, rfl⟩ := hs.shape
    obtain ⟨aT, cT, rfl⟩ := ht.shape
    obtain ⟨a2, c2, b2, o2, V, hv2, hd2, m2, dd2⟩ := i2.data
    subst hv2
    obtain ⟨b1, o1, hd1, m1, dd1⟩ := i1.data
    obtain ⟨bS, oS, hdS, mS, ddS⟩ := hs.data
    have HVT := Lib.hid hv
    obtain ⟨n, hn⟩ : ∃ n, n = g.owner.length := ⟨_, rfl⟩
    have HN : Hid (g.owner.length = n) := hn.symm
    rw [← hn] at l1 l2 lo lp ls HWin HPr HV HPath ⊢
    rw [lp] at hd1 dd1 HV HPath ⊢
    rw [ls] at HV HPath ⊢
    rw [l1] at hdS ddS HV HPath ⊢
    rw [l2] at HV HPath ⊢
    have H1 : Hid (∀ j, j < n → ∀ W, Below w.heap.size w W → W.cell? ⟨b1, o1 + j, none⟩ = some (.int .i64 (g.prio.getD j 0))) := fun j hj W hW => cellB hW (dd1 j hj)
    have HS : Hid (∀ j, j < n → ∀ W, Below w.heap.size w W → W.cell? ⟨bS, oS + j, none⟩ = some (.bool (set.getD j false))) := fun j hj W hW => cellB hW (ddS j hj)
    have HAD : Hid (0 < n → a1 = some ⟨b1, o1, none⟩ ∧ aS = some ⟨bS, oS, none⟩) := fun h => ⟨hd1 h, hdS h⟩
    have hn3 : n ≤ 3000 := lo
    clear hp hvg l1 l2 lo lp ls i0 i1 i2 hs ht dd1 dd2 ddS hd1 hd2 hdS m1 m2 mS hn
    go_enter Try.func16, Try.ntmps16
    go_wp2_with fail
    refine (HV.out _ (by repeat (first | exact Below.refl _ _ | assumption | (refine belA ?_ _) | (refine belD ?_ _) | (refine Below.drew ?_)))).mono ?_
    rintro e w1 ⟨rfl, hb1⟩
    rw [HVT.out]
    have hbx := Boxed.start hb1
    clear hv hb1
    go_wp2
    go_loopg [8, 9] n (fun gh r i wr => ∃ k : Nat, gh = n - k ∧ i = .int .i64 k ∧ r = .bool false ∧ k ≤ n ∧ Hid (Boxed w wr #[.slice a0 n c0, .slice a1 n c1, .slice a2 n c2]) ∧ Hid (∀ j, j < k → (set.getD j false && (g.prio.getD j 0 % 2 != p) && WK (movB g p set s (g.prio.getD j 0)) n j j) = false))
    case atStart => exact ⟨0, rfl, rfl, rfl, by omega, hbx, fun j hj => absurd hj (by omega)⟩
    case round =>
      clear hbx
      obtain ⟨k, hgk, rfl, rfl, hk, HBx, HE⟩ := hrel
      have HGK := Lib.hid hgk
      clear hgk
      have d0 := HBx.out.cell 0 rfl
      by_cases hlt : k < n
      · obtain ⟨rfl, rfl⟩ := HAD.out (by omega)
        have HEn : Hid (∀ b, (set.getD k false && (g.prio.getD k 0 % 2 != p) && WK (movB g p set s (g.prio.getD k 0)) n k k) = b → b = false → ∀ j, j < k + 1 → (set.getD j false && (g.prio.getD j 0 % 2 != p) && WK (movB g p set s (g.prio.getD j 0)) n j j) = false) := fun b h hb j hj => by
          by_cases e : j = k
          · rw [e, h, hb]
          · exact HE.out j (by omega)
        have HBad : Hid ((set.getD k false && (g.prio.getD k 0 % 2 != p) && WK (movB g p set s (g.prio.getD k 0)) n k k) = true → winB g p set s = false) := fun h => by
          rw [HWin.out]
          exact List.all_eq_false.2 ⟨k, List.mem_range.2 hlt, by rw [h]; decide⟩
        have cS0 := HS.out k hlt wr HBx.out.bl
        have cP0 := H1.out k hlt wr HBx.out.bl
        have d1 := HBx.out.cell 1 rfl
        obtain ⟨q0, q1⟩ := HPr.out k hlt
        have hlI : (k : Int) < n := by omega
        have HSt : Hid (∀ W, Below wr.drew.heap.size wr.drew W → W.cell? ⟨bS, oS + k, none⟩ = some (.bool (set.getD k false))) := fun W h => HS.out k hlt W (HBx.out.bl.trans (((Below.drew (Below.refl _ _)).trans h).mono HBx.out.bl.size))
        have HPt : Hid (∀ W, Below wr.drew.heap.size wr.drew W → W.cell? ⟨b1, o1 + k, none⟩ = some (.int .i64 (g.prio.getD k 0))) := fun W h => H1.out k hlt W (HBx.out.bl.trans (((Below.drew (Below.refl _ _)).trans h).mono HBx.out.bl.size))
        generalize g.prio.getD k 0 = q at *
        have hmd : Int.tmod q 2 = q % 2 := Int.tmod_eq_emod_of_nonneg q0
        cases hsk : set.getD k false
        · rw [hsk] at cS0 HEn
          have HE2 := Lib.hid (HEn.out _ rfl rfl)
          clear hsk
          go_upto_region 6 with (fail)
          go_quiet (fail)
          go_wp2
          go_roundg (n - (k + 1))
          case measure => have := HGK.out; omega
          case rel => exact ⟨k + 1, rfl, by go_num, rfl, by omega, HBx.out.step (below_draws _ _ _), HE2⟩
        · rw [hsk] at cS0 HEn HSt HBad
          clear hsk
          cases hqp : (q % 2 != p)
          · rw [hqp] at HEn
            have HE2 := Lib.hid (HEn.out _ rfl rfl)
            go_upto_region 6 with (fail)
            go_quiet (fail)
            go_wp2
            go_roundg (n - (k + 1))
            case measure => have := HGK.out; omega
            case rel => exact ⟨k + 1, rfl, by go_num, rfl, by omega, HBx.out.step (below_draws _ _ _), HE2⟩
          · have HMD := Lib.hid hmd
            have HNE := Lib.hid hqp
            rw [hqp] at HEn HBad
            clear hmd hqp cS0 cP0 d1
            obtain ⟨bw, hbw⟩ : ∃ bw, bw = WK (movB g p set s q) n k k := ⟨_, rfl⟩
            have HBW2 : Hid (WK (movB g p set s q) n k k = bw) := hbw.symm
            rw [← hbw] at HEn HBad
            clear hbw
            have HKN : Hid (k < n ∧ (k : Int) < n) := ⟨hlt, hlI⟩
            have HZ : Hid (∀ W, Below wr.drew.heap.size wr.drew W → W.cell? ⟨w.heap.size, 0, none⟩ = some (.slice a0 n c0) ∧ W.cell? ⟨w.heap.size, 1, none⟩ = some (.slice (some ⟨b1, o1, none⟩) n c1) ∧ W.cell? ⟨w.heap.size, 2, none⟩ = some (.slice a2 n c2)) := fun W h => by
              have hb := HBx.out.step ((Below.drew (Below.refl _ _)).trans h)
              exact ⟨hb.cell 0 rfl, hb.cell 1 rfl, hb.cell 2 rfl⟩
            have HPa : Hid (∀ W, Below wr.drew.heap.size wr.drew W → Calls Try.prog 38 #[.agg #[.slice a0 n c0, .slice (some ⟨b1, o1, none⟩) n c1, .slice a2 n c2], .int .i64 p, .slice (some ⟨bS, oS, none⟩) n cS, .slice aT n cT, .int .i64 q] W (PathsOut W g p set s q)) := fun W h => HPath.out q W (HBx.out.bl.trans (((Below.drew (Below.refl _ _)).trans h).mono HBx.out.bl.size))
            have hmx : Try.prog.follows .mixedOrders = true := by kernel_rfl
            go_upto_region 6 with (fail)
            clear d0
            refine region_stable0 hmx (RS6 g p set s w.heap.size a0 n c0 b1 o1 c1 a2 c2 bS oS cS aT cT k q bw) (fun vs => { tmps := (_ :: _ :: _ :: _ :: _ :: _ :: _ :: _ :: _ :: _ :: _ :: _ :: _ :: _ :: _ :: _ :: _ :: _ :: _ :: _ :: _ :: _ :: _ :: vs 0 :: vs 1 :: vs 2 :: vs 3 :: vs 4 :: vs 5 :: vs 6 :: vs 7 :: vs 8 :: vs 9 :: vs 10 :: vs 11 :: vs 12 :: vs 13 :: vs 14 :: vs 15 :: vs 16 :: vs 17 :: vs 18 :: vs 19 :: vs 20 :: vs 21 :: vs 22 :: vs 23 :: vs 24 :: vs 25 :: vs 26 :: vs 27 :: vs 28 :: vs 29 :: vs 30 :: vs 31 :: []).toArray, defers := _ }) (fun n => [u23, u24, u25, u26, u27, u28, u29, u30, u31, u32, u33, u34, u35, u36, u37, u38, u39, u40, u41, u42, u43, u44, u45, u46, u47, u48, u49, u50, u51, u52, u53, u54].getD n undef) rfl (by kernel_rfl) (RS6.mono g p set s w.heap.size a0 n c0 b1 o1 c1 a2 c2 bS oS cS aT cT k q bw) ?step ?fin
            case step =>
              intro ix o ho
              match ix, ho with
              | 0, ho =>
                obtain rfl := Option.some.inj ho
                intro vs W K hB hD hU hK
                have HK := Lib.hid hK
                clear hK hD hU ho
                dsimp only
                go_simp
                have h := HK.out _ _ (Below.refl _ _) rfl
                simp only [upd, Nat.reduceEqDiff, reduceIte] at h
                exact h
              | 1, ho =>
                obtain rfl := Option.some.inj ho
                intro vs W K hB hD hU hK
                have HK := Lib.hid hK
                clear hK hD hU ho
                dsimp only
                go_simp
                have h := HK.out _ _ (Below.refl _ _) rfl
                simp only [upd, Nat.reduceEqDiff, reduceIte] at h
                exact h
              | 2, ho =>
                obtain rfl := Option.some.inj ho
                intro vs W K hB hD hU hK
                have HK := Lib.hid hK
                have e0 : vs 0 = .slice (some ⟨bS, oS, none⟩) n cS := dep_of hD 0 (by rfl)
                have e1 : vs 1 = .int .i64 (k : Int) := dep_of hD 1 (by rfl)
                clear hK hD hU ho
                dsimp only
                go_simp
                have h := HK.out _ _ (Below.refl _ _) rfl
                simp only [upd, Nat.reduceEqDiff, reduceIte, e0, e1] at h
                exact h
              | 3, ho =>
                obtain rfl := Option.some.inj ho
                intro vs W K hB hD hU hK
                have HK := Lib.hid hK
                have e2 : vs 2 = .pointer (some ⟨bS, oS + k, none⟩) := dep_of hD 2 (by rfl)
                have cS := HSt.out W hB
                clear hK hD hU ho
                dsimp only
                go_simp
                have h := HK.out _ _ (Below.refl _ _) rfl
                simp only [upd, Nat.reduceEqDiff, reduceIte, e2] at h
                exact h
              | 4, ho =>
                obtain rfl := Option.some.inj ho
                intro vs W K hB hD hU hK
                have HK := Lib.hid hK
                have e3 : vs 3 = .bool true := dep_of hD 3 (by rfl)
                clear hK hD hU ho
                dsimp only
                go_simp
                have h := HK.out _ _ (Below.refl _ _) rfl
                simp only [upd, Nat.reduceEqDiff, reduceIte, e3] at h
                exact h
              | 5, ho =>
                obtain rfl := Option.some.inj ho
                intro vs W K hB hD hU hK
                have HK := Lib.hid hK
                have e4 : vs 4 = .bool true := dep_of hD 4 (by rfl)
                clear hK hD hU ho
                dsimp only
                go_simp
                have h := HK.out _ _ (Below.refl _ _) rfl
                simp only [upd, Nat.reduceEqDiff, reduceIte, e4] at h
                exact h
              | 6, ho =>
                obtain rfl := Option.some.inj ho
                intro vs W K hB hD hU hK
                have HK := Lib.hid hK
                have e4 : vs 4 = .bool true := dep_of hD 4 (by rfl)
                have e5 : vs 5 = .pointer (some ⟨w.heap.size, 1, none⟩) := dep_of hD 5 (by rfl)
                obtain ⟨d0, d1, d2⟩ := HZ.out W hB
                clear hK hD hU ho
                dsimp only
                go_simp
                have h := HK.out _ _ (Below.refl _ _) rfl
                simp only [upd, Nat.reduceEqDiff, reduceIte, e4, e5] at h
                exact h
              | 7, ho =>
                obtain rfl := Option.some.inj ho
                intro vs W K hB hD hU hK
                have HK := Lib.hid hK
                have e4 : vs 4 = .bool true := dep_of hD 4 (by rfl)
                clear hK hD hU ho
                dsimp only
                go_simp
                have h := HK.out _ _ (Below.refl _ _) rfl
                simp only [upd, Nat.reduceEqDiff, reduceIte, e4] at h
                exact h
              | 8, ho =>
                obtain rfl := Option.some.inj ho
                intro vs W K hB hD hU hK
                have HK := Lib.hid hK
                have e4 : vs 4 = .bool true := dep_of hD 4 (by rfl)
                have e6 : vs 6 = .slice (some ⟨b1, o1, none⟩) n c1 := dep_of hD 6 (by rfl)
                have e7 : vs 7 = .int .i64 (k : Int) := dep_of hD 7 (by rfl)
                clear hK hD hU ho
                dsimp only
                go_simp
                have h := HK.out _ _ (Below.refl _ _) rfl
                simp only [upd, Nat.reduceEqDiff, reduceIte, e4, e6, e7] at h
                exact h
              | 9, ho =>
                obtain rfl := Option.some.inj ho
                intro vs W K hB hD hU hK
                have HK := Lib.hid hK
                have e4 : vs 4 = .bool true := dep_of hD 4 (by rfl)
                have e8 : vs 8 = .pointer (some ⟨b1, o1 + k, none⟩) := dep_of hD 8 (by rfl)
                have cP := HPt.out W hB
                clear hK hD hU ho
                dsimp only
                go_simp
                have h := HK.out _ _ (Below.refl _ _) rfl
                simp only [upd, Nat.reduceEqDiff, reduceIte, e4, e8] at h
                exact h
              | 10, ho =>
                obtain rfl := Option.some.inj ho
                intro vs W K hB hD hU hK
                have HK := Lib.hid hK
                have e4 : vs 4 = .bool true := dep_of hD 4 (by rfl)
                have e9 : vs 9 = .int .i64 q := dep_of hD 9 (by rfl)
                have hmd := HMD.out
                clear hK hD hU ho
                dsimp only
                go_simp
                have h := HK.out _ _ (Below.refl _ _) rfl
                simp only [upd, Nat.reduceEqDiff, reduceIte, e4, e9] at h
                exact h
              | 11, ho =>
                obtain rfl := Option.some.inj ho
                intro vs W K hB hD hU hK
                have HK := Lib.hid hK
                have e4 : vs 4 = .bool true := dep_of hD 4 (by rfl)
                clear hK hD hU ho
                dsimp only
                go_simp
                have h := HK.out _ _ (Below.refl _ _) rfl
                simp only [upd, Nat.reduceEqDiff, reduceIte, e4] at h
                exact h
              | 12, ho =>
                obtain rfl := Option.some.inj ho
                intro vs W K hB hD hU hK
                have HK := Lib.hid hK
                have e4 : vs 4 = .bool true := dep_of hD 4 (by rfl)
                have e10 : vs 10 = .int .i64 (q % 2) := dep_of hD 10 (by rfl)
                have e11 : vs 11 = .int .i64 p := dep_of hD 11 (by rfl)
                have hne := HNE.out
                clear hK hD hU ho
                dsimp only
                go_simp
                have h := HK.out _ _ (Below.refl _ _) rfl
                simp only [upd, Nat.reduceEqDiff, reduceIte, e4, e10, e11] at h
                exact h
              | 13, ho =>
                obtain rfl := Option.some.inj ho
                intro vs W K hB hD hU hK
                have HK := Lib.hid hK
                have e4 : vs 4 = .bool true := dep_of hD 4 (by rfl)
                have e12 : vs 12 = .bool true := dep_of hD 12 (by rfl)
                clear hK hD hU ho
                dsimp only
                go_simp
                have h := HK.out _ _ (Below.refl _ _) rfl
                simp only [upd, Nat.reduceEqDiff, reduceIte, e4, e12] at h
                exact h
              | 14, ho =>
                obtain rfl := Option.some.inj ho
                intro vs W K hB hD hU hK
                have HK := Lib.hid hK
                have e13 : vs 13 = .bool true := dep_of hD 13 (by rfl)
                clear hK hD hU ho
                dsimp only
                go_simp
                have h := HK.out _ _ (Below.refl _ _) rfl
                simp only [upd, Nat.reduceEqDiff, reduceIte, e13] at h
                exact h
              | 15, ho =>
                obtain rfl := Option.some.inj ho
                intro vs W K hB hD hU hK
                have HK := Lib.hid hK
                have e14 : vs 14 = .bool true := dep_of hD 14 (by rfl)
                obtain ⟨d0, d1, d2⟩ := HZ.out W hB
                clear hK hD hU ho
                dsimp only
                go_simp
                have h := HK.out _ _ (Below.refl _ _) rfl
                simp only [upd, Nat.reduceEqDiff, reduceIte, e14] at h
                exact h
              | 16, ho =>
                obtain rfl := Option.some.inj ho
                intro vs W K hB hD hU hK
                have HK := Lib.hid hK
                have e14 : vs 14 = .bool true := dep_of hD 14 (by rfl)
                clear hK hD hU ho
                dsimp only
                go_simp
                have h := HK.out _ _ (Below.refl _ _) rfl
                simp only [upd, Nat.reduceEqDiff, reduceIte, e14] at h
                exact h
              | 17, ho =>
                obtain rfl := Option.some.inj ho
                intro vs W K hB hD hU hK
                have HK := Lib.hid hK
                have e14 : vs 14 = .bool true := dep_of hD 14 (by rfl)
                clear hK hD hU ho
                dsimp only
                go_simp
                have h := HK.out _ _ (Below.refl _ _) rfl
                simp only [upd, Nat.reduceEqDiff, reduceIte, e14] at h
                exact h
              | 18, ho =>
                obtain rfl := Option.some.inj ho
                intro vs W K hB hD hU hK
                have HK := Lib.hid hK
                have e14 : vs 14 = .bool true := dep_of hD 14 (by rfl)
                clear hK hD hU ho
                dsimp only
                go_simp
                have h := HK.out _ _ (Below.refl _ _) rfl
                simp only [upd, Nat.reduceEqDiff, reduceIte, e14] at h
                exact h
              | 19, ho =>
                obtain rfl := Option.some.inj ho
                intro vs W K hB hD hU hK
                have HK := Lib.hid hK
                have e14 : vs 14 = .bool true := dep_of hD 14 (by rfl)
                clear hK hD hU ho
                dsimp only
                go_simp
                have h := HK.out _ _ (Below.refl _ _) rfl
                simp only [upd, Nat.reduceEqDiff, reduceIte, e14] at h
                exact h
              | 20, ho =>
                obtain rfl := Option.some.inj ho
                intro vs W K hB hD hU hK
                have HK := Lib.hid hK
                have e14 : vs 14 = .bool true := dep_of hD 14 (by rfl)
                have e19 : vs 19 = .pointer (some ⟨w.heap.size, 1, none⟩) := dep_of hD 19 (by rfl)
                obtain ⟨d0, d1, d2⟩ := HZ.out W hB
                clear hK hD hU ho
                dsimp only
                go_simp
                have h := HK.out _ _ (Below.refl _ _) rfl
                simp only [upd, Nat.reduceEqDiff, reduceIte, e14, e19] at h
                exact h
              | 21, ho =>
                obtain rfl := Option.some.inj ho
                intro vs W K hB hD hU hK
                have HK := Lib.hid hK
                have e14 : vs 14 = .bool true := dep_of hD 14 (by rfl)
                clear hK hD hU ho
                dsimp only
                go_simp
                have h := HK.out _ _ (Below.refl _ _) rfl
                simp only [upd, Nat.reduceEqDiff, reduceIte, e14] at h
                exact h
              | 22, ho =>
                obtain rfl := Option.some.inj ho
                intro vs W K hB hD hU hK
                have HK := Lib.hid hK
                have e14 : vs 14 = .bool true := dep_of hD 14 (by rfl)
                have e20 : vs 20 = .slice (some ⟨b1, o1, none⟩) n c1 := dep_of hD 20 (by rfl)
                have e21 : vs 21 = .int .i64 (k : Int) := dep_of hD 21 (by rfl)
                clear hK hD hU ho
                dsimp only
                go_simp
                have h := HK.out _ _ (Below.refl _ _) rfl
                simp only [upd, Nat.reduceEqDiff, reduceIte, e14, e20, e21] at h
                exact h
              | 23, ho =>
                obtain rfl := Option.some.inj ho
                intro vs W K hB hD hU hK
                have HK := Lib.hid hK
                have e14 : vs 14 = .bool true := dep_of hD 14 (by rfl)
                have e22 : vs 22 = .pointer (some ⟨b1, o1 + k, none⟩) := dep_of hD 22 (by rfl)
                have cP := HPt.out W hB
                clear hK hD hU ho
                dsimp only
                go_simp
                have h := HK.out _ _ (Below.refl _ _) rfl
                simp only [upd, Nat.reduceEqDiff, reduceIte, e14, e22] at h
                exact h
              | 24, ho =>
                obtain rfl := Option.some.inj ho
                intro vs W K hB hD hU hK
                have HK := Lib.hid hK
                have e14 : vs 14 = .bool true := dep_of hD 14 (by rfl)
                have e15 : vs 15 = .agg #[.slice a0 n c0, .slice (some ⟨b1, o1, none⟩) n c1, .slice a2 n c2] := dep_of hD 15 (by rfl)
                have e16 : vs 16 = .int .i64 p := dep_of hD 16 (by rfl)
                have e17 : vs 17 = .slice (some ⟨bS, oS, none⟩) n cS := dep_of hD 17 (by rfl)
                have e18 : vs 18 = .slice aT n cT := dep_of hD 18 (by rfl)
                have e23 : vs 23 = .int .i64 q := dep_of hD 23 (by rfl)
                clear hK hD hU ho
                dsimp only
                go_simp
                refine (HPa.out W hB).mono ?_
                rintro e W' ⟨v, G, rfl, hM, hb⟩
                rw [HN.out] at hM
                have h := HK.out _ _ hb ⟨_, G, hM⟩
                simp only [upd, Nat.reduceEqDiff, reduceIte, e14, e15, e16, e17, e18, e23] at h
                exact h
              | 25, ho =>
                obtain rfl := Option.some.inj ho
                intro vs W K hB hD hU hK
                have HK := Lib.hid hK
                have e14 : vs 14 = .bool true := dep_of hD 14 (by rfl)
                clear hK hD hU ho
                dsimp only
                go_simp
                have h := HK.out _ _ (Below.refl _ _) rfl
                simp only [upd, Nat.reduceEqDiff, reduceIte, e14] at h
                exact h
              | 26, ho =>
                obtain rfl := Option.some.inj ho
                intro vs W K hB hD hU hK
                have HK := Lib.hid hK
                have e14 : vs 14 = .bool true := dep_of hD 14 (by rfl)
                have i24 := dep_of (R := RS6 g p set s w.heap.size a0 n c0 b1 o1 c1 a2 c2 bS oS cS aT cT k q bw) hD 24 (by rfl)
                have e25 : vs 25 = .int .i64 (k : Int) := dep_of hD 25 (by rfl)
                obtain ⟨B, G, hM⟩ := i24
                obtain ⟨gO, cap, hv, -⟩ := hM.row (j := k) HKN.out.1
                rw [hv] at hM
                obtain ⟨hk1, hk2⟩ := HKN.out
                clear hK hD hU ho
                dsimp only
                go_simp
                have h := HK.out _ _ (Below.refl _ _) ⟨B, G, gO, cap, rfl, hM⟩
                simp only [upd, Nat.reduceEqDiff, reduceIte, hv, e14, e25] at h
                exact h
              | 27, ho =>
                obtain rfl := Option.some.inj ho
                intro vs W K hB hD hU hK
                have HK := Lib.hid hK
                have e14 : vs 14 = .bool true := dep_of hD 14 (by rfl)
                have i26 := dep_of (R := RS6 g p set s w.heap.size a0 n c0 b1 o1 c1 a2 c2 bS oS cS aT cT k q bw) hD 26 (by rfl)
                obtain ⟨B, G, gO, cap, hv, hM⟩ := i26
                have hc := hM.rowc HKN.out.1
                clear hK hD hU ho
                dsimp only
                go_simp
                have h := HK.out _ _ (Below.refl _ _) ⟨B, _, G, rfl, hM⟩
                simp only [upd, Nat.reduceEqDiff, reduceIte, hv, e14] at h
                exact h
              | 28, ho =>
                obtain rfl := Option.some.inj ho
                intro vs W K hB hD hU hK
                have HK := Lib.hid hK
                have e14 : vs 14 = .bool true := dep_of hD 14 (by rfl)
                clear hK hD hU ho
                dsimp only
                go_simp
                have h := HK.out _ _ (Below.refl _ _) rfl
                simp only [upd, Nat.reduceEqDiff, reduceIte, e14] at h
                exact h
              | 29, ho =>
                obtain rfl := Option.some.inj ho
                intro vs W K hB hD hU hK
                have HK := Lib.hid hK
                have e14 : vs 14 = .bool true := dep_of hD 14 (by rfl)
                have i27 := dep_of (R := RS6 g p set s w.heap.size a0 n c0 b1 o1 c1 a2 c2 bS oS cS aT cT k q bw) hD 27 (by rfl)
                have e28 : vs 28 = .int .i64 (k : Int) := dep_of hD 28 (by rfl)
                obtain ⟨B, v, G, hv, hM⟩ := i27
                obtain ⟨hk1, hk2⟩ := HKN.out
                clear hK hD hU ho
                dsimp only
                go_simp
                have h := HK.out _ _ (Below.refl _ _) ⟨B, v, G, rfl, hM⟩
                simp only [upd, Nat.reduceEqDiff, reduceIte, hv, e14, e28] at h
                exact h
              | 30, ho =>
                obtain rfl := Option.some.inj ho
                intro vs W K hB hD hU hK
                have HK := Lib.hid hK
                have e14 : vs 14 = .bool true := dep_of hD 14 (by rfl)
                have i29 := dep_of (R := RS6 g p set s w.heap.size a0 n c0 b1 o1 c1 a2 c2 bS oS cS aT cT k q bw) hD 29 (by rfl)
                obtain ⟨B, v, G, hv, hM⟩ := i29
                have hc := hM.at HKN.out.1 HKN.out.1
                rw [HBW2.out] at hc
                clear hK hD hU ho
                dsimp only
                go_simp
                have h := HK.out _ _ (Below.refl _ _) rfl
                simp only [upd, Nat.reduceEqDiff, reduceIte, hv, e14] at h
                exact h
              | 31, ho =>
                obtain rfl := Option.some.inj ho
                intro vs W K hB hD hU hK
                have HK := Lib.hid hK
                have e14 : vs 14 = .bool true := dep_of hD 14 (by rfl)
                have e30 : vs 30 = .bool bw := dep_of hD 30 (by rfl)
                clear hK hD hU ho
                dsimp only
                go_simp
                have h := HK.out _ _ (Below.refl _ _) rfl
                simp only [upd, Nat.reduceEqDiff, reduceIte, e14, e30] at h
                exact h
              | q + 32, ho => exact absurd ho (by simp)
            case fin =>
              intro vs W hB hall
              have e31 : vs 31 = .bool bw := hall 31 (by decide)
              have hB3 := (Below.drew (B := wr.heap.size) (Below.refl _ wr)).trans hB
              clear hall hB
              rw [e31]
              clear e31
              generalize vs 0 = z0q
              generalize vs 1 = z1q
              generalize vs 2 = z2q
              generalize vs 3 = z3q
              generalize vs 4 = z4q
              generalize vs 5 = z5q
              generalize vs 6 = z6q
              generalize vs 7 = z7q
              generalize vs 8 = z8q
              generalize vs 9 = z9q
              generalize vs 10 = z10q
              generalize vs 11 = z11q
              generalize vs 12 = z12q
              generalize vs 13 = z13q
              generalize vs 14 = z14q
              generalize vs 15 = z15q
              generalize vs 16 = z16q
              generalize vs 17 = z17q
              generalize vs 18 = z18q
              generalize vs 19 = z19q
              generalize vs 20 = z20q
              generalize vs 21 = z21q
              generalize vs 22 = z22q
              generalize vs 23 = z23q
              generalize vs 24 = z24q
              generalize vs 25 = z25q
              generalize vs 26 = z26q
              generalize vs 27 = z27q
              generalize vs 28 = z28q
              generalize vs 29 = z29q
              generalize vs 30 = z30q
              clear vs
              cases bw
              · have HE2 := Lib.hid (HEn.out _ rfl rfl)
                have hBn := HBx.out.step hB3
                go_wp2
                go_roundg (n - (k + 1))
                case measure => have := HGK.out; omega
                case rel => exact ⟨k + 1, rfl, by go_num, rfl, by omega, hBn, HE2⟩
              · have HE2 := Lib.hid (HBad.out rfl)
                have hBn := (HBx.out.step hB3).bl
                go_wp2
                go_ret
                exact ⟨ret_bool HE2.out.symm, hBn⟩
      · obtain rfl : k = n := by omega
        have HFin : Hid (winB g p set s = true) := by
          show _ = _
          rw [HWin.out]
          exact List.all_eq_true.2 fun j hj => by rw [HE.out j (List.mem_range.1 hj)]; rfl
        go_wp2
        go_ret
        exact ⟨ret_bool HFin.out.symm, HBx.out.bl⟩

end Go.Proofs.Ytkbiopjinegckaa
