/- The law StrategyPlays: its walk. -/
import Derived.Test.YtkbiopjinegckaaSt39
import Derived.Test.YtkbiopjinegckaaSt38
import Derived.Test.YtkbiopjinegckaaSt30
namespace Go.Proofs.Ytkbiopjinegckaa
open Go.RowKit

def RS12 (g : Gm) (PQ : Ph → Prop) (B : Nat) (p : Int) (vT vK : Value) (a0 a1 a2 : Option Addr) (n0 n1 n2 c0 c1 c2 j : Nat) (ix : Nat) (u : Value) (W : World) : Prop :=
  match ix with
  | 0 => u = .agg #[.slice a0 n0 c0, .slice a1 n1 c1, .slice a2 n2 c2]
  | 1 => u = .int .i64 p
  | 2 => u = vT
  | 3 => u = .agg #[.slice a0 n0 c0, .slice a1 n1 c1, .slice a2 n2 c2]
  | 4 => u = .int .i64 p
  | 5 => u = .int .i64 (1 - p)
  | 6 => u = vK
  | 7 => ∃ l, IsInts W u l ∧ l.length = g.owner.length ∧ ∀ i, i < g.owner.length → g.owner.getD i 0 = 1 - p → l.getD i 0 ∈ g.succ.getD i []
  | 8 => u = .int .i64 (j : Int)
  | 9 => ∃ R, IsPath W u R ∧ PQ R
  | 10 => ∃ z, u = .pointer (some ⟨z, 0, none⟩) ∧ B ≤ z ∧ W.heap[z]? = some (.cells #[.slice none 0 0, .slice none 0 0] 28 (0, 0))
  | _ => True
theorem RS12.below {ix : Nat} {u : Value} {W W' : World} {g : Gm} {PQ : Ph → Prop} {B : Nat} {p : Int} {vT vK : Value} {a0 a1 a2 : Option Addr} {n0 n1 n2 c0 c1 c2 j : Nat} (h : RS12 g PQ B p vT vK a0 a1 a2 n0 n1 n2 c0 c1 c2 j ix u W) (hb : Below W.heap.size W W') : RS12 g PQ B p vT vK a0 a1 a2 n0 n1 n2 c0 c1 c2 j ix u W' := by
  unfold RS12 at *
  split at h <;> first
    | exact h
    | trivial
    | (obtain ⟨l, h1, h2⟩ := h; exact ⟨l, IsInts.below h1 hb, h2⟩)
    | (obtain ⟨R, h1, h2⟩ := h; exact ⟨R, IsPath.below h1 hb, h2⟩)
    | (obtain ⟨z, h1, h2, h3⟩ := h; exact ⟨z, h1, h2, (hb.block z (Array.getElem?_eq_some_iff.1 h3).1).trans h3⟩)

set_option maxRecDepth 100000 in
set_option maxHeartbeats 16000000 in
theorem Plays_walk (w : World) (vg vS vT vK : Value) (g : Gm) (sec : Bool) (set : List Bool) (s : List Int) (pk : List Int) (hg : IsGame w vg g) (hs : IsBools w vS set) (ht : IsInts w vT s) (hK : IsU8s w vK pk) :
    Calls Try.prog 4 #[vg, .bool sec, vS, vT, vK] w (Calm (.bool true) w) := by
  have hmx : Try.prog.follows .mixedOrders = true := by kernel_rfl
  obtain ⟨a0, c0, a1, c1, a2, c2, rfl⟩ := hg.shape
  obtain ⟨aS, cS, rfl⟩ := hs.shape
  generalize hn0 : g.owner.length = n0 at *
  generalize hn1 : g.prio.length = n1 at *
  generalize hn2 : g.succ.length = n2 at *
  generalize hn : set.length = n at *
  go_enter Try.func4, Try.ntmps4
  go_upto_region 1 with (fail)
  obtain ⟨hx, hb, hB⟩ := box_new (w0 := w) (Below.refl _ _) (Nat.le_refl _) #[.slice a0 n0 c0, .slice a1 n1 c1, .slice a2 n2 c2] 25
  replace hg := hg.below hb
  replace hs := hs.below hb
  replace ht := ht.below hb
  replace hK := hK.below hb
  generalize w.alloc (.cells #[.slice a0 n0 c0, .slice a1 n1 c1, .slice a2 n2 c2] 25) = w1 at *
  have HE : Hid (∀ W, Below w1.heap.size w1 W → Calm (.bool true) w (.returned (.bool true)) W) := fun W h => ⟨rfl, hB.trans (h.mono hB.size)⟩
  clear hb hB
  generalize w.heap.size = zg at *
  go_wp2_with fail
  refine (head_c _).mono ?_
  rintro e w2 ⟨rfl, hb⟩
  replace hx := (hb.block _ (Array.getElem?_eq_some_iff.1 hx).1).trans hx
  replace hg := hg.below hb
  replace hs := hs.below hb
  replace ht := ht.below hb
  replace hK := hK.below hb
  have k0 := cell_of_row _ _ 0 _ _ _ hx
  have k1 := cell_of_row _ _ 1 _ _ _ hx
  have k2 := cell_of_row _ _ 2 _ _ _ hx
  go_wp2_with fail
  refine (right_c _ _ _ _ g set s hg hs ht).mono ?_
  rintro e w3 ⟨rfl, hb3⟩
  replace hx := (hb3.block _ (Array.getElem?_eq_some_iff.1 hx).1).trans hx
  replace hg := hg.below hb3
  replace hs := hs.below hb3
  replace ht := ht.below hb3
  replace hK := hK.below hb3
  replace hb := hb.trans (hb3.mono hb.size)
  clear k0 k1 k2 hb3
  cases hr : rightB g set s
  · go_wp2_with fail
    go_ret
    exact HE.out _ hb
  go_wp2_with fail
  refine (player_c _ sec).mono ?_
  rintro e w4 ⟨rfl, hb3⟩
  replace hx := (hb3.block _ (Array.getElem?_eq_some_iff.1 hx).1).trans hx
  replace hg := hg.below hb3
  replace hs := hs.below hb3
  replace ht := ht.below hb3
  replace hK := hK.below hb3
  replace hb := hb.trans (hb3.mono hb.size)
  clear hb3
  obtain ⟨p, hpe, hp01⟩ : ∃ p, plI sec = p ∧ (p = 0 ∨ p = 1) := ⟨_, rfl, by cases sec <;> simp [plI]⟩
  rw [hpe]
  have HP1 := Lib.hid hp01
  clear hpe hp01
  have k0 := cell_of_row _ _ 0 _ _ _ hx
  have k1 := cell_of_row _ _ 1 _ _ _ hx
  have k2 := cell_of_row _ _ 2 _ _ _ hx
  go_wp2_with fail
  refine (StValid_c _ _ _ _ g p set s hg hs ht).mono ?_
  rintro e w5 ⟨rfl, hb3⟩
  replace hx := (hb3.block _ (Array.getElem?_eq_some_iff.1 hx).1).trans hx
  replace hg := hg.below hb3
  replace hs := hs.below hb3
  replace ht := ht.below hb3
  replace hK := hK.below hb3
  replace hb := hb.trans (hb3.mono hb.size)
  clear k0 k1 k2 hb3
  have k0 := cell_of_row _ _ 0 _ _ _ hx
  have k1 := cell_of_row _ _ 1 _ _ _ hx
  have k2 := cell_of_row _ _ 2 _ _ _ hx
  cases hst : stB g p set s
  · have hw0 : winB g p set s = false := by unfold winB; rw [hst]; rfl
    go_wp2_with fail
    refine (Wins_c _ _ _ _ g p set s hg hs ht).mono ?_
    rw [hw0]
    rintro e w6 ⟨rfl, hb3⟩
    go_wp2_with fail
    go_ret
    exact HE.out _ (hb.trans (hb3.mono hb.size))
  go_wp2_with fail
  refine (Wins_c _ _ _ _ g p set s hg hs ht).mono ?_
  rintro e w6 ⟨rfl, hb3⟩
  replace hx := (hb3.block _ (Array.getElem?_eq_some_iff.1 hx).1).trans hx
  replace hg := hg.below hb3
  replace hs := hs.below hb3
  replace ht := ht.below hb3
  replace hK := hK.below hb3
  replace hb := hb.trans (hb3.mono hb.size)
  clear k0 k1 k2 hb3
  simp only [rightB, Bool.and_eq_true, decide_eq_true_eq] at hr
  obtain ⟨⟨⟨hsm, hv⟩, hl1⟩, hl2⟩ := hr
  have HV := Lib.hid hv
  have hn3 : n ≤ 3000 := by have := (valid_lens hv).1; omega
  have hwp : IntKind.i64.wrap (1 - p) = 1 - p := by rcases HP1.out with e | e <;> rw [e] <;> rfl
  have HN : Hid (g.owner.length = n) := (by omega : g.owner.length = n)
  have HPP : Hid (∀ (l : List Int) (x : Nat), x < n → set.getD x false = true → l.length = g.owner.length → (∀ i, i < g.owner.length → g.owner.getD i 0 = 1 - p → l.getD i 0 ∈ g.succ.getD i []) → ∀ R, plyR g p s l x = R → R.loop.length ≠ 0 ∧ (R.stem ++ R.loop).length ≤ n ∧ (R.stem ++ R.loop).getD 0 0 = (x : Int) ∧ (∀ k, k < (R.stem ++ R.loop).length → 0 ≤ (R.stem ++ R.loop).getD k 0 ∧ (R.stem ++ R.loop).getD k 0 < (n : Int) ∧ set.getD ((R.stem ++ R.loop).getD k 0).toNat false = true) ∧ 0 ≤ winrB g R ∧ (winB g p set s = true → winrB g R = p)) := fun l x hx hq hl hm R hR => by
    have k := plays_plain hst hl hm (by rw [HN.out]; exact hx) hq hR
    rw [HN.out] at k
    exact k
  clear hsm hv hl1 hl2 hst hn0 hn1 hn2 hn
  have HG6 := Lib.hid hg
  have HT6 := Lib.hid ht
  have HS6 := Lib.hid hs
  have HK6 := Lib.hid hK
  have HX6 := Lib.hid hx
  have HBT := Lib.hid hb
  obtain ⟨wn, hwn⟩ : ∃ b, winB g p set s = b := ⟨_, rfl⟩
  rw [hwn] at HPP ⊢
  obtain ⟨bS, oS, hdS, mS, ddS⟩ := hs.data
  have HDD := Lib.hid ddS
  clear hg ht hs hK hx hb ddS hwn
  go_wp2_with fail
  go_loopg [14] n (fun gh i wr => ∃ k : Nat, gh = n - k ∧ i = .int .i64 k ∧ k ≤ n ∧ Below w6.heap.size w6 wr)
  case atStart => exact ⟨0, rfl, rfl, by omega, Below.refl _ _⟩
  case round =>
    obtain ⟨j, hgk, rfl, hj, hB⟩ := hrel
    have HG := Lib.hid hgk
    have HB := Lib.hid hB
    clear hgk hB
    by_cases hltj : j < n
    · have hNj : decide ((j : Int) < n) = true := decide_eq_true (by omega)
      obtain rfl := hdS (by omega)
      have yS := cellB HB.out (HDD.out j hltj)
      cases hq : set.getD j false
      · rw [hq] at yS
        clear hq
        go_wp2_with fail
        go_roundg (n - (j + 1))
        case measure => have := HG.out; omega
        case rel => exact ⟨j + 1, rfl, by go_num, by omega, HB.out⟩
      · rw [hq] at yS
        have HPJ := Lib.hid (fun l => HPP.out l j hltj hq)
        clear hq HPP
        go_wp2_with fail
        have HB1 : Hid (∀ W, Below wr.drew.heap.size wr.drew W → Below w6.heap.size w6 W) := fun W h => HB.out.trans (((Below.drew (B := wr.heap.size) (Below.refl _ _)).trans h).mono HB.out.size)
        have HGC : Hid (∀ W, Below wr.drew.heap.size wr.drew W → W.cell? ⟨zg, 0, none⟩ = some (.slice a0 n0 c0) ∧ W.cell? ⟨zg, 1, none⟩ = some (.slice a1 n1 c1) ∧ W.cell? ⟨zg, 2, none⟩ = some (.slice a2 n2 c2)) := fun W h => by
          have k := ((HB1.out W h).block _ (Array.getElem?_eq_some_iff.1 HX6.out).1).trans HX6.out
          exact ⟨cell_of_row _ _ 0 _ _ _ k, cell_of_row _ _ 1 _ _ _ k, cell_of_row _ _ 2 _ _ _ k⟩
        have HSM : Hid (∀ W, Below w6.heap.size w6 W → Calls Try.prog 23 #[.agg #[.slice a0 n0 c0, .slice a1 n1 c1, .slice a2 n2 c2], .int .i64 (1 - p), vK] W (NewS g.owner.length (fun i x => g.owner.getD i 0 = 1 - p → x ∈ g.succ.getD i []) W)) := fun W h => some_c W _ _ g (1 - p) pk (HG6.out.below h) HV.out (HK6.out.below h)
        obtain ⟨PQ, hPQ⟩ : ∃ Q : Ph → Prop, Q = (fun R => R.loop.length ≠ 0 ∧ (R.stem ++ R.loop).length ≤ n ∧ (R.stem ++ R.loop).getD 0 0 = (j : Int) ∧ (∀ k, k < (R.stem ++ R.loop).length → 0 ≤ (R.stem ++ R.loop).getD k 0 ∧ (R.stem ++ R.loop).getD k 0 < (n : Int) ∧ set.getD ((R.stem ++ R.loop).getD k 0).toNat false = true) ∧ 0 ≤ winrB g R ∧ (wn = true → winrB g R = p)) := ⟨_, rfl⟩
        have HPL : Hid (∀ W v l, Below w6.heap.size w6 W → IsInts W v l → l.length = g.owner.length → (∀ i, i < g.owner.length → g.owner.getD i 0 = 1 - p → l.getD i 0 ∈ g.succ.getD i []) → Calls Try.prog 22 #[.agg #[.slice a0 n0 c0, .slice a1 n1 c1, .slice a2 n2 c2], .int .i64 p, vT, v, .int .i64 (j : Int)] W (fun e W' => ∃ u R, e = .returned u ∧ IsPath W' u R ∧ PQ R ∧ Below W.heap.size W W')) := fun W v l h il ll lq => by
          refine (play_c W _ _ _ g p s l (j : Int) (HG6.out.below h) (HT6.out.below h) il).mono ?_
          rintro e W' ⟨u, rfl, hu, hb⟩
          exact ⟨u, _, rfl, hu, by rw [hPQ]; exact HPJ.out l ll lq _ rfl, hb⟩
        have HPQ := Lib.hid hPQ
        clear HPJ hPQ yS
        refine region_last hmx (RS12 g PQ wr.drew.heap.size p vT vK a0 a1 a2 n0 n1 n2 c0 c1 c2 j) (fun vs => { tmps := (_ :: _ :: _ :: _ :: _ :: _ :: _ :: _ :: _ :: _ :: _ :: _ :: _ :: _ :: _ :: vs 10 :: _ :: _ :: _ :: _ :: _ :: _ :: _ :: _ :: _ :: _ :: _ :: _ :: _ :: _ :: _ :: _ :: _ :: _ :: _ :: _ :: _ :: _ :: _ :: _ :: _ :: _ :: _ :: _ :: _ :: _ :: _ :: _ :: _ :: _ :: _ :: _ :: _ :: _ :: _ :: _ :: _ :: _ :: vs 0 :: vs 1 :: vs 2 :: vs 3 :: vs 4 :: vs 5 :: vs 6 :: vs 7 :: vs 8 :: vs 9 :: _ :: _ :: _ :: _ :: _ :: _ :: _ :: _ :: _ :: _ :: _ :: _ :: _ :: _ :: _ :: _ :: _ :: _ :: _ :: _ :: _ :: _ :: _ :: _ :: _ :: _ :: _ :: _ :: _ :: _ :: _ :: _ :: _ :: _ :: _ :: _ :: _ :: _ :: _ :: _ :: _ :: _ :: _ :: _ :: _ :: _ :: _ :: _ :: _ :: _ :: _ :: _ :: _ :: _ :: _ :: _ :: _ :: _ :: _ :: _ :: _ :: _ :: _ :: _ :: _ :: _ :: _ :: _ :: _ :: _ :: []).toArray, defers := _ }) (fun k => [u58, u59, u60, u61, u62, u63, u64, u65, u66, u67, u15].getD k undef) 11 rfl (by kernel_rfl) (by kernel_rfl) (fun _ _ _ _ h hb => h.below hb) ?step ?last
        case step =>
          intro ix o hlt ho
          match ix, hlt, ho with
          | 0, hlt, ho =>
            obtain rfl := Option.some.inj ho
            intro vs W K hB hD hK
            have HK := Lib.hid hK
            obtain ⟨d0, d1, d2⟩ := HGC.out W hB
            clear hK hD ho
            dsimp only
            go_simp
            have h := HK.out _ _ (Below.refl _ _) rfl
            simp only [upd, Nat.reduceEqDiff, reduceIte] at h
            exact h
          | 1, hlt, ho =>
            obtain rfl := Option.some.inj ho
            intro vs W K hB hD hK
            have HK := Lib.hid hK
            clear hK hD ho
            dsimp only
            go_simp
            have h := HK.out _ _ (Below.refl _ _) rfl
            simp only [upd, Nat.reduceEqDiff, reduceIte] at h
            exact h
          | 2, hlt, ho =>
            obtain rfl := Option.some.inj ho
            intro vs W K hB hD hK
            have HK := Lib.hid hK
            clear hK hD ho
            dsimp only
            go_simp
            have h := HK.out _ _ (Below.refl _ _) rfl
            simp only [upd, Nat.reduceEqDiff, reduceIte] at h
            exact h
          | 3, hlt, ho =>
            obtain rfl := Option.some.inj ho
            intro vs W K hB hD hK
            have HK := Lib.hid hK
            obtain ⟨d0, d1, d2⟩ := HGC.out W hB
            clear hK hD ho
            dsimp only
            go_simp
            have h := HK.out _ _ (Below.refl _ _) rfl
            simp only [upd, Nat.reduceEqDiff, reduceIte] at h
            exact h
          | 4, hlt, ho =>
            obtain rfl := Option.some.inj ho
            intro vs W K hB hD hK
            have HK := Lib.hid hK
            clear hK hD ho
            dsimp only
            go_simp
            have h := HK.out _ _ (Below.refl _ _) rfl
            simp only [upd, Nat.reduceEqDiff, reduceIte] at h
            exact h
          | 5, hlt, ho =>
            obtain rfl := Option.some.inj ho
            intro vs W K hB hD hK
            have HK := Lib.hid hK
            have e4 : vs 4 = .int .i64 p := dep_of hD 4 (by rfl)
            clear hK hD ho
            dsimp only
            go_simp
            have h := HK.out _ _ (Below.refl _ _) rfl
            simp only [upd, Nat.reduceEqDiff, reduceIte, e4] at h
            exact h
          | 6, hlt, ho =>
            obtain rfl := Option.some.inj ho
            intro vs W K hB hD hK
            have HK := Lib.hid hK
            clear hK hD ho
            dsimp only
            go_simp
            have h := HK.out _ _ (Below.refl _ _) rfl
            simp only [upd, Nat.reduceEqDiff, reduceIte] at h
            exact h
          | 7, hlt, ho =>
            obtain rfl := Option.some.inj ho
            intro vs W K hB hD hK
            have HK := Lib.hid hK
            have e3 : vs 3 = .agg #[.slice a0 n0 c0, .slice a1 n1 c1, .slice a2 n2 c2] := dep_of hD 3 (by rfl)
            have e5 : vs 5 = .int .i64 (1 - p) := dep_of hD 5 (by rfl)
            have e6 : vs 6 = vK := dep_of hD 6 (by rfl)
            clear hK hD ho
            dsimp only
            go_simp
            refine (HSM.out W (HB1.out W hB)).mono ?_
            rintro e W' ⟨u', l, rfl, hu, hl, hq, hb⟩
            have h := HK.out _ _ hb ⟨l, hu, hl, hq⟩
            simp only [upd, Nat.reduceEqDiff, reduceIte, e3, e5, e6] at h
            exact h
          | 8, hlt, ho =>
            obtain rfl := Option.some.inj ho
            intro vs W K hB hD hK
            have HK := Lib.hid hK
            clear hK hD ho
            dsimp only
            go_simp
            have h := HK.out _ _ (Below.refl _ _) rfl
            simp only [upd, Nat.reduceEqDiff, reduceIte] at h
            exact h
          | 9, hlt, ho =>
            obtain rfl := Option.some.inj ho
            intro vs W K hB hD hK
            have HK := Lib.hid hK
            have e0 : vs 0 = .agg #[.slice a0 n0 c0, .slice a1 n1 c1, .slice a2 n2 c2] := dep_of hD 0 (by rfl)
            have e1 : vs 1 = .int .i64 p := dep_of hD 1 (by rfl)
            have e2 : vs 2 = vT := dep_of hD 2 (by rfl)
            have i7 := dep_of (R := RS12 g PQ wr.drew.heap.size p vT vK a0 a1 a2 n0 n1 n2 c0 c1 c2 j) hD 7 (by rfl)
            have e8 : vs 8 = .int .i64 (j : Int) := dep_of hD 8 (by rfl)
            obtain ⟨l, il, ll, lq⟩ := i7
            clear hK hD ho
            dsimp only
            go_simp
            refine (HPL.out W (vs 7) l (HB1.out W hB) il ll lq).mono ?_
            rintro e W' ⟨u', R, rfl, hu, hq, hb⟩
            have h := HK.out _ _ hb ⟨R, hu, hq⟩
            simp only [upd, Nat.reduceEqDiff, reduceIte, e0, e1, e2, e8] at h
            exact h
          | 10, hlt, ho =>
            obtain rfl := Option.some.inj ho
            intro vs W K hB hD hK
            have HK := Lib.hid hK; have hBs := hB.size
            clear hK hD ho
            dsimp only
            go_simp
            have h := HK.out _ _ (bel_box _) ⟨W.heap.size, rfl, hBs, heap_alloc_new _ _⟩
            simp only [upd, Nat.reduceEqDiff, reduceIte] at h
            exact h
          | q + 11, hlt, _ => exact absurd hlt (by omega)
        case last =>
          intro o ho
          obtain rfl := Option.some.inj ho
          intro vs W K hB hD hK
          have HKK := Lib.hid hK
          obtain ⟨R, hP, hQ⟩ := hD 9 (by decide)
          obtain ⟨z, e10, hzB, hz⟩ := hD 10 (by decide)
          obtain ⟨x0, y0', x1, y1, e9, i0, i1⟩ := hP.shape
          have HBW := Lib.hid (HB1.out W hB)
          clear hK hD hB
          have f0 := frozen_of_row _ _ 0 _ _ hz
          have f1 := frozen_of_row _ _ 1 _ _ hz
          have k0 := cell_of_row _ _ 0 _ _ _ hz
          have k1 := cell_of_row _ _ 1 _ _ _ hz
          have HZ := Lib.hid (two_set (c := .slice x0 R.stem.length y0') (d := .slice x1 R.loop.length y1) hz)
          have HI0 : Hid (IsInts ((W.setCell ⟨z, 0, none⟩ (.slice x0 R.stem.length y0')).setCell ⟨z, 1, none⟩ (.slice x1 R.loop.length y1)) (.slice x0 R.stem.length y0') R.stem) := (i0.off k0 _).off (by rw [World.cell?_setCell_other _ _ _ _ (fun e => by rw [Addr.mk.injEq] at e; omega)]; exact k1) _
          have HI1 : Hid (IsInts ((W.setCell ⟨z, 0, none⟩ (.slice x0 R.stem.length y0')).setCell ⟨z, 1, none⟩ (.slice x1 R.loop.length y1)) (.slice x1 R.loop.length y1) R.loop) := (i1.off k0 _).off (by rw [World.cell?_setCell_other _ _ _ _ (fun e => by rw [Addr.mk.injEq] at e; omega)]; exact k1) _
          have HBX : Hid (Below w6.heap.size w6 ((W.setCell ⟨z, 0, none⟩ (.slice x0 R.stem.length y0')).setCell ⟨z, 1, none⟩ (.slice x1 R.loop.length y1))) := by
            have hz6 : w6.heap.size ≤ z := Nat.le_trans HB.out.size (by simpa using hzB)
            exact (HBW.out.setCell hz6 _).setCell hz6 _
          clear i0 i1 hP hz ho
          dsimp only
          go_simp
          refine HKK.out _ _ ?_
          rw [HPQ.out] at hQ
          clear HKK k0 k1 f0 f1 e9 e10 HBW HPL HSM HGC HB1 HPQ
          generalize (W.setCell ⟨z, 0, none⟩ (.slice x0 R.stem.length y0')).setCell ⟨z, 1, none⟩ (.slice x1 R.loop.length y1) = w8 at *
          have hzl : z < w8.heap.size := (Array.getElem?_eq_some_iff.1 HZ.out).1
          have HOE : Hid (OI ((w8.alloc (.cells #[] 3)).drew) w8.heap.size (.slice (some ⟨w8.heap.size, 0, none⟩) 0 0) []) := (OI_empty0 w8).below (Below.drew (Below.refl _ _))
          have hbn : Below w8.heap.size w8 ((w8.alloc (.cells #[] 3)).drew) := Below.drew (bel_box _)
          have HBN := Lib.hid hbn
          have HIS : Hid (IsInts ((w8.alloc (.cells #[] 3)).drew) (.slice x0 R.stem.length y0') R.stem) := HI0.out.below hbn
          have hszn : w8.heap.size ≤ ((w8.alloc (.cells #[] 3)).drew).heap.size := hbn.size
          have HZZ : Hid (∀ W, Below w8.heap.size w8 W → W.cell? ⟨z, 0, none⟩ = some (.slice x0 R.stem.length y0') ∧ W.cell? ⟨z, 1, none⟩ = some (.slice x1 R.loop.length y1)) := fun W h => by
            have k := (h.block z hzl).trans HZ.out
            exact ⟨cell_of_row _ _ 0 _ _ _ k, cell_of_row _ _ 1 _ _ _ k⟩
          obtain ⟨k0, k1⟩ := HZZ.out w8 (Below.refl _ _)
          have hLn : (R.stem ++ R.loop).length ≤ 3000 := by have := hQ.2.1; omega
          have hLs : R.stem.length + R.loop.length ≤ 3000 := by rw [List.length_append] at hLn; exact hLn
          have HQ := Lib.hid hQ
          clear hbn hQ
          go_wp2_with fail
          go_cut [16] (fun lv wx => ∃ ao cap, lv = .slice ao (R.stem ++ R.loop).length cap ∧ Hid (OI wx w8.heap.size (.slice ao (R.stem ++ R.loop).length cap) (R.stem ++ R.loop)) ∧ Hid (Below w8.heap.size w8 wx))
          case first =>
            go_region_law (first
              | (rw [if_pos (by rfl)]; refine wp_app_ints ((w8.alloc (.cells #[] 3)).drew) _ _ (by rfl) w8.heap.size (.slice (some ⟨w8.heap.size, 0, none⟩) 0 0) (.slice x0 R.stem.length y0') [] R.stem (by rfl) HOE.out (by rfl) HIS.out (by simp; omega) hszn ?_; intro v9 w9 hown9 hg9; obtain ⟨ao9, cap9, hv9⟩ := hown9.slice; rw [List.nil_append] at hv9 hown9; subst hv9; have HO9 := Lib.hid hown9; have HB9 := Lib.hid (HBN.out.grown hg9 (by simp) (fun g h => by simp [Value.ownBlock] at h; omega)); have hs9 := HB9.out.size; have q1 := (HZZ.out w9 HB9.out).2; have HI9 : Hid (IsInts w9 (.slice x1 R.loop.length y1) R.loop) := HI1.out.below HB9.out; clear hown9 hg9)
              | (rw [if_pos (by rfl)]; refine wp_app_ints w9 _ _ (by rfl) w8.heap.size (.slice ao9 R.stem.length cap9) (.slice x1 R.loop.length y1) R.stem R.loop (by rfl) HO9.out (by rfl) HI9.out (by omega) hs9 ?_; intro v10 w10 hown10 hg10; obtain ⟨ao10, cap10, hv10⟩ := hown10.slice; subst hv10; have HO10 := Lib.hid hown10; have HB10 := Lib.hid (HB9.out.grown hg10 hs9 (fun g h => HO9.out.ge g h)); clear hown10 hg10))
            all_goals
              go_wp2_with fail
              go_meet
              case rel => exact ⟨ao10, cap10, by rw [List.length_append], HO10.out, HB10.out⟩
          case rest =>
            obtain ⟨aL, cL, rfl, HOL, HBL⟩ := hcut
            have HBA := Lib.hid (HBX.out.trans (HBL.out.mono HBX.out.size))
            obtain ⟨k0, k1⟩ := HZZ.out wc HBL.out
            obtain ⟨hq1, hq2, hq3, hq4, hq5, hq6⟩ := HQ.out
            have hlp : 0 < (R.stem ++ R.loop).length := by rw [List.length_append]; omega
            have iL : IsInts wc (.slice aL (R.stem ++ R.loop).length cL) (R.stem ++ R.loop) := HOL.out.is (by simp only [maxN]; omega) (fun x hx => by
              obtain ⟨k, hk, rfl⟩ := List.getElem_of_mem hx
              have := hq4 k hk
              rw [getD_lt _ _ _ hk] at this
              unfold I64; omega)
            obtain ⟨bL, oL, hdL, mL, ddL⟩ := iL.data
            obtain rfl := hdL hlp
            have y0 := ddL 0 hlp
            rw [hq3, Nat.add_zero] at y0
            have HDL := Lib.hid ddL
            have HQ4 := Lib.hid hq4
            have HQ6 := Lib.hid hq6
            have hlz : ((R.loop.length : Int) == 0) = false := beq_eq_false_iff_ne.2 (by omega)
            obtain ⟨ln, hln⟩ : ∃ ln, (R.stem ++ R.loop).length = ln := ⟨_, rfl⟩
            rw [hln] at hlp hq2 HDL HQ4 ⊢
            have hgt : decide ((ln : Int) > n) = false := decide_eq_false (by omega)
            have hgt2 : decide (n < ln) = false := decide_eq_false (by omega)
            have hl0 : (0 : Int) < ln := by omega
            have hjj : ((j : Int) != (j : Int)) = false := by simp
            have hln3 : ln ≤ 3000 := by omega
            have HS9 : Hid (∀ i, i < n → wc.cell? ⟨bS, oS + i, none⟩ = some (.bool (set.getD i false))) := fun i hi => cellB HBA.out (HDD.out i hi)
            have hgx := (HBA.out.block _ (Array.getElem?_eq_some_iff.1 HX6.out).1).trans HX6.out
            have hgg := HG6.out.below HBA.out
            have hpp : IsPath wc (.agg #[.slice x0 R.stem.length y0', .slice x1 R.loop.length y1]) R := ⟨_, _, rfl, HI0.out.below HBL.out, HI1.out.below HBL.out⟩
            have HWR := Lib.hid (fun (W : World) (h : Below wc.heap.size wc W) => Winner_c W _ _ g R (hgg.below h) (hpp.below h) (by omega))
            have HGX := Lib.hid hgx
            obtain ⟨m0, m1, m2⟩ : wc.cell? ⟨zg, 0, none⟩ = some (.slice a0 n0 c0) ∧ wc.cell? ⟨zg, 1, none⟩ = some (.slice a1 n1 c1) ∧ wc.cell? ⟨zg, 2, none⟩ = some (.slice a2 n2 c2) := ⟨cell_of_row _ _ 0 _ _ _ hgx, cell_of_row _ _ 1 _ _ _ hgx, cell_of_row _ _ 2 _ _ _ hgx⟩
            have HZR : Hid (∀ W, Below wc.heap.size wc W → W.cell? ⟨z, 0, none⟩ = some (.slice x0 R.stem.length y0') ∧ W.cell? ⟨z, 1, none⟩ = some (.slice x1 R.loop.length y1)) := fun W h => HZZ.out W (HBL.out.trans (h.mono HBL.out.size))
            obtain ⟨wq, hwq⟩ : ∃ x, winrB g R = x := ⟨_, rfl⟩
            rw [hwq] at hq5 HQ6 HWR
            have hneg : decide (wq < 0) = false := decide_eq_false (by omega)
            clear hq1 hq3 hq4 hq6 iL ddL hdL hln hgx hgg hpp HQ hwq HZ HI0 HI1 HOE HBN HIS HZZ HOL
            go_wp2_with fail
            go_loopg [17] ln (fun gh i wx => ∃ k : Nat, gh = ln - k ∧ i = .int .i64 k ∧ k ≤ ln ∧ wx = wc)
            case atStart => exact ⟨0, rfl, rfl, by omega, rfl⟩
            case round =>
              obtain ⟨k, hgk, rfl, hk, rfl⟩ := hrel
              have HGK := Lib.hid hgk
              clear hgk
              by_cases hlk : k < ln
              · have hNk : decide ((k : Int) < ln) = true := decide_eq_true (by omega)
                have yk := HDL.out k hlk
                obtain ⟨t1, t2, t3⟩ := HQ4.out k hlk
                generalize (R.stem ++ R.loop).getD k 0 = x at *
                obtain ⟨xn, rfl⟩ : ∃ xn : Nat, x = (xn : Int) := ⟨x.toNat, by omega⟩
                rw [Int.toNat_natCast] at t3
                have hxn : xn < n := by omega
                have ys := HS9.out xn hxn
                rw [t3] at ys
                have g1 : decide ((xn : Int) < 0) = false := decide_eq_false (by omega)
                have g2 : decide ((n : Int) ≤ xn) = false := decide_eq_false (by omega)
                have g3 : decide (n ≤ xn) = false := decide_eq_false (by omega)
                clear t3 t1
                go_wp2_with fail
                go_roundg (ln - (k + 1))
                case measure => have := HGK.out; omega
                case rel => exact ⟨k + 1, rfl, by go_num, by omega, rfl⟩
              · obtain rfl : k = ln := by omega
                go_wp2_with fail
                refine (HWR.out _ (Below.refl _ _)).mono ?_
                rintro e w11 ⟨rfl, hb3⟩
                have hgx := (hb3.block _ (Array.getElem?_eq_some_iff.1 HGX.out).1).trans HGX.out
                clear m0 m1 m2 k0 k1
                have m0 := cell_of_row _ _ 0 _ _ _ hgx
                have m1 := cell_of_row _ _ 1 _ _ _ hgx
                have m2 := cell_of_row _ _ 2 _ _ _ hgx
                obtain ⟨k0, k1⟩ := HZR.out w11 hb3
                have HB3 := Lib.hid hb3
                clear hgx hb3 y0
                cases wn
                · go_wp2_with fail
                  go_roundg (n - (j + 1))
                  case measure => have := HG.out; omega
                  case rel => exact ⟨j + 1, rfl, by go_num, by omega, HBA.out.trans (HB3.out.mono HBA.out.size)⟩
                · have hnp : (wq != p) = false := by rw [HQ6.out rfl]; simp
                  go_wp2_with fail
                  refine (HWR.out _ HB3.out).mono ?_
                  rintro e w12 ⟨rfl, hb4⟩
                  have HB4 := Lib.hid (HB3.out.trans (hb4.mono HB3.out.size))
                  clear hb4
                  go_wp2_with fail
                  go_roundg (n - (j + 1))
                  case measure => have := HG.out; omega
                  case rel => exact ⟨j + 1, rfl, by go_num, by omega, HBA.out.trans (HB4.out.mono HBA.out.size)⟩
    · obtain rfl : j = n := by omega
      go_wp2_with fail
      go_ret
      exact HE.out _ (HBT.out.trans (HB.out.mono HBT.out.size))

end Go.Proofs.Ytkbiopjinegckaa
