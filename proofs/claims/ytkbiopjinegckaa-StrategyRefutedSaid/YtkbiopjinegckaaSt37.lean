/- The law StrategyRefuted: its walk. -/
import Derived.Test.YtkbiopjinegckaaSt36
import Derived.Test.YtkbiopjinegckaaSt30
namespace Go.Proofs.Ytkbiopjinegckaa
open Go.RowKit

def refI (g : Gm) (p : Int) (set : List Bool) (s : List Int) (m i : Nat) : Bool := set.getD i false && (winrB g (plyR g p s (strR g (1 - p) m) i) == 1 - p)
def refM (g : Gm) (p : Int) (set : List Bool) (s : List Int) (m : Nat) : Bool := (List.range g.owner.length).any (refI g p set s m)
def refK (g : Gm) (p : Int) (set : List Bool) (s : List Int) (k : Nat) : Bool := (List.range k).any (refM g p set s)
theorem anyK_succ (f : Nat → Bool) (k : Nat) : (List.range (k + 1)).any f = ((List.range k).any f || f k) := by
  rw [List.range_succ, List.any_append]; simp
theorem anyK_mono (f : Nat → Bool) {k c : Nat} (h : k ≤ c) (ht : (List.range k).any f = true) : (List.range c).any f = true := by
  rw [List.any_eq_true] at ht ⊢
  obtain ⟨x, hx, hf⟩ := ht
  rw [List.mem_range] at hx
  exact ⟨x, List.mem_range.2 (by omega), hf⟩
/-- What the law says. -/
theorem ref_plain {g : Gm} {p : Int} {set : List Bool} {s : List Int} (hst : stB g p set s = true) (hc : countR g (1 - p) 200 ≤ 200) : winB g p set s = !refK g p set s (countR g (1 - p) 200) := by
  have hp := (keeps_at hst).1
  have hv := (keeps_at hst).2.1
  cases hw : winB g p set s
  · obtain ⟨m, x, h1, h2, h3, h4⟩ := refuted_ex hst hw
    have : refK g p set s (countR g (1 - p) 200) = true := List.any_eq_true.2 ⟨m, List.mem_range.2 (by unfold countR at hc ⊢; rw [cntK_tot _ _ _ hc]; exact h1), List.any_eq_true.2 ⟨x, List.mem_range.2 h2, by unfold refI; rw [h3, h4]; simp⟩⟩
    rw [this]; rfl
  · have : refK g p set s (countR g (1 - p) 200) = false := by
      rw [← Bool.not_eq_true]
      intro h
      obtain ⟨m, -, h⟩ := List.any_eq_true.1 h
      obtain ⟨x, hx, h⟩ := List.any_eq_true.1 h
      unfold refI at h
      rw [Bool.and_eq_true] at h
      have hw2 := not_refuted hw (strR_len g (1 - p) m) (fun v hvn ho => strR_mem hv hvn (by have := (valid_at hv v hvn).1; omega)) (List.mem_range.1 hx) h.1
      rw [hw2] at h
      have := h.2
      simp at this
      omega
    rw [this]; rfl
theorem ply_small {g : Gm} {p : Int} {set : List Bool} {s : List Int} (hst : stB g p set s = true) (m : Nat) {x : Nat} (hx : x < g.owner.length) (hin : set.getD x false = true) : (plyR g p s (strR g (1 - p) m) x).stem.length + (plyR g p s (strR g (1 - p) m) x).loop.length ≤ 90000 := by
  have hv := (keeps_at hst).2.1
  obtain ⟨a, b, way, i, h1, h2, -⟩ := ply_stays hst (strR_len g (1 - p) m) (fun v hvn ho => strR_mem hv hvn (by have := (valid_at hv v hvn).1; have := (keeps_at hst).1; omega)) hx hin
  have hl := nd_len h2.nd (fun v hv => (h2.mem v hv).1)
  have hn := (valid_lens hv).1
  rw [h1]
  simp only [castL_length, List.length_take, List.length_drop]
  omega

def RFt (_p _wn : Int) (_R : Ph) (_eq _rj _sj : Bool) (_vT _vO : Value) (_a0 _a1 _a2 : Option Addr) (_n0 _n1 _n2 _c0 _c1 _c2 _j _n _bS _oS _cS : Nat) (ix : Nat) (u : Value) (_ : World) : Prop :=
  match ix with
  | 0 => u = .bool true
  | 1 => u = .bool true
  | 2 => u = undef
  | 3 => u = undef
  | 4 => u = undef
  | 5 => u = undef
  | 6 => u = undef
  | 7 => u = undef
  | 8 => u = undef
  | 9 => u = undef
  | 10 => u = undef
  | 11 => u = undef
  | 12 => u = undef
  | 13 => u = undef
  | 14 => u = undef
  | 15 => u = undef
  | 16 => u = undef
  | 17 => u = undef
  | 18 => u = undef
  | 19 => u = .bool true
  | 20 => u = .bool true
  | _ => True
def RFff (_p _wn : Int) (_R : Ph) (_eq _rj _sj : Bool) (_vT _vO : Value) (_a0 _a1 _a2 : Option Addr) (_n0 _n1 _n2 _c0 _c1 _c2 j n bS oS cS : Nat) (ix : Nat) (u : Value) (_ : World) : Prop :=
  match ix with
  | 0 => u = .bool false
  | 1 => u = .bool false
  | 2 => u = .slice (some ⟨bS, oS, none⟩) n cS
  | 3 => u = .int .i64 (j : Int)
  | 4 => u = .pointer (some ⟨bS, oS + j, none⟩)
  | 5 => u = .bool false
  | 6 => u = .bool false
  | 7 => u = undef
  | 8 => u = undef
  | 9 => u = undef
  | 10 => u = undef
  | 11 => u = undef
  | 12 => u = undef
  | 13 => u = undef
  | 14 => u = undef
  | 15 => u = undef
  | 16 => u = undef
  | 17 => u = undef
  | 18 => u = .bool false
  | 19 => u = .bool false
  | 20 => u = .bool false
  | _ => True
def RFft (p wn : Int) (R : Ph) (eq _rj _sj : Bool) (vT vO : Value) (a0 a1 a2 : Option Addr) (n0 n1 n2 c0 c1 c2 j n bS oS cS : Nat) (ix : Nat) (u : Value) (W : World) : Prop :=
  match ix with
  | 0 => u = .bool false
  | 1 => u = .bool false
  | 2 => u = .slice (some ⟨bS, oS, none⟩) n cS
  | 3 => u = .int .i64 (j : Int)
  | 4 => u = .pointer (some ⟨bS, oS + j, none⟩)
  | 5 => u = .bool true
  | 6 => u = .bool true
  | 7 => u = .agg #[.slice a0 n0 c0, .slice a1 n1 c1, .slice a2 n2 c2]
  | 8 => u = .agg #[.slice a0 n0 c0, .slice a1 n1 c1, .slice a2 n2 c2]
  | 9 => u = .int .i64 p
  | 10 => u = vT
  | 11 => u = vO
  | 12 => u = .int .i64 (j : Int)
  | 13 => IsPath W u R
  | 14 => u = .int .i64 wn
  | 15 => u = .int .i64 p
  | 16 => u = .int .i64 (1 - p)
  | 17 => u = .bool eq
  | 18 => u = .bool eq
  | 19 => u = .bool eq
  | 20 => u = .bool eq
  | _ => True
theorem RFft.below {ix : Nat} {u : Value} {W W' : World} {p wn : Int} {R : Ph} {eq rj sj : Bool} {vT vO : Value} {a0 a1 a2 : Option Addr} {n0 n1 n2 c0 c1 c2 j n bS oS cS : Nat} (h : RFft p wn R eq rj sj vT vO a0 a1 a2 n0 n1 n2 c0 c1 c2 j n bS oS cS ix u W) (hb : Below W.heap.size W W') : RFft p wn R eq rj sj vT vO a0 a1 a2 n0 n1 n2 c0 c1 c2 j n bS oS cS ix u W' := by
  unfold RFft at *
  split at h <;> first | exact h | trivial | exact IsPath.below h hb

set_option maxRecDepth 100000 in
set_option maxHeartbeats 16000000 in
theorem Ref_walk (w : World) (vg vS vT : Value) (g : Gm) (sec : Bool) (set : List Bool) (s : List Int) (hg : IsGame w vg g) (hs : IsBools w vS set) (ht : IsInts w vT s) :
    Calls Try.prog 5 #[vg, .bool sec, vS, vT] w (Calm (.bool true) w) := by
  have hmx : Try.prog.follows .mixedOrders = true := by kernel_rfl
  obtain ⟨a0, c0, a1, c1, a2, c2, rfl⟩ := hg.shape
  obtain ⟨aS, cS, rfl⟩ := hs.shape
  generalize hn0 : g.owner.length = n0 at *
  generalize hn1 : g.prio.length = n1 at *
  generalize hn2 : g.succ.length = n2 at *
  generalize hn : set.length = n at *
  go_enter Try.func5, Try.ntmps5
  go_upto_region 1 with (fail)
  obtain ⟨hx, hb, hB⟩ := box_new (w0 := w) (Below.refl _ _) (Nat.le_refl _) #[.slice a0 n0 c0, .slice a1 n1 c1, .slice a2 n2 c2] 25
  replace hg := hg.below hb
  replace hs := hs.below hb
  replace ht := ht.below hb
  generalize w.alloc (.cells #[.slice a0 n0 c0, .slice a1 n1 c1, .slice a2 n2 c2] 25) = w1 at *
  have HE : Hid (∀ W, Below w1.heap.size w1 W → Calm (.bool true) w (.returned (.bool true)) W) := fun W h => ⟨rfl, hB.trans (h.mono hB.size)⟩
  clear hb hB
  generalize w.heap.size = zg at *
  go_wp2_with fail
  refine (head_c _).mono ?_
  rintro e w2 ⟨rfl, hb⟩
  replace hx := (hb.block _ (Array.getElem?_eq_some_iff.1 hx).1).trans hx
  replace hg := hg.below hb
  replace hs := hs.below hb
  replace ht := ht.below hb
  go_wp2_with fail
  refine (player_c _ sec).mono ?_
  rintro e w3 ⟨rfl, hb3⟩
  replace hx := (hb3.block _ (Array.getElem?_eq_some_iff.1 hx).1).trans hx
  replace hg := hg.below hb3
  replace hs := hs.below hb3
  replace ht := ht.below hb3
  replace hb := hb.trans (hb3.mono hb.size)
  clear hb3
  obtain ⟨p, hpe, hp01⟩ : ∃ p, plI sec = p ∧ (p = 0 ∨ p = 1) := ⟨_, rfl, by cases sec <;> simp [plI]⟩
  rw [hpe]
  have HP1 := Lib.hid hp01
  clear hpe hp01
  have k0 := cell_of_row _ _ 0 _ _ _ hx
  have k1 := cell_of_row _ _ 1 _ _ _ hx
  have k2 := cell_of_row _ _ 2 _ _ _ hx
  go_wp2_with fail
  refine (right_c _ _ _ _ g set s hg hs ht).mono ?_
  rintro e w4 ⟨rfl, hb3⟩
  replace hx := (hb3.block _ (Array.getElem?_eq_some_iff.1 hx).1).trans hx
  replace hg := hg.below hb3
  replace hs := hs.below hb3
  replace ht := ht.below hb3
  replace hb := hb.trans (hb3.mono hb.size)
  clear k0 k1 k2 hb3
  cases hr : rightB g set s
  · go_wp2_with fail
    go_ret
    exact HE.out _ hb
  have k0 := cell_of_row _ _ 0 _ _ _ hx
  have k1 := cell_of_row _ _ 1 _ _ _ hx
  have k2 := cell_of_row _ _ 2 _ _ _ hx
  go_wp2_with fail
  refine (StValid_c _ _ _ _ g p set s hg hs ht).mono ?_
  rintro e w5 ⟨rfl, hb3⟩
  replace hx := (hb3.block _ (Array.getElem?_eq_some_iff.1 hx).1).trans hx
  replace hg := hg.below hb3
  replace hs := hs.below hb3
  replace ht := ht.below hb3
  replace hb := hb.trans (hb3.mono hb.size)
  clear k0 k1 k2 hb3
  cases hst : stB g p set s
  · go_wp2_with fail
    go_ret
    exact HE.out _ hb
  have k0 := cell_of_row _ _ 0 _ _ _ hx
  have k1 := cell_of_row _ _ 1 _ _ _ hx
  have k2 := cell_of_row _ _ 2 _ _ _ hx
  simp only [rightB, Bool.and_eq_true, decide_eq_true_eq] at hr
  obtain ⟨⟨⟨hsm, hv⟩, hl1⟩, hl2⟩ := hr
  have HR := Lib.hid (small_rows hsm)
  have HV := Lib.hid hv
  have hn3 : n ≤ 3000 := by have := (valid_lens hv).1; omega
  have hwp : IntKind.i64.wrap (1 - p) = 1 - p := by rcases HP1.out with e | e <;> rw [e] <;> rfl
  have HN : Hid (g.owner.length = n) := (by omega : g.owner.length = n)
  have HRP := Lib.hid (ref_plain hst)
  have HPS : Hid (∀ m x, x < n → set.getD x false = true → (plyR g p s (strR g (1 - p) m) x).stem.length + (plyR g p s (strR g (1 - p) m) x).loop.length ≤ 90000) := fun m x h1 h2 => ply_small hst m (by rw [HN.out]; exact h1) h2
  clear hsm hv hl1 hl2 hst hn0 hn1 hn2 hn
  have HCT0 := Lib.hid (fun (W : World) (h : IsGame W (.agg #[.slice a0 n0 c0, .slice a1 n1 c1, .slice a2 n2 c2]) g) => count_c W _ g (1 - p) 200 h HV.out HR.out (by decide) (by decide))
  obtain ⟨c, hc⟩ : ∃ c, countR g (1 - p) 200 = c := ⟨_, rfl⟩
  have HCT : Hid (∀ W, IsGame W (.agg #[.slice a0 n0 c0, .slice a1 n1 c1, .slice a2 n2 c2]) g → Calls Try.prog 24 #[.agg #[.slice a0 n0 c0, .slice a1 n1 c1, .slice a2 n2 c2], .int .i64 (1 - p), .int .i64 200] W (Calm (.int .i64 (c : Int)) W)) := fun W h => by
    have k := HCT0.out W h
    rw [hc] at k
    exact k
  rw [hc] at HRP
  clear HCT0 hc
  go_wp2_with fail
  refine (HCT.out _ hg).mono ?_
  rintro e w6 ⟨rfl, hb3⟩
  replace hx := (hb3.block _ (Array.getElem?_eq_some_iff.1 hx).1).trans hx
  replace hg := hg.below hb3
  replace hs := hs.below hb3
  replace ht := ht.below hb3
  replace hb := hb.trans (hb3.mono hb.size)
  clear k0 k1 k2 hb3
  by_cases hc2 : c ≤ 200
  case neg =>
    have hgt : decide ((c : Int) > 200) = true := decide_eq_true (by omega)
    go_wp2_with fail
    go_ret
    exact HE.out _ hb
  have hgt : decide ((c : Int) > 200) = false := decide_eq_false (by omega)
  have HRQ : Hid (winB g p set s = !refK g p set s c) := HRP.out hc2
  go_upto_region 5 with (fail)
  clear hgt
  have HG6 := Lib.hid hg
  have HT6 := Lib.hid ht
  have HS6 := Lib.hid hs
  have HX6 := Lib.hid hx
  have HBT := Lib.hid hb
  obtain ⟨bS, oS, hdS, mS, ddS⟩ := hs.data
  have HDD := Lib.hid ddS
  clear hg ht hs hx hb ddS HRP
  go_wp2_with fail
  go_loopg [11, 12] c (fun gh r i wr => ∃ (k : Nat) (rf : Bool), gh = c - k ∧ r = .bool rf ∧ i = .int .i64 k ∧ k ≤ c ∧ Hid (rf = refK g p set s k) ∧ Below w6.heap.size w6 wr)
  case atStart => exact ⟨0, false, rfl, rfl, rfl, by omega, by show _ = _; rfl, Below.refl _ _⟩
  case round =>
    obtain ⟨k, rf, hgk, rfl, rfl, hk, HRF, hB⟩ := hrel
    have HG := Lib.hid hgk
    have HB := Lib.hid hB
    clear hgk hB
    have hx := (HB.out.block _ (Array.getElem?_eq_some_iff.1 HX6.out).1).trans HX6.out
    have hg := HG6.out.below HB.out
    have k0 := cell_of_row _ _ 0 _ _ _ hx
    have k1 := cell_of_row _ _ 1 _ _ _ hx
    have k2 := cell_of_row _ _ 2 _ _ _ hx
    go_wp2_with fail
    refine (HCT.out _ hg).mono ?_
    rintro e w7 ⟨rfl, hb3⟩
    replace hx := (hb3.block _ (Array.getElem?_eq_some_iff.1 hx).1).trans hx
    replace hg := hg.below hb3
    have HB7 := Lib.hid (HB.out.trans (hb3.mono HB.out.size))
    clear k0 k1 k2 hb3 HB
    by_cases hlt : k < c
    · have hN : decide ((k : Int) < c) = true := decide_eq_true (by omega)
      have hN' : decide (k < c) = true := decide_eq_true hlt
      cases rf
      case true =>
        have k0 := cell_of_row _ _ 0 _ _ _ hx
        have k1 := cell_of_row _ _ 1 _ _ _ hx
        have k2 := cell_of_row _ _ 2 _ _ _ hx
        go_wp2_with fail
        refine (Wins_c _ _ _ _ g p set s hg (HS6.out.below HB7.out) (HT6.out.below HB7.out)).mono ?_
        rintro e w9 ⟨rfl, hb3⟩
        have HBE := Lib.hid (HBT.out.trans ((HB7.out.trans (hb3.mono HB7.out.size)).mono HBT.out.size))
        rw [show winB g p set s = false from by rw [HRQ.out, show refK g p set s c = true from anyK_mono _ hk HRF.out.symm]; rfl]
        go_wp2_with fail
        go_ret
        exact HE.out _ HBE.out
      case false =>
        have k0 := cell_of_row _ _ 0 _ _ _ hx
        have k1 := cell_of_row _ _ 1 _ _ _ hx
        have k2 := cell_of_row _ _ 2 _ _ _ hx
        go_wp2_with fail
        refine (strategyOf_c _ _ g (1 - p) k hg HV.out HR.out (by omega)).mono ?_
        rintro e w8 ⟨vO, rfl, hO, hb3⟩
        have HB8 := Lib.hid (HB7.out.trans (hb3.mono HB7.out.size))
        clear k0 k1 k2 hb3 HB7 hx hg
        have HO8 := Lib.hid hO
        clear hO
        go_wp2_with fail
        go_loopg [11, 14] n (fun gh r i wx => ∃ (j : Nat) (rj : Bool), gh = n - j ∧ r = .bool rj ∧ i = .int .i64 j ∧ j ≤ n ∧ Hid (rj = (List.range j).any (refI g p set s k)) ∧ Below w8.heap.size w8 wx)
        case atStart => exact ⟨0, false, rfl, rfl, rfl, by omega, by show _ = _; rfl, Below.refl _ _⟩
        case round =>
          obtain ⟨j, rj, hgj, rfl, rfl, hj, HRJ, hB9⟩ := hrel
          have HGJ := Lib.hid hgj
          have HB9 := Lib.hid hB9
          clear hgj hB9
          by_cases hltj : j < n
          · have hNj : decide ((j : Int) < n) = true := decide_eq_true (by omega)
            obtain rfl := hdS (by omega)
            have hi0 : (0 : Int) ≤ j := by omega
            have hi1 : (j : Int) < n := by omega
            have HST := Lib.hid (anyK_succ (refI g p set s k) j)
            have HBA := Lib.hid (HB8.out.trans (HB9.out.mono HB8.out.size))
            go_wp2_with fail
            have HB1 : Hid (∀ W, Below wr.drew.heap.size wr.drew W → Below w8.heap.size w8 W) := fun W h => HB9.out.trans (((Below.drew (B := wr.heap.size) (Below.refl _ _)).trans h).mono HB9.out.size)
            have HB2 : Hid (∀ W, Below w8.heap.size w8 W → Below w6.heap.size w6 W) := fun W h => HB8.out.trans (h.mono HB8.out.size)
            have HGC : Hid (∀ W, Below wr.drew.heap.size wr.drew W → W.cell? ⟨zg, 0, none⟩ = some (.slice a0 n0 c0) ∧ W.cell? ⟨zg, 1, none⟩ = some (.slice a1 n1 c1) ∧ W.cell? ⟨zg, 2, none⟩ = some (.slice a2 n2 c2)) := fun W h => by
              have k := ((HB2.out W (HB1.out W h)).block _ (Array.getElem?_eq_some_iff.1 HX6.out).1).trans HX6.out
              exact ⟨cell_of_row _ _ 0 _ _ _ k, cell_of_row _ _ 1 _ _ _ k, cell_of_row _ _ 2 _ _ _ k⟩
            have HDJ : Hid (∀ W, Below wr.drew.heap.size wr.drew W → W.cell? ⟨bS, oS + j, none⟩ = some (.bool (set.getD j false))) := fun W h => cellB (HB2.out W (HB1.out W h)) (HDD.out j hltj)
            obtain ⟨R, hR⟩ : ∃ R, plyR g p s (strR g (1 - p) k) j = R := ⟨_, rfl⟩
            obtain ⟨wn, hwr⟩ : ∃ z, winrB g R = z := ⟨_, rfl⟩
            obtain ⟨eq, heq⟩ : ∃ b, (wn == 1 - p) = b := ⟨_, rfl⟩
            have HPL : Hid (∀ W, Below w8.heap.size w8 W → Calls Try.prog 22 #[.agg #[.slice a0 n0 c0, .slice a1 n1 c1, .slice a2 n2 c2], .int .i64 p, vT, vO, .int .i64 (j : Int)] W (NewPath R W)) := fun W h => by
              have k := play_c W _ _ _ g p s (strR g (1 - p) k) (j : Int) (HG6.out.below (HB2.out W h)) (HT6.out.below (HB2.out W h)) (HO8.out.below h)
              rwa [hR] at k
            have HPS2 : Hid (set.getD j false = true → R.stem.length + R.loop.length ≤ 90000) := fun h => by
              have k := HPS.out k j hltj h
              rwa [hR] at k
            have HWQ : Hid (set.getD j false = true → ∀ W u, Below w8.heap.size w8 W → IsPath W u R → Calls Try.prog 18 #[.agg #[.slice a0 n0 c0, .slice a1 n1 c1, .slice a2 n2 c2], u] W (Calm (.int .i64 wn) W)) := fun hq W u h hu => by
              have k := Winner_c W _ _ g R (HG6.out.below (HB2.out W h)) hu (HPS2.out hq)
              rwa [hwr] at k
            have HIJ : Hid (refI g p set s k j = (set.getD j false && eq)) := (by unfold refI; rw [hR, hwr, heq] : refI g p set s k j = (set.getD j false && eq))
            clear hR hwr HPS2
            cases hq : set.getD j false
            all_goals
              rw [hq] at HDJ HIJ HWQ
              clear hq
            · have HDS := HDJ
              cases rj
              · refine region_stable0 hmx (RFff p wn R eq false false vT vO a0 a1 a2 n0 n1 n2 c0 c1 c2 j n bS oS cS) (fun vs => { tmps := (_ :: _ :: _ :: _ :: _ :: _ :: _ :: _ :: _ :: _ :: _ :: vs 20 :: _ :: _ :: _ :: _ :: _ :: _ :: _ :: _ :: _ :: _ :: _ :: _ :: _ :: _ :: _ :: _ :: _ :: _ :: _ :: _ :: _ :: _ :: _ :: _ :: _ :: _ :: _ :: _ :: _ :: _ :: _ :: _ :: _ :: _ :: _ :: _ :: _ :: _ :: _ :: _ :: _ :: _ :: _ :: _ :: _ :: _ :: _ :: _ :: _ :: _ :: vs 0 :: vs 1 :: vs 2 :: vs 3 :: vs 4 :: vs 5 :: vs 6 :: vs 7 :: vs 8 :: vs 9 :: vs 10 :: vs 11 :: vs 12 :: vs 13 :: vs 14 :: vs 15 :: vs 16 :: vs 17 :: vs 18 :: vs 19 :: _ :: _ :: _ :: _ :: _ :: _ :: _ :: _ :: _ :: _ :: _ :: []).toArray, defers := _ }) (fun n => [u62, u63, u64, u65, u66, u67, u68, u69, u70, u71, u72, u73, u74, u75, u76, u77, u78, u79, u80, u81, .bool false].getD n undef) rfl (by kernel_rfl) (fun _ _ _ _ h _ => h) ?step ?fin
                case step =>
                  intro ix o ho
                  match ix, ho with
                  | 0, ho =>
                    obtain rfl := Option.some.inj ho
                    intro vs W K hB hD hU hK
                    have HK := Lib.hid hK
                    have u20x : vs 20 = .bool false := hU 20 (by rfl)
                    clear hK hD hU ho
                    dsimp only
                    go_simp
                    have h := HK.out _ _ (Below.refl _ _) rfl
                    simp only [upd, Nat.reduceEqDiff, reduceIte, u20x] at h
                    exact h
                  | 1, ho =>
                    obtain rfl := Option.some.inj ho
                    intro vs W K hB hD hU hK
                    have HK := Lib.hid hK
                    have e0 : vs 0 = .bool false := dep_of hD 0 (by rfl)
                    clear hK hD hU ho
                    dsimp only
                    go_simp
                    have h := HK.out _ _ (Below.refl _ _) rfl
                    simp only [upd, Nat.reduceEqDiff, reduceIte, e0] at h
                    exact h
                  | 2, ho =>
                    obtain rfl := Option.some.inj ho
                    intro vs W K hB hD hU hK
                    have HK := Lib.hid hK
                    have e1 : vs 1 = .bool false := dep_of hD 1 (by rfl)
                    clear hK hD hU ho
                    dsimp only
                    go_simp
                    have h := HK.out _ _ (Below.refl _ _) rfl
                    simp only [upd, Nat.reduceEqDiff, reduceIte, e1] at h
                    exact h
                  | 3, ho =>
                    obtain rfl := Option.some.inj ho
                    intro vs W K hB hD hU hK
                    have HK := Lib.hid hK
                    have e1 : vs 1 = .bool false := dep_of hD 1 (by rfl)
                    clear hK hD hU ho
                    dsimp only
                    go_simp
                    have h := HK.out _ _ (Below.refl _ _) rfl
                    simp only [upd, Nat.reduceEqDiff, reduceIte, e1] at h
                    exact h
                  | 4, ho =>
                    obtain rfl := Option.some.inj ho
                    intro vs W K hB hD hU hK
                    have HK := Lib.hid hK
                    have e1 : vs 1 = .bool false := dep_of hD 1 (by rfl)
                    have e2 : vs 2 = .slice (some ⟨bS, oS, none⟩) n cS := dep_of hD 2 (by rfl)
                    have e3 : vs 3 = .int .i64 (j : Int) := dep_of hD 3 (by rfl)
                    clear hK hD hU ho
                    dsimp only
                    go_simp
                    have h := HK.out _ _ (Below.refl _ _) rfl
                    simp only [upd, Nat.reduceEqDiff, reduceIte, e1, e2, e3] at h
                    exact h
                  | 5, ho =>
                    obtain rfl := Option.some.inj ho
                    intro vs W K hB hD hU hK
                    have HK := Lib.hid hK
                    have e1 : vs 1 = .bool false := dep_of hD 1 (by rfl)
                    have e4 : vs 4 = .pointer (some ⟨bS, oS + j, none⟩) := dep_of hD 4 (by rfl)
                    have d0 := HDS.out W hB
                    clear hK hD hU ho
                    dsimp only
                    go_simp
                    have h := HK.out _ _ (Below.refl _ _) rfl
                    simp only [upd, Nat.reduceEqDiff, reduceIte, e1, e4] at h
                    exact h
                  | 6, ho =>
                    obtain rfl := Option.some.inj ho
                    intro vs W K hB hD hU hK
                    have HK := Lib.hid hK
                    have e1 : vs 1 = .bool false := dep_of hD 1 (by rfl)
                    have e5 : vs 5 = .bool false := dep_of hD 5 (by rfl)
                    clear hK hD hU ho
                    dsimp only
                    go_simp
                    have h := HK.out _ _ (Below.refl _ _) rfl
                    simp only [upd, Nat.reduceEqDiff, reduceIte, e1, e5] at h
                    exact h
                  | 7, ho =>
                    obtain rfl := Option.some.inj ho
                    intro vs W K hB hD hU hK
                    have HK := Lib.hid hK
                    have e6 : vs 6 = .bool false := dep_of hD 6 (by rfl)
                    clear hK hD hU ho
                    dsimp only
                    go_simp
                    have h := HK.out _ _ (Below.refl _ _) rfl
                    simp only [upd, Nat.reduceEqDiff, reduceIte, e6] at h
                    exact h
                  | 8, ho =>
                    obtain rfl := Option.some.inj ho
                    intro vs W K hB hD hU hK
                    have HK := Lib.hid hK
                    have e6 : vs 6 = .bool false := dep_of hD 6 (by rfl)
                    clear hK hD hU ho
                    dsimp only
                    go_simp
                    have h := HK.out _ _ (Below.refl _ _) rfl
                    simp only [upd, Nat.reduceEqDiff, reduceIte, e6] at h
                    exact h
                  | 9, ho =>
                    obtain rfl := Option.some.inj ho
                    intro vs W K hB hD hU hK
                    have HK := Lib.hid hK
                    have e6 : vs 6 = .bool false := dep_of hD 6 (by rfl)
                    clear hK hD hU ho
                    dsimp only
                    go_simp
                    have h := HK.out _ _ (Below.refl _ _) rfl
                    simp only [upd, Nat.reduceEqDiff, reduceIte, e6] at h
                    exact h
                  | 10, ho =>
                    obtain rfl := Option.some.inj ho
                    intro vs W K hB hD hU hK
                    have HK := Lib.hid hK
                    have e6 : vs 6 = .bool false := dep_of hD 6 (by rfl)
                    clear hK hD hU ho
                    dsimp only
                    go_simp
                    have h := HK.out _ _ (Below.refl _ _) rfl
                    simp only [upd, Nat.reduceEqDiff, reduceIte, e6] at h
                    exact h
                  | 11, ho =>
                    obtain rfl := Option.some.inj ho
                    intro vs W K hB hD hU hK
                    have HK := Lib.hid hK
                    have e6 : vs 6 = .bool false := dep_of hD 6 (by rfl)
                    clear hK hD hU ho
                    dsimp only
                    go_simp
                    have h := HK.out _ _ (Below.refl _ _) rfl
                    simp only [upd, Nat.reduceEqDiff, reduceIte, e6] at h
                    exact h
                  | 12, ho =>
                    obtain rfl := Option.some.inj ho
                    intro vs W K hB hD hU hK
                    have HK := Lib.hid hK
                    have e6 : vs 6 = .bool false := dep_of hD 6 (by rfl)
                    clear hK hD hU ho
                    dsimp only
                    go_simp
                    have h := HK.out _ _ (Below.refl _ _) rfl
                    simp only [upd, Nat.reduceEqDiff, reduceIte, e6] at h
                    exact h
                  | 13, ho =>
                    obtain rfl := Option.some.inj ho
                    intro vs W K hB hD hU hK
                    have HK := Lib.hid hK
                    have e6 : vs 6 = .bool false := dep_of hD 6 (by rfl)
                    clear hK hD hU ho
                    dsimp only
                    go_simp
                    have h := HK.out _ _ (Below.refl _ _) rfl
                    simp only [upd, Nat.reduceEqDiff, reduceIte, e6] at h
                    exact h
                  | 14, ho =>
                    obtain rfl := Option.some.inj ho
                    intro vs W K hB hD hU hK
                    have HK := Lib.hid hK
                    have e6 : vs 6 = .bool false := dep_of hD 6 (by rfl)
                    clear hK hD hU ho
                    dsimp only
                    go_simp
                    have h := HK.out _ _ (Below.refl _ _) rfl
                    simp only [upd, Nat.reduceEqDiff, reduceIte, e6] at h
                    exact h
                  | 15, ho =>
                    obtain rfl := Option.some.inj ho
                    intro vs W K hB hD hU hK
                    have HK := Lib.hid hK
                    have e6 : vs 6 = .bool false := dep_of hD 6 (by rfl)
                    clear hK hD hU ho
                    dsimp only
                    go_simp
                    have h := HK.out _ _ (Below.refl _ _) rfl
                    simp only [upd, Nat.reduceEqDiff, reduceIte, e6] at h
                    exact h
                  | 16, ho =>
                    obtain rfl := Option.some.inj ho
                    intro vs W K hB hD hU hK
                    have HK := Lib.hid hK
                    have e6 : vs 6 = .bool false := dep_of hD 6 (by rfl)
                    clear hK hD hU ho
                    dsimp only
                    go_simp
                    have h := HK.out _ _ (Below.refl _ _) rfl
                    simp only [upd, Nat.reduceEqDiff, reduceIte, e6] at h
                    exact h
                  | 17, ho =>
                    obtain rfl := Option.some.inj ho
                    intro vs W K hB hD hU hK
                    have HK := Lib.hid hK
                    have e6 : vs 6 = .bool false := dep_of hD 6 (by rfl)
                    clear hK hD hU ho
                    dsimp only
                    go_simp
                    have h := HK.out _ _ (Below.refl _ _) rfl
                    simp only [upd, Nat.reduceEqDiff, reduceIte, e6] at h
                    exact h
                  | 18, ho =>
                    obtain rfl := Option.some.inj ho
                    intro vs W K hB hD hU hK
                    have HK := Lib.hid hK
                    have e1 : vs 1 = .bool false := dep_of hD 1 (by rfl)
                    have e6 : vs 6 = .bool false := dep_of hD 6 (by rfl)
                    clear hK hD hU ho
                    dsimp only
                    go_simp
                    have h := HK.out _ _ (Below.refl _ _) rfl
                    simp only [upd, Nat.reduceEqDiff, reduceIte, e1, e6] at h
                    exact h
                  | 19, ho =>
                    obtain rfl := Option.some.inj ho
                    intro vs W K hB hD hU hK
                    have HK := Lib.hid hK
                    have e1 : vs 1 = .bool false := dep_of hD 1 (by rfl)
                    have e18 : vs 18 = .bool false := dep_of hD 18 (by rfl)
                    clear hK hD hU ho
                    dsimp only
                    go_simp
                    have h := HK.out _ _ (Below.refl _ _) rfl
                    simp only [upd, Nat.reduceEqDiff, reduceIte, e1, e18] at h
                    exact h
                  | 20, ho =>
                    obtain rfl := Option.some.inj ho
                    intro vs W K hB hD hU hK
                    have HK := Lib.hid hK
                    have e19 : vs 19 = .bool false := dep_of hD 19 (by rfl)
                    clear hK hD hU ho
                    dsimp only
                    go_simp
                    have h := HK.out _ _ (Below.refl _ _) rfl
                    simp only [upd, Nat.reduceEqDiff, reduceIte, e19] at h
                    exact h
                  | q + 21, ho => exact absurd ho (by simp)
                case fin =>
                  intro vs W hB hall
                  have el : vs 20 = .bool false := hall 20 (by decide)
                  have HBW := Lib.hid (HB1.out W hB)
                  clear hall hB
                  rw [el]
                  generalize vs 0 = t0
                  generalize vs 1 = t1
                  generalize vs 2 = t2
                  generalize vs 3 = t3
                  generalize vs 4 = t4
                  generalize vs 5 = t5
                  generalize vs 6 = t6
                  generalize vs 7 = t7
                  generalize vs 8 = t8
                  generalize vs 9 = t9
                  generalize vs 10 = t10
                  generalize vs 11 = t11
                  generalize vs 12 = t12
                  generalize vs 13 = t13
                  generalize vs 14 = t14
                  generalize vs 15 = t15
                  generalize vs 16 = t16
                  generalize vs 17 = t17
                  generalize vs 18 = t18
                  generalize vs 19 = t19
                  clear vs el
                  go_wp2_with fail
                  go_roundg (n - (j + 1))
                  case measure => have := HGJ.out; omega
                  case rel => exact ⟨j + 1, _, rfl, rfl, by go_num, by omega, by show _ = _; rw [HST.out, ← HRJ.out, HIJ.out]; rfl, HBW.out⟩
              · refine region_stable0 hmx (RFt p wn R eq true false vT vO a0 a1 a2 n0 n1 n2 c0 c1 c2 j n bS oS cS) (fun vs => { tmps := (_ :: _ :: _ :: _ :: _ :: _ :: _ :: _ :: _ :: _ :: _ :: vs 20 :: _ :: _ :: _ :: _ :: _ :: _ :: _ :: _ :: _ :: _ :: _ :: _ :: _ :: _ :: _ :: _ :: _ :: _ :: _ :: _ :: _ :: _ :: _ :: _ :: _ :: _ :: _ :: _ :: _ :: _ :: _ :: _ :: _ :: _ :: _ :: _ :: _ :: _ :: _ :: _ :: _ :: _ :: _ :: _ :: _ :: _ :: _ :: _ :: _ :: _ :: vs 0 :: vs 1 :: vs 2 :: vs 3 :: vs 4 :: vs 5 :: vs 6 :: vs 7 :: vs 8 :: vs 9 :: vs 10 :: vs 11 :: vs 12 :: vs 13 :: vs 14 :: vs 15 :: vs 16 :: vs 17 :: vs 18 :: vs 19 :: _ :: _ :: _ :: _ :: _ :: _ :: _ :: _ :: _ :: _ :: _ :: []).toArray, defers := _ }) (fun n => [u62, u63, u64, u65, u66, u67, u68, u69, u70, u71, u72, u73, u74, u75, u76, u77, u78, u79, u80, u81, .bool true].getD n undef) rfl (by kernel_rfl) (fun _ _ _ _ h _ => h) ?step ?fin
                case step =>
                  intro ix o ho
                  match ix, ho with
                  | 0, ho =>
                    obtain rfl := Option.some.inj ho
                    intro vs W K hB hD hU hK
                    have HK := Lib.hid hK
                    have u20x : vs 20 = .bool true := hU 20 (by rfl)
                    clear hK hD hU ho
                    dsimp only
                    go_simp
                    have h := HK.out _ _ (Below.refl _ _) rfl
                    simp only [upd, Nat.reduceEqDiff, reduceIte, u20x] at h
                    exact h
                  | 1, ho =>
                    obtain rfl := Option.some.inj ho
                    intro vs W K hB hD hU hK
                    have HK := Lib.hid hK
                    have e0 : vs 0 = .bool true := dep_of hD 0 (by rfl)
                    clear hK hD hU ho
                    dsimp only
                    go_simp
                    have h := HK.out _ _ (Below.refl _ _) rfl
                    simp only [upd, Nat.reduceEqDiff, reduceIte, e0] at h
                    exact h
                  | 2, ho =>
                    obtain rfl := Option.some.inj ho
                    intro vs W K hB hD hU hK
                    have HK := Lib.hid hK
                    have e1 : vs 1 = .bool true := dep_of hD 1 (by rfl)
                    clear hK hD hU ho
                    dsimp only
                    go_simp
                    have h := HK.out _ _ (Below.refl _ _) rfl
                    simp only [upd, Nat.reduceEqDiff, reduceIte, e1] at h
                    exact h
                  | 3, ho =>
                    obtain rfl := Option.some.inj ho
                    intro vs W K hB hD hU hK
                    have HK := Lib.hid hK
                    have e1 : vs 1 = .bool true := dep_of hD 1 (by rfl)
                    clear hK hD hU ho
                    dsimp only
                    go_simp
                    have h := HK.out _ _ (Below.refl _ _) rfl
                    simp only [upd, Nat.reduceEqDiff, reduceIte, e1] at h
                    exact h
                  | 4, ho =>
                    obtain rfl := Option.some.inj ho
                    intro vs W K hB hD hU hK
                    have HK := Lib.hid hK
                    have e1 : vs 1 = .bool true := dep_of hD 1 (by rfl)
                    clear hK hD hU ho
                    dsimp only
                    go_simp
                    have h := HK.out _ _ (Below.refl _ _) rfl
                    simp only [upd, Nat.reduceEqDiff, reduceIte, e1] at h
                    exact h
                  | 5, ho =>
                    obtain rfl := Option.some.inj ho
                    intro vs W K hB hD hU hK
                    have HK := Lib.hid hK
                    have e1 : vs 1 = .bool true := dep_of hD 1 (by rfl)
                    clear hK hD hU ho
                    dsimp only
                    go_simp
                    have h := HK.out _ _ (Below.refl _ _) rfl
                    simp only [upd, Nat.reduceEqDiff, reduceIte, e1] at h
                    exact h
                  | 6, ho =>
                    obtain rfl := Option.some.inj ho
                    intro vs W K hB hD hU hK
                    have HK := Lib.hid hK
                    have e1 : vs 1 = .bool true := dep_of hD 1 (by rfl)
                    clear hK hD hU ho
                    dsimp only
                    go_simp
                    have h := HK.out _ _ (Below.refl _ _) rfl
                    simp only [upd, Nat.reduceEqDiff, reduceIte, e1] at h
                    exact h
                  | 7, ho =>
                    obtain rfl := Option.some.inj ho
                    intro vs W K hB hD hU hK
                    have HK := Lib.hid hK
                    have e6 : vs 6 = undef := dep_of hD 6 (by rfl)
                    clear hK hD hU ho
                    dsimp only
                    go_simp
                    have h := HK.out _ _ (Below.refl _ _) rfl
                    simp only [upd, Nat.reduceEqDiff, reduceIte, e6] at h
                    exact h
                  | 8, ho =>
                    obtain rfl := Option.some.inj ho
                    intro vs W K hB hD hU hK
                    have HK := Lib.hid hK
                    have e6 : vs 6 = undef := dep_of hD 6 (by rfl)
                    clear hK hD hU ho
                    dsimp only
                    go_simp
                    have h := HK.out _ _ (Below.refl _ _) rfl
                    simp only [upd, Nat.reduceEqDiff, reduceIte, e6] at h
                    exact h
                  | 9, ho =>
                    obtain rfl := Option.some.inj ho
                    intro vs W K hB hD hU hK
                    have HK := Lib.hid hK
                    have e6 : vs 6 = undef := dep_of hD 6 (by rfl)
                    clear hK hD hU ho
                    dsimp only
                    go_simp
                    have h := HK.out _ _ (Below.refl _ _) rfl
                    simp only [upd, Nat.reduceEqDiff, reduceIte, e6] at h
                    exact h
                  | 10, ho =>
                    obtain rfl := Option.some.inj ho
                    intro vs W K hB hD hU hK
                    have HK := Lib.hid hK
                    have e6 : vs 6 = undef := dep_of hD 6 (by rfl)
                    clear hK hD hU ho
                    dsimp only
                    go_simp
                    have h := HK.out _ _ (Below.refl _ _) rfl
                    simp only [upd, Nat.reduceEqDiff, reduceIte, e6] at h
                    exact h
                  | 11, ho =>
                    obtain rfl := Option.some.inj ho
                    intro vs W K hB hD hU hK
                    have HK := Lib.hid hK
                    have e6 : vs 6 = undef := dep_of hD 6 (by rfl)
                    clear hK hD hU ho
                    dsimp only
                    go_simp
                    have h := HK.out _ _ (Below.refl _ _) rfl
                    simp only [upd, Nat.reduceEqDiff, reduceIte, e6] at h
                    exact h
                  | 12, ho =>
                    obtain rfl := Option.some.inj ho
                    intro vs W K hB hD hU hK
                    have HK := Lib.hid hK
                    have e6 : vs 6 = undef := dep_of hD 6 (by rfl)
                    clear hK hD hU ho
                    dsimp only
                    go_simp
                    have h := HK.out _ _ (Below.refl _ _) rfl
                    simp only [upd, Nat.reduceEqDiff, reduceIte, e6] at h
                    exact h
                  | 13, ho =>
                    obtain rfl := Option.some.inj ho
                    intro vs W K hB hD hU hK
                    have HK := Lib.hid hK
                    have e6 : vs 6 = undef := dep_of hD 6 (by rfl)
                    clear hK hD hU ho
                    dsimp only
                    go_simp
                    have h := HK.out _ _ (Below.refl _ _) rfl
                    simp only [upd, Nat.reduceEqDiff, reduceIte, e6] at h
                    exact h
                  | 14, ho =>
                    obtain rfl := Option.some.inj ho
                    intro vs W K hB hD hU hK
                    have HK := Lib.hid hK
                    have e6 : vs 6 = undef := dep_of hD 6 (by rfl)
                    clear hK hD hU ho
                    dsimp only
                    go_simp
                    have h := HK.out _ _ (Below.refl _ _) rfl
                    simp only [upd, Nat.reduceEqDiff, reduceIte, e6] at h
                    exact h
                  | 15, ho =>
                    obtain rfl := Option.some.inj ho
                    intro vs W K hB hD hU hK
                    have HK := Lib.hid hK
                    have e6 : vs 6 = undef := dep_of hD 6 (by rfl)
                    clear hK hD hU ho
                    dsimp only
                    go_simp
                    have h := HK.out _ _ (Below.refl _ _) rfl
                    simp only [upd, Nat.reduceEqDiff, reduceIte, e6] at h
                    exact h
                  | 16, ho =>
                    obtain rfl := Option.some.inj ho
                    intro vs W K hB hD hU hK
                    have HK := Lib.hid hK
                    have e6 : vs 6 = undef := dep_of hD 6 (by rfl)
                    clear hK hD hU ho
                    dsimp only
                    go_simp
                    have h := HK.out _ _ (Below.refl _ _) rfl
                    simp only [upd, Nat.reduceEqDiff, reduceIte, e6] at h
                    exact h
                  | 17, ho =>
                    obtain rfl := Option.some.inj ho
                    intro vs W K hB hD hU hK
                    have HK := Lib.hid hK
                    have e6 : vs 6 = undef := dep_of hD 6 (by rfl)
                    clear hK hD hU ho
                    dsimp only
                    go_simp
                    have h := HK.out _ _ (Below.refl _ _) rfl
                    simp only [upd, Nat.reduceEqDiff, reduceIte, e6] at h
                    exact h
                  | 18, ho =>
                    obtain rfl := Option.some.inj ho
                    intro vs W K hB hD hU hK
                    have HK := Lib.hid hK
                    have e1 : vs 1 = .bool true := dep_of hD 1 (by rfl)
                    clear hK hD hU ho
                    dsimp only
                    go_simp
                    have h := HK.out _ _ (Below.refl _ _) rfl
                    simp only [upd, Nat.reduceEqDiff, reduceIte, e1] at h
                    exact h
                  | 19, ho =>
                    obtain rfl := Option.some.inj ho
                    intro vs W K hB hD hU hK
                    have HK := Lib.hid hK
                    have e1 : vs 1 = .bool true := dep_of hD 1 (by rfl)
                    clear hK hD hU ho
                    dsimp only
                    go_simp
                    have h := HK.out _ _ (Below.refl _ _) rfl
                    simp only [upd, Nat.reduceEqDiff, reduceIte, e1] at h
                    exact h
                  | 20, ho =>
                    obtain rfl := Option.some.inj ho
                    intro vs W K hB hD hU hK
                    have HK := Lib.hid hK
                    have e19 : vs 19 = .bool true := dep_of hD 19 (by rfl)
                    clear hK hD hU ho
                    dsimp only
                    go_simp
                    have h := HK.out _ _ (Below.refl _ _) rfl
                    simp only [upd, Nat.reduceEqDiff, reduceIte, e19] at h
                    exact h
                  | q + 21, ho => exact absurd ho (by simp)
                case fin =>
                  intro vs W hB hall
                  have el : vs 20 = .bool true := hall 20 (by decide)
                  have HBW := Lib.hid (HB1.out W hB)
                  clear hall hB
                  rw [el]
                  generalize vs 0 = t0
                  generalize vs 1 = t1
                  generalize vs 2 = t2
                  generalize vs 3 = t3
                  generalize vs 4 = t4
                  generalize vs 5 = t5
                  generalize vs 6 = t6
                  generalize vs 7 = t7
                  generalize vs 8 = t8
                  generalize vs 9 = t9
                  generalize vs 10 = t10
                  generalize vs 11 = t11
                  generalize vs 12 = t12
                  generalize vs 13 = t13
                  generalize vs 14 = t14
                  generalize vs 15 = t15
                  generalize vs 16 = t16
                  generalize vs 17 = t17
                  generalize vs 18 = t18
                  generalize vs 19 = t19
                  clear vs el
                  go_wp2_with fail
                  go_roundg (n - (j + 1))
                  case measure => have := HGJ.out; omega
                  case rel => exact ⟨j + 1, _, rfl, rfl, by go_num, by omega, by show _ = _; rw [HST.out, ← HRJ.out]; rfl, HBW.out⟩
            · have HDS := HDJ
              have HWN := Lib.hid (HWQ.out rfl)
              cases rj
              · refine region_stable0 hmx (RFft p wn R eq false true vT vO a0 a1 a2 n0 n1 n2 c0 c1 c2 j n bS oS cS) (fun vs => { tmps := (_ :: _ :: _ :: _ :: _ :: _ :: _ :: _ :: _ :: _ :: _ :: vs 20 :: _ :: _ :: _ :: _ :: _ :: _ :: _ :: _ :: _ :: _ :: _ :: _ :: _ :: _ :: _ :: _ :: _ :: _ :: _ :: _ :: _ :: _ :: _ :: _ :: _ :: _ :: _ :: _ :: _ :: _ :: _ :: _ :: _ :: _ :: _ :: _ :: _ :: _ :: _ :: _ :: _ :: _ :: _ :: _ :: _ :: _ :: _ :: _ :: _ :: _ :: vs 0 :: vs 1 :: vs 2 :: vs 3 :: vs 4 :: vs 5 :: vs 6 :: vs 7 :: vs 8 :: vs 9 :: vs 10 :: vs 11 :: vs 12 :: vs 13 :: vs 14 :: vs 15 :: vs 16 :: vs 17 :: vs 18 :: vs 19 :: _ :: _ :: _ :: _ :: _ :: _ :: _ :: _ :: _ :: _ :: _ :: []).toArray, defers := _ }) (fun n => [u62, u63, u64, u65, u66, u67, u68, u69, u70, u71, u72, u73, u74, u75, u76, u77, u78, u79, u80, u81, .bool false].getD n undef) rfl (by kernel_rfl) (fun _ _ _ _ h hb => h.below hb) ?step ?fin
                case step =>
                  intro ix o ho
                  match ix, ho with
                  | 0, ho =>
                    obtain rfl := Option.some.inj ho
                    intro vs W K hB hD hU hK
                    have HK := Lib.hid hK
                    have u20x : vs 20 = .bool false := hU 20 (by rfl)
                    clear hK hD hU ho
                    dsimp only
                    go_simp
                    have h := HK.out _ _ (Below.refl _ _) rfl
                    simp only [upd, Nat.reduceEqDiff, reduceIte, u20x] at h
                    exact h
                  | 1, ho =>
                    obtain rfl := Option.some.inj ho
                    intro vs W K hB hD hU hK
                    have HK := Lib.hid hK
                    have e0 : vs 0 = .bool false := dep_of hD 0 (by rfl)
                    clear hK hD hU ho
                    dsimp only
                    go_simp
                    have h := HK.out _ _ (Below.refl _ _) rfl
                    simp only [upd, Nat.reduceEqDiff, reduceIte, e0] at h
                    exact h
                  | 2, ho =>
                    obtain rfl := Option.some.inj ho
                    intro vs W K hB hD hU hK
                    have HK := Lib.hid hK
                    have e1 : vs 1 = .bool false := dep_of hD 1 (by rfl)
                    clear hK hD hU ho
                    dsimp only
                    go_simp
                    have h := HK.out _ _ (Below.refl _ _) rfl
                    simp only [upd, Nat.reduceEqDiff, reduceIte, e1] at h
                    exact h
                  | 3, ho =>
                    obtain rfl := Option.some.inj ho
                    intro vs W K hB hD hU hK
                    have HK := Lib.hid hK
                    have e1 : vs 1 = .bool false := dep_of hD 1 (by rfl)
                    clear hK hD hU ho
                    dsimp only
                    go_simp
                    have h := HK.out _ _ (Below.refl _ _) rfl
                    simp only [upd, Nat.reduceEqDiff, reduceIte, e1] at h
                    exact h
                  | 4, ho =>
                    obtain rfl := Option.some.inj ho
                    intro vs W K hB hD hU hK
                    have HK := Lib.hid hK
                    have e1 : vs 1 = .bool false := dep_of hD 1 (by rfl)
                    have e2 : vs 2 = .slice (some ⟨bS, oS, none⟩) n cS := dep_of hD 2 (by rfl)
                    have e3 : vs 3 = .int .i64 (j : Int) := dep_of hD 3 (by rfl)
                    clear hK hD hU ho
                    dsimp only
                    go_simp
                    have h := HK.out _ _ (Below.refl _ _) rfl
                    simp only [upd, Nat.reduceEqDiff, reduceIte, e1, e2, e3] at h
                    exact h
                  | 5, ho =>
                    obtain rfl := Option.some.inj ho
                    intro vs W K hB hD hU hK
                    have HK := Lib.hid hK
                    have e1 : vs 1 = .bool false := dep_of hD 1 (by rfl)
                    have e4 : vs 4 = .pointer (some ⟨bS, oS + j, none⟩) := dep_of hD 4 (by rfl)
                    have d0 := HDS.out W hB
                    clear hK hD hU ho
                    dsimp only
                    go_simp
                    have h := HK.out _ _ (Below.refl _ _) rfl
                    simp only [upd, Nat.reduceEqDiff, reduceIte, e1, e4] at h
                    exact h
                  | 6, ho =>
                    obtain rfl := Option.some.inj ho
                    intro vs W K hB hD hU hK
                    have HK := Lib.hid hK
                    have e1 : vs 1 = .bool false := dep_of hD 1 (by rfl)
                    have e5 : vs 5 = .bool true := dep_of hD 5 (by rfl)
                    clear hK hD hU ho
                    dsimp only
                    go_simp
                    have h := HK.out _ _ (Below.refl _ _) rfl
                    simp only [upd, Nat.reduceEqDiff, reduceIte, e1, e5] at h
                    exact h
                  | 7, ho =>
                    obtain rfl := Option.some.inj ho
                    intro vs W K hB hD hU hK
                    have HK := Lib.hid hK
                    have e6 : vs 6 = .bool true := dep_of hD 6 (by rfl)
                    obtain ⟨d0, d1, d2⟩ := HGC.out W hB
                    clear hK hD hU ho
                    dsimp only
                    go_simp
                    have h := HK.out _ _ (Below.refl _ _) rfl
                    simp only [upd, Nat.reduceEqDiff, reduceIte, e6] at h
                    exact h
                  | 8, ho =>
                    obtain rfl := Option.some.inj ho
                    intro vs W K hB hD hU hK
                    have HK := Lib.hid hK
                    have e6 : vs 6 = .bool true := dep_of hD 6 (by rfl)
                    obtain ⟨d0, d1, d2⟩ := HGC.out W hB
                    clear hK hD hU ho
                    dsimp only
                    go_simp
                    have h := HK.out _ _ (Below.refl _ _) rfl
                    simp only [upd, Nat.reduceEqDiff, reduceIte, e6] at h
                    exact h
                  | 9, ho =>
                    obtain rfl := Option.some.inj ho
                    intro vs W K hB hD hU hK
                    have HK := Lib.hid hK
                    have e6 : vs 6 = .bool true := dep_of hD 6 (by rfl)
                    clear hK hD hU ho
                    dsimp only
                    go_simp
                    have h := HK.out _ _ (Below.refl _ _) rfl
                    simp only [upd, Nat.reduceEqDiff, reduceIte, e6] at h
                    exact h
                  | 10, ho =>
                    obtain rfl := Option.some.inj ho
                    intro vs W K hB hD hU hK
                    have HK := Lib.hid hK
                    have e6 : vs 6 = .bool true := dep_of hD 6 (by rfl)
                    clear hK hD hU ho
                    dsimp only
                    go_simp
                    have h := HK.out _ _ (Below.refl _ _) rfl
                    simp only [upd, Nat.reduceEqDiff, reduceIte, e6] at h
                    exact h
                  | 11, ho =>
                    obtain rfl := Option.some.inj ho
                    intro vs W K hB hD hU hK
                    have HK := Lib.hid hK
                    have e6 : vs 6 = .bool true := dep_of hD 6 (by rfl)
                    clear hK hD hU ho
                    dsimp only
                    go_simp
                    have h := HK.out _ _ (Below.refl _ _) rfl
                    simp only [upd, Nat.reduceEqDiff, reduceIte, e6] at h
                    exact h
                  | 12, ho =>
                    obtain rfl := Option.some.inj ho
                    intro vs W K hB hD hU hK
                    have HK := Lib.hid hK
                    have e6 : vs 6 = .bool true := dep_of hD 6 (by rfl)
                    clear hK hD hU ho
                    dsimp only
                    go_simp
                    have h := HK.out _ _ (Below.refl _ _) rfl
                    simp only [upd, Nat.reduceEqDiff, reduceIte, e6] at h
                    exact h
                  | 13, ho =>
                    obtain rfl := Option.some.inj ho
                    intro vs W K hB hD hU hK
                    have HK := Lib.hid hK
                    have e6 : vs 6 = .bool true := dep_of hD 6 (by rfl)
                    have e8 : vs 8 = .agg #[.slice a0 n0 c0, .slice a1 n1 c1, .slice a2 n2 c2] := dep_of hD 8 (by rfl)
                    have e9 : vs 9 = .int .i64 p := dep_of hD 9 (by rfl)
                    have e10 : vs 10 = vT := dep_of hD 10 (by rfl)
                    have e11 : vs 11 = vO := dep_of hD 11 (by rfl)
                    have e12 : vs 12 = .int .i64 (j : Int) := dep_of hD 12 (by rfl)
                    clear hK hD hU ho
                    dsimp only
                    go_simp
                    refine (HPL.out W (HB1.out W hB)).mono ?_
                    rintro e W' ⟨u', rfl, hu, hb⟩
                    have h := HK.out _ _ hb hu
                    simp only [upd, Nat.reduceEqDiff, reduceIte, e6, e8, e9, e10, e11, e12] at h
                    exact h
                  | 14, ho =>
                    obtain rfl := Option.some.inj ho
                    intro vs W K hB hD hU hK
                    have HK := Lib.hid hK
                    have e6 : vs 6 = .bool true := dep_of hD 6 (by rfl)
                    have e7 : vs 7 = .agg #[.slice a0 n0 c0, .slice a1 n1 c1, .slice a2 n2 c2] := dep_of hD 7 (by rfl)
                    have i13 := dep_of (R := RFft p wn R eq false true vT vO a0 a1 a2 n0 n1 n2 c0 c1 c2 j n bS oS cS) hD 13 (by rfl)
                    clear hK hD hU ho
                    dsimp only
                    go_simp
                    refine (HWN.out W (vs 13) (HB1.out W hB) i13).mono ?_
                    rintro e W' ⟨rfl, hb⟩
                    have h := HK.out _ _ hb rfl
                    simp only [upd, Nat.reduceEqDiff, reduceIte, e6, e7] at h
                    exact h
                  | 15, ho =>
                    obtain rfl := Option.some.inj ho
                    intro vs W K hB hD hU hK
                    have HK := Lib.hid hK
                    have e6 : vs 6 = .bool true := dep_of hD 6 (by rfl)
                    clear hK hD hU ho
                    dsimp only
                    go_simp
                    have h := HK.out _ _ (Below.refl _ _) rfl
                    simp only [upd, Nat.reduceEqDiff, reduceIte, e6] at h
                    exact h
                  | 16, ho =>
                    obtain rfl := Option.some.inj ho
                    intro vs W K hB hD hU hK
                    have HK := Lib.hid hK
                    have e6 : vs 6 = .bool true := dep_of hD 6 (by rfl)
                    have e15 : vs 15 = .int .i64 p := dep_of hD 15 (by rfl)
                    clear hK hD hU ho
                    dsimp only
                    go_simp
                    have h := HK.out _ _ (Below.refl _ _) rfl
                    simp only [upd, Nat.reduceEqDiff, reduceIte, e6, e15] at h
                    exact h
                  | 17, ho =>
                    obtain rfl := Option.some.inj ho
                    intro vs W K hB hD hU hK
                    have HK := Lib.hid hK
                    have e6 : vs 6 = .bool true := dep_of hD 6 (by rfl)
                    have e14 : vs 14 = .int .i64 wn := dep_of hD 14 (by rfl)
                    have e16 : vs 16 = .int .i64 (1 - p) := dep_of hD 16 (by rfl)
                    clear hK hD hU ho
                    dsimp only
                    go_simp
                    have h := HK.out _ _ (Below.refl _ _) rfl
                    simp only [upd, Nat.reduceEqDiff, reduceIte, e6, e14, e16] at h
                    exact h
                  | 18, ho =>
                    obtain rfl := Option.some.inj ho
                    intro vs W K hB hD hU hK
                    have HK := Lib.hid hK
                    have e1 : vs 1 = .bool false := dep_of hD 1 (by rfl)
                    have e6 : vs 6 = .bool true := dep_of hD 6 (by rfl)
                    have e17 : vs 17 = .bool eq := dep_of hD 17 (by rfl)
                    clear hK hD hU ho
                    dsimp only
                    go_simp
                    have h := HK.out _ _ (Below.refl _ _) rfl
                    simp only [upd, Nat.reduceEqDiff, reduceIte, e1, e6, e17] at h
                    exact h
                  | 19, ho =>
                    obtain rfl := Option.some.inj ho
                    intro vs W K hB hD hU hK
                    have HK := Lib.hid hK
                    have e1 : vs 1 = .bool false := dep_of hD 1 (by rfl)
                    have e18 : vs 18 = .bool eq := dep_of hD 18 (by rfl)
                    clear hK hD hU ho
                    dsimp only
                    go_simp
                    have h := HK.out _ _ (Below.refl _ _) rfl
                    simp only [upd, Nat.reduceEqDiff, reduceIte, e1, e18] at h
                    exact h
                  | 20, ho =>
                    obtain rfl := Option.some.inj ho
                    intro vs W K hB hD hU hK
                    have HK := Lib.hid hK
                    have e19 : vs 19 = .bool eq := dep_of hD 19 (by rfl)
                    clear hK hD hU ho
                    dsimp only
                    go_simp
                    have h := HK.out _ _ (Below.refl _ _) rfl
                    simp only [upd, Nat.reduceEqDiff, reduceIte, e19] at h
                    exact h
                  | q + 21, ho => exact absurd ho (by simp)
                case fin =>
                  intro vs W hB hall
                  have el : vs 20 = .bool eq := hall 20 (by decide)
                  have HBW := Lib.hid (HB1.out W hB)
                  clear hall hB
                  rw [el]
                  generalize vs 0 = t0
                  generalize vs 1 = t1
                  generalize vs 2 = t2
                  generalize vs 3 = t3
                  generalize vs 4 = t4
                  generalize vs 5 = t5
                  generalize vs 6 = t6
                  generalize vs 7 = t7
                  generalize vs 8 = t8
                  generalize vs 9 = t9
                  generalize vs 10 = t10
                  generalize vs 11 = t11
                  generalize vs 12 = t12
                  generalize vs 13 = t13
                  generalize vs 14 = t14
                  generalize vs 15 = t15
                  generalize vs 16 = t16
                  generalize vs 17 = t17
                  generalize vs 18 = t18
                  generalize vs 19 = t19
                  clear vs el
                  go_wp2_with fail
                  go_roundg (n - (j + 1))
                  case measure => have := HGJ.out; omega
                  case rel => exact ⟨j + 1, _, rfl, rfl, by go_num, by omega, by show _ = _; rw [HST.out, ← HRJ.out, HIJ.out]; rfl, HBW.out⟩
              · refine region_stable0 hmx (RFt p wn R eq true true vT vO a0 a1 a2 n0 n1 n2 c0 c1 c2 j n bS oS cS) (fun vs => { tmps := (_ :: _ :: _ :: _ :: _ :: _ :: _ :: _ :: _ :: _ :: _ :: vs 20 :: _ :: _ :: _ :: _ :: _ :: _ :: _ :: _ :: _ :: _ :: _ :: _ :: _ :: _ :: _ :: _ :: _ :: _ :: _ :: _ :: _ :: _ :: _ :: _ :: _ :: _ :: _ :: _ :: _ :: _ :: _ :: _ :: _ :: _ :: _ :: _ :: _ :: _ :: _ :: _ :: _ :: _ :: _ :: _ :: _ :: _ :: _ :: _ :: _ :: _ :: vs 0 :: vs 1 :: vs 2 :: vs 3 :: vs 4 :: vs 5 :: vs 6 :: vs 7 :: vs 8 :: vs 9 :: vs 10 :: vs 11 :: vs 12 :: vs 13 :: vs 14 :: vs 15 :: vs 16 :: vs 17 :: vs 18 :: vs 19 :: _ :: _ :: _ :: _ :: _ :: _ :: _ :: _ :: _ :: _ :: _ :: []).toArray, defers := _ }) (fun n => [u62, u63, u64, u65, u66, u67, u68, u69, u70, u71, u72, u73, u74, u75, u76, u77, u78, u79, u80, u81, .bool true].getD n undef) rfl (by kernel_rfl) (fun _ _ _ _ h _ => h) ?step ?fin
                case step =>
                  intro ix o ho
                  match ix, ho with
                  | 0, ho =>
                    obtain rfl := Option.some.inj ho
                    intro vs W K hB hD hU hK
                    have HK := Lib.hid hK
                    have u20x : vs 20 = .bool true := hU 20 (by rfl)
                    clear hK hD hU ho
                    dsimp only
                    go_simp
                    have h := HK.out _ _ (Below.refl _ _) rfl
                    simp only [upd, Nat.reduceEqDiff, reduceIte, u20x] at h
                    exact h
                  | 1, ho =>
                    obtain rfl := Option.some.inj ho
                    intro vs W K hB hD hU hK
                    have HK := Lib.hid hK
                    have e0 : vs 0 = .bool true := dep_of hD 0 (by rfl)
                    clear hK hD hU ho
                    dsimp only
                    go_simp
                    have h := HK.out _ _ (Below.refl _ _) rfl
                    simp only [upd, Nat.reduceEqDiff, reduceIte, e0] at h
                    exact h
                  | 2, ho =>
                    obtain rfl := Option.some.inj ho
                    intro vs W K hB hD hU hK
                    have HK := Lib.hid hK
                    have e1 : vs 1 = .bool true := dep_of hD 1 (by rfl)
                    clear hK hD hU ho
                    dsimp only
                    go_simp
                    have h := HK.out _ _ (Below.refl _ _) rfl
                    simp only [upd, Nat.reduceEqDiff, reduceIte, e1] at h
                    exact h
                  | 3, ho =>
                    obtain rfl := Option.some.inj ho
                    intro vs W K hB hD hU hK
                    have HK := Lib.hid hK
                    have e1 : vs 1 = .bool true := dep_of hD 1 (by rfl)
                    clear hK hD hU ho
                    dsimp only
                    go_simp
                    have h := HK.out _ _ (Below.refl _ _) rfl
                    simp only [upd, Nat.reduceEqDiff, reduceIte, e1] at h
                    exact h
                  | 4, ho =>
                    obtain rfl := Option.some.inj ho
                    intro vs W K hB hD hU hK
                    have HK := Lib.hid hK
                    have e1 : vs 1 = .bool true := dep_of hD 1 (by rfl)
                    clear hK hD hU ho
                    dsimp only
                    go_simp
                    have h := HK.out _ _ (Below.refl _ _) rfl
                    simp only [upd, Nat.reduceEqDiff, reduceIte, e1] at h
                    exact h
                  | 5, ho =>
                    obtain rfl := Option.some.inj ho
                    intro vs W K hB hD hU hK
                    have HK := Lib.hid hK
                    have e1 : vs 1 = .bool true := dep_of hD 1 (by rfl)
                    clear hK hD hU ho
                    dsimp only
                    go_simp
                    have h := HK.out _ _ (Below.refl _ _) rfl
                    simp only [upd, Nat.reduceEqDiff, reduceIte, e1] at h
                    exact h
                  | 6, ho =>
                    obtain rfl := Option.some.inj ho
                    intro vs W K hB hD hU hK
                    have HK := Lib.hid hK
                    have e1 : vs 1 = .bool true := dep_of hD 1 (by rfl)
                    clear hK hD hU ho
                    dsimp only
                    go_simp
                    have h := HK.out _ _ (Below.refl _ _) rfl
                    simp only [upd, Nat.reduceEqDiff, reduceIte, e1] at h
                    exact h
                  | 7, ho =>
                    obtain rfl := Option.some.inj ho
                    intro vs W K hB hD hU hK
                    have HK := Lib.hid hK
                    have e6 : vs 6 = undef := dep_of hD 6 (by rfl)
                    clear hK hD hU ho
                    dsimp only
                    go_simp
                    have h := HK.out _ _ (Below.refl _ _) rfl
                    simp only [upd, Nat.reduceEqDiff, reduceIte, e6] at h
                    exact h
                  | 8, ho =>
                    obtain rfl := Option.some.inj ho
                    intro vs W K hB hD hU hK
                    have HK := Lib.hid hK
                    have e6 : vs 6 = undef := dep_of hD 6 (by rfl)
                    clear hK hD hU ho
                    dsimp only
                    go_simp
                    have h := HK.out _ _ (Below.refl _ _) rfl
                    simp only [upd, Nat.reduceEqDiff, reduceIte, e6] at h
                    exact h
                  | 9, ho =>
                    obtain rfl := Option.some.inj ho
                    intro vs W K hB hD hU hK
                    have HK := Lib.hid hK
                    have e6 : vs 6 = undef := dep_of hD 6 (by rfl)
                    clear hK hD hU ho
                    dsimp only
                    go_simp
                    have h := HK.out _ _ (Below.refl _ _) rfl
                    simp only [upd, Nat.reduceEqDiff, reduceIte, e6] at h
                    exact h
                  | 10, ho =>
                    obtain rfl := Option.some.inj ho
                    intro vs W K hB hD hU hK
                    have HK := Lib.hid hK
                    have e6 : vs 6 = undef := dep_of hD 6 (by rfl)
                    clear hK hD hU ho
                    dsimp only
                    go_simp
                    have h := HK.out _ _ (Below.refl _ _) rfl
                    simp only [upd, Nat.reduceEqDiff, reduceIte, e6] at h
                    exact h
                  | 11, ho =>
                    obtain rfl := Option.some.inj ho
                    intro vs W K hB hD hU hK
                    have HK := Lib.hid hK
                    have e6 : vs 6 = undef := dep_of hD 6 (by rfl)
                    clear hK hD hU ho
                    dsimp only
                    go_simp
                    have h := HK.out _ _ (Below.refl _ _) rfl
                    simp only [upd, Nat.reduceEqDiff, reduceIte, e6] at h
                    exact h
                  | 12, ho =>
                    obtain rfl := Option.some.inj ho
                    intro vs W K hB hD hU hK
                    have HK := Lib.hid hK
                    have e6 : vs 6 = undef := dep_of hD 6 (by rfl)
                    clear hK hD hU ho
                    dsimp only
                    go_simp
                    have h := HK.out _ _ (Below.refl _ _) rfl
                    simp only [upd, Nat.reduceEqDiff, reduceIte, e6] at h
                    exact h
                  | 13, ho =>
                    obtain rfl := Option.some.inj ho
                    intro vs W K hB hD hU hK
                    have HK := Lib.hid hK
                    have e6 : vs 6 = undef := dep_of hD 6 (by rfl)
                    clear hK hD hU ho
                    dsimp only
                    go_simp
                    have h := HK.out _ _ (Below.refl _ _) rfl
                    simp only [upd, Nat.reduceEqDiff, reduceIte, e6] at h
                    exact h
                  | 14, ho =>
                    obtain rfl := Option.some.inj ho
                    intro vs W K hB hD hU hK
                    have HK := Lib.hid hK
                    have e6 : vs 6 = undef := dep_of hD 6 (by rfl)
                    clear hK hD hU ho
                    dsimp only
                    go_simp
                    have h := HK.out _ _ (Below.refl _ _) rfl
                    simp only [upd, Nat.reduceEqDiff, reduceIte, e6] at h
                    exact h
                  | 15, ho =>
                    obtain rfl := Option.some.inj ho
                    intro vs W K hB hD hU hK
                    have HK := Lib.hid hK
                    have e6 : vs 6 = undef := dep_of hD 6 (by rfl)
                    clear hK hD hU ho
                    dsimp only
                    go_simp
                    have h := HK.out _ _ (Below.refl _ _) rfl
                    simp only [upd, Nat.reduceEqDiff, reduceIte, e6] at h
                    exact h
                  | 16, ho =>
                    obtain rfl := Option.some.inj ho
                    intro vs W K hB hD hU hK
                    have HK := Lib.hid hK
                    have e6 : vs 6 = undef := dep_of hD 6 (by rfl)
                    clear hK hD hU ho
                    dsimp only
                    go_simp
                    have h := HK.out _ _ (Below.refl _ _) rfl
                    simp only [upd, Nat.reduceEqDiff, reduceIte, e6] at h
                    exact h
                  | 17, ho =>
                    obtain rfl := Option.some.inj ho
                    intro vs W K hB hD hU hK
                    have HK := Lib.hid hK
                    have e6 : vs 6 = undef := dep_of hD 6 (by rfl)
                    clear hK hD hU ho
                    dsimp only
                    go_simp
                    have h := HK.out _ _ (Below.refl _ _) rfl
                    simp only [upd, Nat.reduceEqDiff, reduceIte, e6] at h
                    exact h
                  | 18, ho =>
                    obtain rfl := Option.some.inj ho
                    intro vs W K hB hD hU hK
                    have HK := Lib.hid hK
                    have e1 : vs 1 = .bool true := dep_of hD 1 (by rfl)
                    clear hK hD hU ho
                    dsimp only
                    go_simp
                    have h := HK.out _ _ (Below.refl _ _) rfl
                    simp only [upd, Nat.reduceEqDiff, reduceIte, e1] at h
                    exact h
                  | 19, ho =>
                    obtain rfl := Option.some.inj ho
                    intro vs W K hB hD hU hK
                    have HK := Lib.hid hK
                    have e1 : vs 1 = .bool true := dep_of hD 1 (by rfl)
                    clear hK hD hU ho
                    dsimp only
                    go_simp
                    have h := HK.out _ _ (Below.refl _ _) rfl
                    simp only [upd, Nat.reduceEqDiff, reduceIte, e1] at h
                    exact h
                  | 20, ho =>
                    obtain rfl := Option.some.inj ho
                    intro vs W K hB hD hU hK
                    have HK := Lib.hid hK
                    have e19 : vs 19 = .bool true := dep_of hD 19 (by rfl)
                    clear hK hD hU ho
                    dsimp only
                    go_simp
                    have h := HK.out _ _ (Below.refl _ _) rfl
                    simp only [upd, Nat.reduceEqDiff, reduceIte, e19] at h
                    exact h
                  | q + 21, ho => exact absurd ho (by simp)
                case fin =>
                  intro vs W hB hall
                  have el : vs 20 = .bool true := hall 20 (by decide)
                  have HBW := Lib.hid (HB1.out W hB)
                  clear hall hB
                  rw [el]
                  generalize vs 0 = t0
                  generalize vs 1 = t1
                  generalize vs 2 = t2
                  generalize vs 3 = t3
                  generalize vs 4 = t4
                  generalize vs 5 = t5
                  generalize vs 6 = t6
                  generalize vs 7 = t7
                  generalize vs 8 = t8
                  generalize vs 9 = t9
                  generalize vs 10 = t10
                  generalize vs 11 = t11
                  generalize vs 12 = t12
                  generalize vs 13 = t13
                  generalize vs 14 = t14
                  generalize vs 15 = t15
                  generalize vs 16 = t16
                  generalize vs 17 = t17
                  generalize vs 18 = t18
                  generalize vs 19 = t19
                  clear vs el
                  go_wp2_with fail
                  go_roundg (n - (j + 1))
                  case measure => have := HGJ.out; omega
                  case rel => exact ⟨j + 1, _, rfl, rfl, by go_num, by omega, by show _ = _; rw [HST.out, ← HRJ.out]; rfl, HBW.out⟩
          · obtain rfl : j = n := by omega
            go_wp2_with fail
            go_roundg (c - (k + 1))
            case measure => have := HG.out; omega
            case rel =>
              refine ⟨k + 1, rj, rfl, rfl, by go_num, by omega, ?_, HB8.out.trans (HB9.out.mono HB8.out.size)⟩
              show rj = (List.range (k + 1)).any (refM g p set s)
              rw [anyK_succ, show (List.range k).any (refM g p set s) = false from HRF.out.symm, HRJ.out, Bool.false_or]
              unfold refM
              rw [HN.out]
    · obtain rfl : k = c := by omega
      have k0 := cell_of_row _ _ 0 _ _ _ hx
      have k1 := cell_of_row _ _ 1 _ _ _ hx
      have k2 := cell_of_row _ _ 2 _ _ _ hx
      go_wp2_with fail
      refine (Wins_c _ _ _ _ g p set s hg (HS6.out.below HB7.out) (HT6.out.below HB7.out)).mono ?_
      rintro e w9 ⟨rfl, hb3⟩
      have HBE := Lib.hid (HBT.out.trans ((HB7.out.trans (hb3.mono HB7.out.size)).mono HBT.out.size))
      rw [HRQ.out, ← HRF.out]
      cases rf
      all_goals
        go_wp2_with fail
        go_ret
        exact HE.out _ HBE.out

end Go.Proofs.Ytkbiopjinegckaa
