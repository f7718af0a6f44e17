/- What the reference's Attract computes. -/
import Derived.Test.YtjppebbeobgmoaaC10
namespace Go.Proofs.Ytjppebbeobgmoaa
open Go.RowKit

def newB (g : Gm) (p : Int) (s : List Bool) (i : Nat) : Bool := !s.getD i false && canB g p s i
/-- The first i positions of a round. -/
def rnIn (g : Gm) (p : Int) (s : List Bool) : Nat → List Bool
  | 0 => s
  | i + 1 => if newB g p s i then (rnIn g p s i).set i true else rnIn g p s i
def rnMv (g : Gm) (p : Int) (s : List Bool) (n : Int) (m : List Int) : Nat → List Int
  | 0 => m
  | i + 1 => if newB g p s i then (rnMv g p s n m i).set i n else rnMv g p s n m i
def mv0 (t : List Bool) : List Int := t.map fun b => if b then 0 else -1
/-- The state behind k rounds. -/
def rnd (g : Gm) (p : Int) (t : List Bool) : Nat → List Bool × List Int
  | 0 => (t, mv0 t)
  | k + 1 => (rnIn g p (rnd g p t k).1 t.length, rnMv g p (rnd g p t k).1 ((k : Int) + 1) (rnd g p t k).2 t.length)
def attrL (g : Gm) (p : Int) (t : List Bool) : List Bool × List Int := rnd g p t t.length

theorem rnIn_len (g : Gm) (p : Int) (s : List Bool) (i : Nat) : (rnIn g p s i).length = s.length := by
  induction i with
  | zero => rfl
  | succ i ih => rw [rnIn]; split <;> simp [ih]
theorem rnMv_len (g : Gm) (p : Int) (s : List Bool) (n : Int) (m : List Int) (i : Nat) : (rnMv g p s n m i).length = m.length := by
  induction i with
  | zero => rfl
  | succ i ih => rw [rnMv]; split <;> simp [ih]
theorem rnd_len (g : Gm) (p : Int) (t : List Bool) (k : Nat) : (rnd g p t k).1.length = t.length ∧ (rnd g p t k).2.length = t.length := by
  induction k with
  | zero => exact ⟨rfl, by simp [rnd, mv0]⟩
  | succ k ih => exact ⟨by rw [rnd, rnIn_len, ih.1], by rw [rnd]; simp only; rw [rnMv_len, ih.2]⟩

theorem mv0_take (l : List Bool) (k : Nat) (h : k < l.length) : mv0 (l.take (k + 1)) = mv0 (l.take k) ++ [if l[k] then 0 else -1] := by
  unfold mv0; rw [List.take_succ_eq_append_getElem h, List.map_append]; rfl

/-- Two results in new memory, or nothing. -/
def TwoOr (ok : Bool) (l : List Bool) (m : List Int) (w : World) (e : Ending) (w' : World) : Prop :=
  ∃ v1 v2, e = .returned (.tuple #[v1, v2]) ∧ OB w' w.heap.size v1 (if ok then l else []) ∧ OI w' w.heap.size v2 (if ok then m else []) ∧ Below w.heap.size w w'

theorem OI_nil (w : World) (base : Nat) : OI w base (.slice none 0 0) [] := World.ownsRow_nil _ _ _ _

theorem OI.row {w : World} {base : Nat} {v : Value} {l : List Int} (h : OI w base v l) (hl : 0 < l.length) : ∃ g cap, v = .slice (some ⟨g, 0, none⟩) l.length cap ∧ base ≤ g ∧ g < w.heap.size := by
  rcases h.2 with ⟨_, h0⟩ | ⟨g, cap, cur, hv, hb, hg, _⟩
  · omega
  · exact ⟨g, cap, hv, hb, (Array.getElem?_eq_some_iff.1 hg).1⟩
theorem OI.slice {w : World} {base : Nat} {v : Value} {l : List Int} (h : OI w base v l) : ∃ ao cap, v = .slice ao l.length cap := by
  rcases h.2 with ⟨hv, h0⟩ | ⟨g, cap, cur, hv, hb, hg, _⟩
  · exact ⟨none, 0, by rw [hv, h0]⟩
  · exact ⟨_, cap, hv⟩

/-- Two rows lie in different blocks. -/
def Apart (v v' : Value) : Prop := ∀ g, v.ownBlock = some g → v'.ownBlock = some g → False
theorem Apart.symm {v v' : Value} (h : Apart v v') : Apart v' v := fun g h1 h2 => h g h2 h1
theorem Apart.ne {v v' : Value} (h : Apart v v') : v.ownBlock = none ∨ v.ownBlock ≠ v'.ownBlock := by
  cases hv : v.ownBlock with
  | none => exact .inl rfl
  | some g => exact .inr fun e => h g hv e.symm
theorem Apart.moved {w : World} {v u u' : Value} (h : Apart v u) (hm : Moved w u u') (hl : ∀ g, v.ownBlock = some g → g < w.heap.size) : Apart v u' := fun g h1 h2 => by
  rcases hm g h2 with e | e
  · exact h g h1 e
  · have := hl g h1; omega
theorem Apart.of_lt {w : World} {v v' : Value} (hl : ∀ g, v.ownBlock = some g → g < w.heap.size) (hg : ∀ g, v'.ownBlock = some g → w.heap.size ≤ g) : Apart v v' := fun g h1 h2 => by
  have := hl g h1; have := hg g h2; omega
theorem OB.lt' {w : World} {base : Nat} {v : Value} {l : List Bool} (h : OB w base v l) : ∀ g, v.ownBlock = some g → g < w.heap.size := fun g hg => (World.ownsRow.lt h g hg).2
theorem OI.lt' {w : World} {base : Nat} {v : Value} {l : List Int} (h : OI w base v l) : ∀ g, v.ownBlock = some g → g < w.heap.size := fun g hg => (World.ownsRow.lt h g hg).2
theorem OB.ge {w : World} {base : Nat} {v : Value} {l : List Bool} (h : OB w base v l) : ∀ g, v.ownBlock = some g → base ≤ g := fun g hg => (World.ownsRow.lt h g hg).1
theorem OI.ge {w : World} {base : Nat} {v : Value} {l : List Int} (h : OI w base v l) : ∀ g, v.ownBlock = some g → base ≤ g := fun g hg => (World.ownsRow.lt h g hg).1
theorem Boxed.grown {w wr w1 : World} {cs : Array Value} {v : Value} (h : Boxed w wr cs) (hg : wr.grownBy w1 v.ownBlock) (hv : ∀ g, v.ownBlock = some g → w.heap.size + 1 ≤ g) : Boxed w w1 cs :=
  h.stepB ((Below.refl _ _).grown hg h.lt hv)

set_option maxHeartbeats 4000000 in
theorem RAttract_c (w : World) (vg vs : Value) (g : Gm) (p : Int) (s : List Bool) (hg : IsGame w vg g) (hs : IsBools w vs s) :
    Calls Try.prog 12 #[vg, .int .i64 p, vs] w (TwoOr (fitsB g p s.length) (attrL g p s).1 (attrL g p s).2 w) := by
  have hgx := hg
  have hsx := hs
  obtain ⟨v0, v1, v2, rfl, ⟨⟨ao0, cap0, b0, off0, rfl, g0⟩, _⟩, ⟨⟨ao1, cap1, b1, off1, rfl, g1⟩, _⟩, ⟨V, ⟨ao2, cap2, b2, off2, rfl, g2⟩, hr⟩⟩ := hg
  clear g0 g1 g2 hr
  obtain ⟨aos, caps, bs, offs, rfl, hs⟩ := hs
  have hns := hs.nb
  clear hs
  cases hf : fitsB g p s.length
  · go_enter Try.func12, Try.ntmps12
    go_wp2_with fail
    refine (rightR_c _ _ g p _ _ _ (hgx.below (by repeat (first | exact Below.refl _ _ | assumption | (refine belA ?_ _) | (refine belD ?_ _))))).mono ?_
    rintro e w1 ⟨rfl, hb1⟩
    rw [hf]
    go_wp2
    go_ret2
    exact ⟨_, _, rfl, OB_nil _ _, OI_nil _ _, (Boxed.start hb1).bl⟩
  have F := fits_of hf
  have hle := F.le
  go_enter Try.func12, Try.ntmps12
  go_wp2_with fail
  refine (rightR_c _ _ g p _ _ _ (hgx.below (by repeat (first | exact Below.refl _ _ | assumption | (refine belA ?_ _) | (refine belD ?_ _))))).mono ?_
  rintro e w1 ⟨rfl, hb1⟩
  have hbx := Boxed.start hb1
  clear hb1
  rw [hf]
  go_wp2_with (at_builtin; refine app_bools rfl _ _ rfl (w.heap.size + 1) _ _ [] s (World.ownsRow_made w1 #[] 0 hbx.lt (by simp [maxLen]) rfl) rfl (hsx.below (hbx.bl.alloc hbx.bl.size _)) rfl (by simp; omega) (by have := hbx.lt; simp; omega) ?_; intro vi w2 hown hg2 hmv)
  have hbx2 : Boxed w w2 #[Value.slice ao0 g.owner.length cap0, Value.slice ao1 g.prio.length cap1, Value.slice ao2 g.succ.length cap2] :=
    hbx.stepB (((Below.refl _ _).alloc hbx.lt _).grown hg2 (by have := hbx.lt; simp; omega) (fun k hk => by cases hk; exact hbx.lt))
  simp only [List.nil_append] at hown
  obtain ⟨aoi, capi, rfl⟩ := hown.slice
  clear hg2 hmv hbx
  have hcan : Hid (∀ (W : World) (v : Value) (l : List Bool) (j : Nat), Below w.heap.size w W → IsBools W v l → l.length = s.length → j < s.length → Calls Try.prog 32 #[.agg #[Value.slice ao0 g.owner.length cap0, Value.slice ao1 g.prio.length cap1, Value.slice ao2 g.succ.length cap2], .int .i64 p, v, .int .i64 j] W (Calm (.bool (canB g p l j)) W)) :=
    fun W v l j hW hv hl hj => can_c W _ _ g p l j (hgx.below hW) hv (by rw [F.on]; exact hj) (by rw [F.sn]; exact hj) (by rw [hl]; exact F.rg j hj)
  go_wp2
  go_loopg [9, 10] s.length (fun gh vm i wr => ∃ (k : Nat), gh = s.length - k ∧ i = .int .i64 k ∧ k ≤ s.length ∧ Boxed w wr #[Value.slice ao0 g.owner.length cap0, Value.slice ao1 g.prio.length cap1, Value.slice ao2 g.succ.length cap2] ∧ OB wr (w.heap.size + 1) (.slice aoi s.length capi) s ∧ OI wr (w.heap.size + 1) vm (mv0 (s.take k)) ∧ Apart (.slice aoi s.length capi) vm)
  case atStart =>
    exact ⟨0, rfl, rfl, by omega, hbx2.step (bel_box _), hown.below (bel_box _), World.ownsRow_made w2 #[] 0 hbx2.lt (by simp [maxLen]) rfl, Apart.of_lt hown.lt' (fun g hg => by cases hg; exact Nat.le_refl _)⟩
  case round =>
    obtain ⟨k, hgk, rfl, hk, hB, hown1, hm1, hap⟩ := hrel
    have HG := Lib.hid hgk
    clear hgk hown hbx2
    by_cases hlt : k < s.length
    · obtain ⟨gi, ci, hv, -, -⟩ := hown1.row (by omega)
      simp only [Value.slice.injEq] at hv
      obtain ⟨rfl, -, rfl⟩ := hv
      have c1 := hown1.at' rfl k hlt
      have HO := Lib.hid hown1
      have HM := Lib.hid hm1
      have hBs := hB.lt
      clear hown1 hm1
      have hml : (mv0 (s.take k)).length < 17592186043904 := by simp [mv0]; omega
      cases hq : s[k]
      · rw [hq] at c1
        go_wp2_with (at_builtin; refine app_int rfl _ _ (-1) rfl (w.heap.size + 1) _ _ HM.out rfl _ (by simp) rfl hml hBs ?_; intro v' w' hown' hg hmv)
        go_roundg (s.length - (k + 1))
        case measure => have := HG.out; omega
        case rel => exact ⟨k + 1, rfl, by go_num, by omega, hB.grown hg HM.out.ge, HO.out.grown hg hap.ne, by rw [mv0_take _ _ hlt, hq]; exact hown', hap.moved hmv HO.out.lt'⟩
      · rw [hq] at c1
        go_wp2_with (at_builtin; refine app_int rfl _ _ 0 rfl (w.heap.size + 1) _ _ HM.out rfl _ (by simp) rfl hml hBs ?_; intro v' w' hown' hg hmv)
        go_roundg (s.length - (k + 1))
        case measure => have := HG.out; omega
        case rel => exact ⟨k + 1, rfl, by go_num, by omega, hB.grown hg HM.out.ge, HO.out.grown hg hap.ne, by rw [mv0_take _ _ hlt, hq]; exact hown', hap.moved hmv HO.out.lt'⟩
    · obtain rfl : k = s.length := by omega
      rw [List.take_length] at hm1
      clear HG
      obtain ⟨aom, capm, hvm⟩ := hm1.slice
      rw [show (mv0 s).length = s.length from by simp [mv0]] at hvm
      subst hvm
      go_wp2
      go_loopg [8, 11] s.length (fun gh vi n wr => ∃ (k : Nat), gh = s.length - k ∧ n = .int .i64 ((k : Int) + 1) ∧ k ≤ s.length ∧ Boxed w wr #[Value.slice ao0 g.owner.length cap0, Value.slice ao1 g.prio.length cap1, Value.slice ao2 g.succ.length cap2] ∧ OB wr (w.heap.size + 1) vi (rnd g p s k).1 ∧ OI wr (w.heap.size + 1) (.slice aom s.length capm) (rnd g p s k).2 ∧ Apart vi (.slice aom s.length capm))
      case atStart => exact ⟨0, rfl, rfl, by omega, hB, hown1, hm1, hap⟩
      case round =>
        obtain ⟨k, hgk, rfl, hk, hB2, hown2, hm2, hap2⟩ := hrel
        have HG := Lib.hid hgk
        clear hgk hB hown1 hm1 hap
        have HL1 : Hid ((rnd g p s k).1.length = s.length) := (rnd_len g p s k).1
        have HL2 : Hid ((rnd g p s k).2.length = s.length) := (rnd_len g p s k).2
        obtain ⟨aoj, capj, hvi⟩ := hown2.slice
        rw [HL1.out] at hvi
        subst hvi
        generalize hl0 : (rnd g p s k).1 = l at *
        generalize hm0 : (rnd g p s k).2 = m at *
        have HS1 := Lib.hid hl0
        have HS2 := Lib.hid hm0
        clear hl0 hm0
        by_cases hlt : k < s.length
        · have HO := Lib.hid hown2
          have HM := Lib.hid hm2
          have hBs := hB2.lt
          clear hown2 hm2
          go_wp2_with (at_builtin; refine app_bools rfl _ _ rfl (w.heap.size + 1) _ _ [] l (World.ownsRow_made wr #[] 0 hBs (by simp [maxLen]) rfl) rfl ((HO.out.is (by rw [HL1.out]; exact hns)).below (bel_box _)) rfl (by simp; rw [HL1.out]; omega) (by simp; omega) ?_; intro vn w3 hown3 hg3 hmv3)
          have hB3 : Boxed w w3 #[Value.slice ao0 g.owner.length cap0, Value.slice ao1 g.prio.length cap1, Value.slice ao2 g.succ.length cap2] :=
            (hB2.step (bel_box _)).grown hg3 (fun g hg => by cases hg; exact hBs)
          have hnew : ∀ g, vn.ownBlock = some g → wr.heap.size ≤ g := fun g hg => by
            rcases hmv3 g hg with e | e
            · cases e; exact Nat.le_refl _
            · simp at e; omega
          have HO3 : Hid (OB w3 (w.heap.size + 1) (.slice aoj s.length capj) l) := (HO.out.below (bel_box _)).grown hg3 (Apart.ne fun g h1 h2 => by have h3 := HO.out.lt' g h1; simp [Value.ownBlock] at h2; omega)
          have HM3 : Hid (OI w3 (w.heap.size + 1) (.slice aom s.length capm) m) := (HM.out.below (bel_box _)).grown hg3 (Apart.ne fun g h1 h2 => by have h3 := HM.out.lt' g h1; simp [Value.ownBlock] at h2; omega)
          have hap31 : Apart (.slice aoj s.length capj) vn := Apart.of_lt HO.out.lt' hnew
          have hap32 : Apart (.slice aom s.length capm) vn := Apart.of_lt HM.out.lt' hnew
          simp only [List.nil_append] at hown3
          obtain ⟨aon, capn, hvn⟩ := hown3.slice
          rw [HL1.out] at hvn
          subst hvn
          clear hg3 hmv3 hnew HO HM hB2
          go_wp2
          go_loopg [13] s.length (fun gh i wr => ∃ (j : Nat), gh = s.length - j ∧ i = .int .i64 j ∧ j ≤ s.length ∧ Boxed w wr #[Value.slice ao0 g.owner.length cap0, Value.slice ao1 g.prio.length cap1, Value.slice ao2 g.succ.length cap2] ∧ OB wr (w.heap.size + 1) (.slice aoj s.length capj) l ∧ OB wr (w.heap.size + 1) (.slice aon s.length capn) (rnIn g p l j) ∧ OI wr (w.heap.size + 1) (.slice aom s.length capm) (rnMv g p l ((k : Int) + 1) m j))
          case atStart => exact ⟨0, rfl, rfl, by omega, hB3, HO3.out, hown3, HM3.out⟩
          case round =>
            obtain ⟨j, hgj, rfl, hj, hB4, hi4, hn4, hm4⟩ := hrel
            have HGJ := Lib.hid hgj
            clear hgj hB3 HO3 HM3 hown3
            by_cases hltj : j < s.length
            · have L1 : Hid ((rnIn g p l j).length = s.length) := by show _ = _; rw [rnIn_len, HL1.out]
              have L2 : Hid ((rnMv g p l ((k : Int) + 1) m j).length = s.length) := by show _ = _; rw [rnMv_len, HL2.out]
              have hlj : j < l.length := by rw [HL1.out]; exact hltj
              obtain ⟨gi, ci, hv, -, -⟩ := hi4.row (by omega)
              simp only [Value.slice.injEq] at hv
              obtain ⟨rfl, -, rfl⟩ := hv
              obtain ⟨gn, cn, hv, hgn, -⟩ := hn4.row (by rw [L1.out]; omega)
              simp only [Value.slice.injEq] at hv
              obtain ⟨rfl, -, rfl⟩ := hv
              obtain ⟨gm, cm, hv, hgm, -⟩ := hm4.row (by rw [L2.out]; omega)
              simp only [Value.slice.injEq] at hv
              obtain ⟨rfl, -, rfl⟩ := hv
              have d0 := hB4.cell 0 rfl
              have d1 := hB4.cell 1 rfl
              have d2 := hB4.cell 2 rfl
              have c1 := hi4.at' HL1.out.symm j hlj
              have HI := Lib.hid hi4
              have HN := Lib.hid hn4
              have HM := Lib.hid hm4
              clear hi4 hn4 hm4
              have A : Hid (l.getD j false = l[j]) := getD_lt _ _ _ hlj
              cases hq : l[j]
              case true =>
                rw [hq] at c1
                go_wp2
                go_roundg (s.length - (j + 1))
                case measure => have := HGJ.out; omega
                case rel =>
                  have hnb : newB g p l j = false := by rw [newB, A.out, hq]; rfl
                  refine ⟨j + 1, rfl, by go_num, by omega, hB4, HI.out, ?_, ?_⟩
                  · rw [rnIn, hnb]; exact HN.out
                  · rw [rnMv, hnb]; exact HM.out
              case false =>
                rw [hq] at c1
                cases hc : canB g p l j
                · go_wp2_with fail
                  refine (hcan.out _ _ l j hB4.bl (HI.out.is (by rw [HL1.out]; exact hns)) HL1.out hltj).mono ?_
                  rintro e w5 ⟨rfl, hb5⟩
                  rw [hc]
                  clear c1 d0 d1 d2
                  go_wp2
                  go_roundg (s.length - (j + 1))
                  case measure => have := HGJ.out; omega
                  case rel =>
                    have hnb : newB g p l j = false := by rw [newB, A.out, hq, hc]; rfl
                    refine ⟨j + 1, rfl, by go_num, by omega, hB4.step hb5, HI.out.below hb5, ?_, ?_⟩
                    · rw [rnIn, hnb]; exact HN.out.below hb5
                    · rw [rnMv, hnb]; exact HM.out.below hb5
                · go_wp2_with fail
                  refine (hcan.out _ _ l j hB4.bl (HI.out.is (by rw [HL1.out]; exact hns)) HL1.out hltj).mono ?_
                  rintro e w5 ⟨rfl, hb5⟩
                  rw [hc]
                  have cn := (HN.out.below hb5).at' L1.out.symm j (by rw [L1.out]; exact hltj)
                  have fn := (HN.out.below hb5).fz L1.out.symm j
                  have HN6 : Hid (OB (w5.setCell ⟨gn, j, none⟩ (.bool true)) (w.heap.size + 1) (.slice (some ⟨gn, 0, none⟩) s.length capn) ((rnIn g p l j).set j true)) := (HN.out.below hb5).set L1.out.symm j true
                  have HI6 : Hid (OB (w5.setCell ⟨gn, j, none⟩ (.bool true)) (w.heap.size + 1) (.slice (some ⟨gi, 0, none⟩) s.length capj) l) := (HI.out.below hb5).grown (grown_set _ _ _ _) hap31.ne
                  have HM6 : Hid (OI (w5.setCell ⟨gn, j, none⟩ (.bool true)) (w.heap.size + 1) (.slice (some ⟨gm, 0, none⟩) s.length capm) (rnMv g p l ((k : Int) + 1) m j)) := (HM.out.below hb5).grown (grown_set _ _ _ _) hap32.ne
                  have HB6 : Hid (Boxed w (w5.setCell ⟨gn, j, none⟩ (.bool true)) #[Value.slice ao0 g.owner.length cap0, Value.slice ao1 g.prio.length cap1, Value.slice ao2 g.succ.length cap2]) := (hB4.step hb5).stepB ((Below.refl _ _).setCell hgn _)
                  have cm := HM6.out.at' L2.out.symm j (by rw [L2.out]; exact hltj)
                  have fm := HM6.out.fz L2.out.symm j
                  clear c1 d0 d1 d2
                  go_wp2
                  go_roundg (s.length - (j + 1))
                  case measure => have := HGJ.out; omega
                  case rel =>
                    have hnb : newB g p l j = true := by rw [newB, A.out, hq, hc]; rfl
                    refine ⟨j + 1, rfl, by go_num, by omega, HB6.out.stepB ((Below.refl _ _).setCell hgm _), HI6.out.grown (grown_set _ _ _ _) hap2.ne, ?_, ?_⟩
                    · rw [rnIn, hnb]; exact HN6.out.grown (grown_set _ _ _ _) hap32.symm.ne
                    · rw [rnMv, hnb]; exact HM6.out.set L2.out.symm j _
            · obtain rfl : j = s.length := by omega
              go_wp2
              go_roundg (s.length - (k + 1))
              case measure => have := HG.out; omega
              case rel =>
                refine ⟨k + 1, rfl, by go_num, by omega, hB4, ?_, ?_, hap32.symm⟩
                · rw [rnd, HS1.out]; exact hn4
                · rw [rnd, HS1.out, HS2.out]; exact hm4
        · obtain rfl : k = s.length := by omega
          go_wp2
          go_ret2
          refine ⟨_, _, rfl, ?_, ?_, hB2.bl⟩
          · rw [attrL, HS1.out]; exact hown2.base (Nat.le_succ _)
          · rw [attrL, HS2.out]; exact hm2.base (Nat.le_succ _)
end Go.Proofs.Ytjppebbeobgmoaa
