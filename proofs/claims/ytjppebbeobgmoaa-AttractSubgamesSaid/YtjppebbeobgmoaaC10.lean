/- What the reference's Closed computes. -/
import Derived.Test.YtjppebbeobgmoaaC9
namespace Go.Proofs.Ytjppebbeobgmoaa
open Go.RowKit

def clStep (g : Gm) (p : Int) (s : List Bool) (i : Nat) : List Bool := if s.getD i false && !canB g p s i then s.set i false else s
def clUpto (g : Gm) (p : Int) (s : List Bool) : Nat → List Bool
  | 0 => s
  | k + 1 => clStep g p (clUpto g p s k) k
def clRounds (g : Gm) (p : Int) (s : List Bool) : Nat → List Bool
  | 0 => s
  | n + 1 => clUpto g p (clRounds g p s n) s.length
def closedL (g : Gm) (p : Int) (s : List Bool) : List Bool := clRounds g p s (s.length + 1)

theorem clStep_len (g : Gm) (p : Int) (s : List Bool) (i : Nat) : (clStep g p s i).length = s.length := by unfold clStep; split <;> simp
theorem clUpto_len (g : Gm) (p : Int) (s : List Bool) (k : Nat) : (clUpto g p s k).length = s.length := by
  induction k with
  | zero => rfl
  | succ k ih => rw [clUpto, clStep_len, ih]
theorem clRounds_len (g : Gm) (p : Int) (s : List Bool) (n : Nat) : (clRounds g p s n).length = s.length := by
  induction n with
  | zero => rfl
  | succ n ih => rw [clRounds, clUpto_len, ih]

/-- A result that is nil, or a set in new memory. -/
def SetOr (ok : Bool) (l : List Bool) (w : World) (e : Ending) (w' : World) : Prop := ∃ v, e = .returned v ∧ OB w' w.heap.size v (if ok then l else []) ∧ Below w.heap.size w w' ∧ (ok = false → v = .slice none 0 0)

theorem OB_nil (w : World) (base : Nat) : OB w base (.slice none 0 0) [] := World.ownsRow_nil _ _ _ _

/-- A row with elements lies in a block. -/
theorem OB.row {w : World} {base : Nat} {v : Value} {l : List Bool} (h : OB w base v l) (hl : 0 < l.length) : ∃ g cap, v = .slice (some ⟨g, 0, none⟩) l.length cap ∧ base ≤ g ∧ g < w.heap.size := by
  rcases h.2 with ⟨_, h0⟩ | ⟨g, cap, cur, hv, hb, hg, _⟩
  · omega
  · exact ⟨g, cap, hv, hb, (Array.getElem?_eq_some_iff.1 hg).1⟩

theorem OB.slice {w : World} {base : Nat} {v : Value} {l : List Bool} (h : OB w base v l) : ∃ ao cap, v = .slice ao l.length cap := by
  rcases h.2 with ⟨hv, h0⟩ | ⟨g, cap, cur, hv, hb, hg, _⟩
  · exact ⟨none, 0, by rw [hv, h0]⟩
  · exact ⟨_, cap, hv⟩

theorem OB.base {w : World} {base base' : Nat} {v : Value} {l : List Bool} (h : OB w base v l) (hb : base' ≤ base) : OB w base' v l := by
  refine ⟨h.1, ?_⟩
  rcases h.2 with h0 | ⟨g, cap, cur, hv, hg, r⟩
  · exact .inl h0
  · exact .inr ⟨g, cap, cur, hv, Nat.le_trans hb hg, r⟩
theorem OI.base {w : World} {base base' : Nat} {v : Value} {l : List Int} (h : OI w base v l) (hb : base' ≤ base) : OI w base' v l := by
  refine ⟨h.1, ?_⟩
  rcases h.2 with h0 | ⟨g, cap, cur, hv, hg, r⟩
  · exact .inl h0
  · exact .inr ⟨g, cap, cur, hv, Nat.le_trans hb hg, r⟩

/-- A row of the call's own stays where new memory is made, or other rows are written. -/
theorem OB.grown {w w' : World} {base : Nat} {v : Value} {l : List Bool} {row : Option Nat} (h : OB w base v l) (hg : w.grownBy w' row) (hne : v.ownBlock = none ∨ v.ownBlock ≠ row) : OB w' base v l := World.ownsRow.kept h hg hne
theorem OI.grown {w w' : World} {base : Nat} {v : Value} {l : List Int} {row : Option Nat} (h : OI w base v l) (hg : w.grownBy w' row) (hne : v.ownBlock = none ∨ v.ownBlock ≠ row) : OI w' base v l := World.ownsRow.kept h hg hne
theorem below_grown {w w' : World} (h : Below w.heap.size w w') : w.grownBy w' none := ⟨h.os, h.tape, h.output, h.size, fun k hk _ => h.block k hk⟩
theorem OB.below {w w' : World} {base : Nat} {v : Value} {l : List Bool} (h : OB w base v l) (hb : Below w.heap.size w w') : OB w' base v l := h.grown (below_grown hb) (by cases v.ownBlock <;> simp)
theorem OI.below {w w' : World} {base : Nat} {v : Value} {l : List Int} (h : OI w base v l) (hb : Below w.heap.size w w') : OI w' base v l := h.grown (below_grown hb) (by cases v.ownBlock <;> simp)

set_option maxHeartbeats 2000000 in
theorem RClosed_c (w : World) (vg vs : Value) (g : Gm) (p : Int) (s : List Bool) (hg : IsGame w vg g) (hs : IsBools w vs s) :
    Calls Try.prog 18 #[vg, .int .i64 p, vs] w (SetOr (fitsB g p s.length) (closedL g p s) w) := by
  have hgx := hg
  have hsx := hs
  obtain ⟨v0, v1, v2, rfl, ⟨⟨ao0, cap0, b0, off0, rfl, g0⟩, _⟩, ⟨⟨ao1, cap1, b1, off1, rfl, g1⟩, _⟩, ⟨V, ⟨ao2, cap2, b2, off2, rfl, g2⟩, hr⟩⟩ := hg
  clear g0 g1 g2 hr
  obtain ⟨aos, caps, bs, offs, rfl, hs⟩ := hs
  have hns := hs.nb
  cases hf : fitsB g p s.length
  · go_enter Try.func18, Try.ntmps18
    go_wp2_with fail
    refine (rightR_c _ _ g p _ _ _ (hgx.below (by repeat (first | exact Below.refl _ _ | assumption | (refine belA ?_ _) | (refine belD ?_ _))))).mono ?_
    rintro e w1 ⟨rfl, hb1⟩
    rw [hf]
    go_wp2
    go_ret
    exact ⟨_, rfl, OB_nil _ _, (Boxed.start hb1).bl, fun _ => rfl⟩
  have F := fits_of hf
  go_enter Try.func18, Try.ntmps18
  go_wp2_with fail
  refine (rightR_c _ _ g p _ _ _ (hgx.below (by repeat (first | exact Below.refl _ _ | assumption | (refine belA ?_ _) | (refine belD ?_ _))))).mono ?_
  rintro e w1 ⟨rfl, hb1⟩
  have hbx := Boxed.start hb1
  clear hb1
  rw [hf]
  go_wp2_with (at_builtin; refine app_bools rfl _ _ rfl (w.heap.size + 1) _ _ [] s (World.ownsRow_made w1 #[] 0 hbx.lt (by simp [maxLen]) rfl) rfl (hsx.below (hbx.bl.alloc hbx.bl.size _)) rfl (by simp; omega) (by have := hbx.lt; simp; omega) ?_; intro vi w2 hown hg2 hmv)
  have hbx2 : Boxed w w2 #[Value.slice ao0 g.owner.length cap0, Value.slice ao1 g.prio.length cap1, Value.slice ao2 g.succ.length cap2] :=
    hbx.stepB (((Below.refl _ _).alloc hbx.lt _).grown hg2 (by have := hbx.lt; simp; omega) (fun k hk => by cases hk; exact hbx.lt))
  simp only [List.nil_append] at hown
  obtain ⟨aoi, capi, rfl⟩ := hown.slice
  clear hg2 hmv hbx
  have hcan : Hid (∀ (W : World) (v : Value) (l : List Bool) (j : Nat), Below w.heap.size w W → IsBools W v l → l.length = s.length → j < s.length → Calls Try.prog 32 #[.agg #[Value.slice ao0 g.owner.length cap0, Value.slice ao1 g.prio.length cap1, Value.slice ao2 g.succ.length cap2], .int .i64 p, v, .int .i64 j] W (Calm (.bool (canB g p l j)) W)) :=
    fun W v l j hW hv hl hj => can_c W _ _ g p l j (hgx.below hW) hv (by rw [F.on]; exact hj) (by rw [F.sn]; exact hj) (by rw [hl]; exact F.rg j hj)
  go_wp2
  go_loopg [8, 9] (s.length + 1) (fun gh n _ wr => ∃ (k : Nat) (l : List Bool), gh = s.length + 1 - k ∧ n = .int .i64 k ∧ k ≤ s.length + 1 ∧ Boxed w wr #[Value.slice ao0 g.owner.length cap0, Value.slice ao1 g.prio.length cap1, Value.slice ao2 g.succ.length cap2] ∧ OB wr (w.heap.size + 1) (.slice aoi s.length capi) l ∧ Hid (l = clRounds g p s k))
  case atStart => exact ⟨0, s, rfl, rfl, by omega, hbx2, hown, rfl⟩
  case round =>
    obtain ⟨k, l, hgk, rfl, hk, hB, hown1, HE⟩ := hrel
    have HG := Lib.hid hgk
    clear hgk hown hbx2
    by_cases hlt : k ≤ s.length
    · go_wp2
      go_loopg [9] s.length (fun gh i wx => ∃ (j : Nat) (l' : List Bool), gh = s.length - j ∧ i = .int .i64 j ∧ j ≤ s.length ∧ Boxed w wx #[Value.slice ao0 g.owner.length cap0, Value.slice ao1 g.prio.length cap1, Value.slice ao2 g.succ.length cap2] ∧ OB wx (w.heap.size + 1) (.slice aoi s.length capi) l' ∧ Hid (l' = clUpto g p l j))
      case atStart => exact ⟨0, l, rfl, rfl, by omega, hB, hown1, rfl⟩
      case round =>
        obtain ⟨j, l', hgj, rfl, hj, hBx, hown2, HJ⟩ := hrel
        have HGJ := Lib.hid hgj
        clear hgj hown1 hB
        have HL : Hid (l'.length = s.length) := by show _ = _; rw [HJ.out, clUpto_len, HE.out, clRounds_len]
        by_cases hltj : j < s.length
        · have hlj : j < l'.length := by rw [HL.out]; exact hltj
          obtain ⟨gi, ci, hv, hgi, hgi2⟩ := hown2.row (by omega)
          simp only [Value.slice.injEq] at hv
          obtain ⟨rfl, -, rfl⟩ := hv
          have c1 := hown2.at' HL.out.symm j hlj
          have d0 := hBx.cell 0 rfl
          have d1 := hBx.cell 1 rfl
          have d2 := hBx.cell 2 rfl
          have HO := Lib.hid hown2
          clear hown2
          have A : Hid (l'.getD j false = l'[j]) := getD_lt _ _ _ hlj
          cases hq : l'[j]
          · rw [hq] at c1
            go_wp2
            go_roundg (s.length - (j + 1))
            case measure => have := HGJ.out; omega
            case rel =>
              refine ⟨j + 1, l', rfl, by go_num, by omega, hBx, HO.out, ?_⟩
              show _ = _
              rw [clUpto, ← HJ.out, clStep, A.out, hq]; rfl
          · rw [hq] at c1
            cases hc : canB g p l' j
            · go_wp2_with fail
              refine (hcan.out _ _ l' j hBx.bl (HO.out.is (by rw [HL.out]; exact hns)) HL.out hltj).mono ?_
              rintro e w3 ⟨rfl, hb3⟩
              rw [hc]
              have c3 := (HO.out.below hb3).at' HL.out.symm j hlj
              have f3 := (HO.out.below hb3).fz HL.out.symm j
              have HN : Hid (OB (w3.setCell ⟨gi, j, none⟩ (.bool false)) (w.heap.size + 1) (.slice (some ⟨gi, 0, none⟩) s.length capi) (l'.set j false)) := (HO.out.below hb3).set HL.out.symm j false
              have HBN : Hid (Boxed w (w3.setCell ⟨gi, j, none⟩ (.bool false)) #[Value.slice ao0 g.owner.length cap0, Value.slice ao1 g.prio.length cap1, Value.slice ao2 g.succ.length cap2]) :=
                (hBx.step hb3).stepB ((Below.refl _ _).setCell hgi _)
              clear c1 d0 d1 d2
              go_wp2
              go_roundg (s.length - (j + 1))
              case measure => have := HGJ.out; omega
              case rel =>
                refine ⟨j + 1, l'.set j false, rfl, by go_num, by omega, HBN.out, HN.out, ?_⟩
                show _ = _
                rw [clUpto, ← HJ.out, clStep, A.out, hq, hc]; rfl
            · go_wp2_with fail
              refine (hcan.out _ _ l' j hBx.bl (HO.out.is (by rw [HL.out]; exact hns)) HL.out hltj).mono ?_
              rintro e w3 ⟨rfl, hb3⟩
              rw [hc]
              clear c1 d0 d1 d2
              go_wp2
              go_roundg (s.length - (j + 1))
              case measure => have := HGJ.out; omega
              case rel =>
                refine ⟨j + 1, l', rfl, by go_num, by omega, hBx.step hb3, HO.out.below hb3, ?_⟩
                show _ = _
                rw [clUpto, ← HJ.out, clStep, A.out, hq, hc]; rfl
        · go_wp2
          go_roundg (s.length + 1 - (k + 1))
          case measure => have := HG.out; omega
          case rel =>
            refine ⟨k + 1, l', rfl, by go_num, by omega, hBx, hown2, ?_⟩
            obtain rfl : j = s.length := by omega
            show _ = _
            rw [HJ.out, clRounds, HE.out]
    · go_wp2
      go_ret
      obtain rfl : k = s.length + 1 := by omega
      have h3 := HE.out
      subst h3
      refine ⟨_, rfl, ?_, hB.bl, fun h => by cases h⟩
      exact hown1.base (Nat.le_succ _)
end Go.Proofs.Ytjppebbeobgmoaa
