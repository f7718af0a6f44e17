/- The play of two strategies, in plain terms; what the deferred function literal of Play does. -/
import Derived.Test.YtkbiopjinegckaaSt15
import Derived.Test.YtkbiopjinegckaaSt9
import Derived.Defers
namespace Go.Proofs.Ytkbiopjinegckaa
open Go.RowKit

/-- The move at a position. -/
def sayP (g : Gm) (a b : List Int) (v : Nat) : Int := if g.owner.getD v 0 = 1 then b.getD v 0 else a.getD v 0
def playF (g : Gm) (a b : List Int) : Nat → List Nat → Nat → Ph
  | 0, _, _ => ⟨[], []⟩
  | f + 1, way, v => if v ∈ way then ⟨castL (way.take (way.idxOf v)), castL (way.drop (way.idxOf v))⟩ else if sayP g a b v ∈ g.succ.getD v [] then playF g a b f (way ++ [v]) (sayP g a b v).toNat else ⟨[], []⟩
def playR (g : Gm) (a b : List Int) (x : Int) : Ph :=
  if validB g && decide (a.length = g.owner.length) && decide (b.length = g.owner.length) && decide (0 ≤ x) && decide (x < g.owner.length) then playF g a b (g.owner.length + 1) [] x.toNat else ⟨[], []⟩
theorem playF_yes {g : Gm} {a b : List Int} {f v : Nat} {way : List Nat} (h : v ∈ way) : playF g a b (f + 1) way v = ⟨castL (way.take (way.idxOf v)), castL (way.drop (way.idxOf v))⟩ := by
  rw [playF, if_pos h]
theorem playF_next {g : Gm} {a b : List Int} {f v : Nat} {way : List Nat} (h : v ∉ way) (hm : sayP g a b v ∈ g.succ.getD v []) : playF g a b (f + 1) way v = playF g a b f (way ++ [v]) (sayP g a b v).toNat := by
  rw [playF, if_neg h, if_pos hm]
theorem playF_no {g : Gm} {a b : List Int} {f v : Nat} {way : List Nat} (h : v ∉ way) (hm : sayP g a b v ∉ g.succ.getD v []) : playF g a b (f + 1) way v = ⟨[], []⟩ := by
  rw [playF, if_neg h, if_neg hm]
theorem playR_no {g : Gm} {a b : List Int} {x : Int} (h : validB g = false ∨ a.length ≠ g.owner.length ∨ b.length ≠ g.owner.length ∨ x < 0 ∨ (g.owner.length : Int) ≤ x) : playR g a b x = ⟨[], []⟩ := by
  unfold playR
  rw [if_neg]
  simp only [Bool.and_eq_true, decide_eq_true_eq]
  rintro ⟨⟨⟨⟨h1, h2⟩, h3⟩, h4⟩, h5⟩
  rcases h with h | h | h | h | h
  · rw [h] at h1; cases h1
  · exact h h2
  · exact h h3
  · omega
  · omega
theorem playR_yes {g : Gm} {a b : List Int} {x : Nat} (h1 : validB g = true) (h2 : a.length = g.owner.length) (h3 : b.length = g.owner.length) (h4 : x < g.owner.length) : playR g a b x = playF g a b (g.owner.length + 1) [] x := by
  unfold playR
  rw [if_pos, Int.toNat_natCast]
  simp only [Bool.and_eq_true, decide_eq_true_eq]
  exact ⟨⟨⟨⟨h1, h2⟩, h3⟩, by omega⟩, by omega⟩

/-- A play in new memory. -/
def NewPath (P : Ph) (w : World) (e : Ending) (w' : World) : Prop := ∃ v, e = .returned v ∧ IsPath w' v P ∧ Below w.heap.size w w'
theorem two_set {w : World} {z : Nat} {t : TypeId} {a b c d : Value} (h : w.heap[z]? = some (.cells #[a, b] t (0, 0))) : ((w.setCell ⟨z, 0, none⟩ c).setCell ⟨z, 1, none⟩ d).heap[z]? = some (.cells #[c, d] t (0, 0)) := by
  have h1 := heap_setCell_same w z 0 _ _ c h
  have h2 := heap_setCell_same _ z 1 _ _ d h1
  simpa using h2

def RD1 (B0 gW cap f L : Nat) (st lp : List Int) (ix : Nat) (u : Value) (W : World) : Prop :=
  match ix with
  | 0 => u = .slice (some ⟨gW, 0, none⟩) L cap
  | 1 => u = .int .i64 (f : Int)
  | 2 => u = .slice (some ⟨gW, 0, none⟩) f cap
  | 3 => OI W B0 u st
  | 4 => u = .slice (some ⟨gW, 0, none⟩) L cap
  | 5 => u = .int .i64 (f : Int)
  | 6 => u = .slice (some ⟨gW, f, none⟩) (L - f) (cap - f)
  | 7 => OI W B0 u lp
  | 8 => ∃ v0 v1, u = .agg #[v0, v1] ∧ OI W B0 v0 st ∧ OI W B0 v1 lp
  | _ => True
theorem RD1.mono (B0 gW cap f L : Nat) (st lp : List Int) (ix : Nat) (v : Value) (W W' : World) (h : RD1 B0 gW cap f L st lp ix v W) (hb : Below W.heap.size W W') : RD1 B0 gW cap f L st lp ix v W' := by
  unfold RD1 at *
  split at h
  · exact h
  · exact h
  · exact h
  · exact h.below hb
  · exact h
  · exact h
  · exact h
  · exact h.below hb
  · obtain ⟨v0, v1, e, h1, h2⟩ := h
    exact ⟨v0, v1, e, h1.below hb, h2.below hb⟩
  · trivial

def DefOut (B : Nat) (w : World) (zp : Nat) (P : Ph) (e : Ending) (w' : World) : Prop :=
  e = .returned (.tuple #[]) ∧ Below B w w' ∧ ∃ v0 v1, w'.heap[zp]? = some (.cells #[v0, v1] 28 (0, 0)) ∧ IsInts w' v0 P.stem ∧ IsInts w' v1 P.loop

set_option maxHeartbeats 4000000 in
theorem def_no (B zf zw zp : Nat) (w : World) (hf : w.cell? ⟨zf, 0, none⟩ = some (.int .i64 (-1))) (hp : w.heap[zp]? = some (.cells #[.slice none 0 0, .slice none 0 0] 28 (0, 0))) :
    CallsD Try.prog 30 #[.pointer (some ⟨zf, 0, none⟩), .pointer (some ⟨zw, 0, none⟩), .pointer (some ⟨zp, 0, none⟩)] .returning w (fun e u' w' => u' = .returning ∧ DefOut B w zp ⟨[], []⟩ e w') := by
  have HP := Lib.hid hp
  clear hp
  go_enter_d Try.func30, Try.ntmps30
  go_wp2
  go_end0
  exact ⟨rfl, Below.refl _ _, _, _, HP.out, ints_nil _, ints_nil _⟩

set_option maxRecDepth 100000 in
set_option maxHeartbeats 4000000 in
theorem def_yes (B zf zw zp : Nat) (w : World) (gW cap f : Nat) (way : List Int) (hf : w.cell? ⟨zf, 0, none⟩ = some (.int .i64 (f : Int))) (hw : w.cell? ⟨zw, 0, none⟩ = some (.slice (some ⟨gW, 0, none⟩) way.length cap)) (hO : OI w B (.slice (some ⟨gW, 0, none⟩) way.length cap) way)
    (hi : ∀ x ∈ way, I64 x) (hl : way.length ≤ 5000) (hfl : f < way.length) (hp : w.heap[zp]? = some (.cells #[.slice none 0 0, .slice none 0 0] 28 (0, 0))) (hB : B ≤ zp) :
    CallsD Try.prog 30 #[.pointer (some ⟨zf, 0, none⟩), .pointer (some ⟨zw, 0, none⟩), .pointer (some ⟨zp, 0, none⟩)] .returning w (fun e u' w' => u' = .returning ∧ DefOut B w zp ⟨way.take f, way.drop f⟩ e w') := by
  have hzp := (Array.getElem?_eq_some_iff.1 hp).1
  obtain ⟨hI2, hc1, hc2⟩ := hO.dropI hi (by unfold maxN; omega) hfl
  have hI1 : IsInts w (.slice (some ⟨gW, 0, none⟩) f cap) (way.take f) := by
    have := (OI.cut hO (Nat.le_of_lt hfl)).is (by rw [List.length_take]; unfold maxN; omega) fun x hx => hi x (List.mem_of_mem_take hx)
    exact this
  have hmx : Try.prog.follows .mixedOrders = true := by kernel_rfl
  have HCW : Hid (∀ W, Below w.drew.heap.size w.drew W → W.cell? ⟨zw, 0, none⟩ = some (.slice (some ⟨gW, 0, none⟩) way.length cap)) := fun W h => cellB h hw
  have HCF : Hid (∀ W, Below w.drew.heap.size w.drew W → W.cell? ⟨zf, 0, none⟩ = some (.int .i64 (f : Int))) := fun W h => cellB h hf
  have HI1 : Hid (∀ W, Below w.drew.heap.size w.drew W → IsInts W (.slice (some ⟨gW, 0, none⟩) f cap) (way.take f)) := fun W h => hI1.below ((Below.drew (Below.refl _ _)).trans h)
  have HI2 : Hid (∀ W, Below w.drew.heap.size w.drew W → IsInts W (.slice (some ⟨gW, f, none⟩) (way.length - f) (cap - f)) (way.drop f)) := fun W h => hI2.below ((Below.drew (Below.refl _ _)).trans h)
  have HL : Hid ((way.take f).length ≤ 100000 ∧ (way.take f).length ≤ maxN ∧ (∀ x ∈ way.take f, I64 x) ∧ (way.drop f).length ≤ 100000 ∧ (way.drop f).length ≤ maxN ∧ ∀ x ∈ way.drop f, I64 x) :=
    ⟨by rw [List.length_take]; omega, by rw [List.length_take]; unfold maxN; omega, fun x hx => hi x (List.mem_of_mem_take hx), by rw [List.length_drop]; omega, by rw [List.length_drop]; unfold maxN; omega, fun x hx => hi x (List.mem_of_mem_drop hx)⟩
  have HB : Hid ((f : Int) ≤ way.length ∧ f ≤ cap ∧ (f : Int) ≤ cap ∧ ¬ cap = f) := ⟨by omega, by omega, by omega, by omega⟩
  have HPx : Hid (∀ W, Below w.drew.heap.size w.drew W → W.heap[zp]? = some (.cells #[.slice none 0 0, .slice none 0 0] 28 (0, 0))) := fun W h => (h.block zp hzp).trans hp
  have HBB := Lib.hid hB
  have hf0 : (0 : Int) ≤ f := by omega
  have HWs : Hid (∀ W, Below w.drew.heap.size w.drew W → w.heap.size ≤ W.heap.size) := fun W h => h.size
  have HZP := Lib.hid hzp
  clear hI1 hI2 hc1 hc2 hO hi hl hfl hp hw hzp hB
  go_enter_d Try.func30, Try.ntmps30
  go_upto_region 1 with (fail)
  clear hf
  refine region_last hmx (RD1 w.heap.size gW cap f way.length (way.take f) (way.drop f)) (fun vs => { tmps := (_ :: _ :: _ :: _ :: _ :: vs 0 :: vs 1 :: vs 2 :: vs 3 :: vs 4 :: vs 5 :: vs 6 :: vs 7 :: vs 8 :: []).toArray, defers := _ }) (fun _ => undef) 9 rfl (by kernel_rfl) (by kernel_rfl) (RD1.mono w.heap.size gW cap f way.length (way.take f) (way.drop f)) ?step ?last
  case step =>
    intro ix o hlt ho
    match ix, hlt, ho with
    | 0, hlt, ho =>
      obtain rfl := Option.some.inj ho
      intro vs W K hB hD hK
      have HK := Lib.hid hK
      have cw := HCW.out W hB
      clear hK hD ho hlt
      dsimp only
      go_simp
      have h := HK.out _ _ (Below.refl _ _) rfl
      simp only [upd, Nat.reduceEqDiff, reduceIte] at h
      exact h
    | 1, hlt, ho =>
      obtain rfl := Option.some.inj ho
      intro vs W K hB hD hK
      have HK := Lib.hid hK
      have cf := HCF.out W hB
      clear hK hD ho hlt
      dsimp only
      go_simp
      have h := HK.out _ _ (Below.refl _ _) rfl
      simp only [upd, Nat.reduceEqDiff, reduceIte] at h
      exact h
    | 2, hlt, ho =>
      obtain rfl := Option.some.inj ho
      intro vs W K hB hD hK
      have HK := Lib.hid hK
      have e0 : vs 0 = .slice (some ⟨gW, 0, none⟩) way.length cap := dep_of hD 0 (by rfl)
      have e1 : vs 1 = .int .i64 (f : Int) := dep_of hD 1 (by rfl)
      obtain ⟨k0, k1, k2, k3⟩ := HB.out
      clear hK hD ho hlt
      dsimp only
      go_simp
      have h := HK.out _ _ (Below.refl _ _) rfl
      simp only [upd, Nat.reduceEqDiff, reduceIte, e0, e1] at h
      exact h
    | 3, hlt, ho =>
      obtain rfl := Option.some.inj ho
      intro vs W K hB hD hK
      have HK := Lib.hid hK
      have e2 : vs 2 = .slice (some ⟨gW, 0, none⟩) f cap := dep_of hD 2 (by rfl)
      have HBW := Lib.hid hB
      clear hK hD ho hlt
      dsimp only
      go_simp
      refine (Clone_o _ _ _ (HI1.out W hB) HL.out.1).mono ?_
      rintro e W' ⟨v, rfl, hO, hb⟩
      have hws := HWs.out W HBW.out
      have h := HK.out _ _ hb (hO.base hws)
      simp only [upd, Nat.reduceEqDiff, reduceIte, e2] at h
      exact h
    | 4, hlt, ho =>
      obtain rfl := Option.some.inj ho
      intro vs W K hB hD hK
      have HK := Lib.hid hK
      have cw := HCW.out W hB
      clear hK hD ho hlt
      dsimp only
      go_simp
      have h := HK.out _ _ (Below.refl _ _) rfl
      simp only [upd, Nat.reduceEqDiff, reduceIte] at h
      exact h
    | 5, hlt, ho =>
      obtain rfl := Option.some.inj ho
      intro vs W K hB hD hK
      have HK := Lib.hid hK
      have cf := HCF.out W hB
      clear hK hD ho hlt
      dsimp only
      go_simp
      have h := HK.out _ _ (Below.refl _ _) rfl
      simp only [upd, Nat.reduceEqDiff, reduceIte] at h
      exact h
    | 6, hlt, ho =>
      obtain rfl := Option.some.inj ho
      intro vs W K hB hD hK
      have HK := Lib.hid hK
      have e4 : vs 4 = .slice (some ⟨gW, 0, none⟩) way.length cap := dep_of hD 4 (by rfl)
      have e5 : vs 5 = .int .i64 (f : Int) := dep_of hD 5 (by rfl)
      obtain ⟨k0, k1, k2, k3⟩ := HB.out
      clear hK hD ho hlt
      dsimp only
      go_simp
      have h := HK.out _ _ (Below.refl _ _) rfl
      simp only [upd, Nat.reduceEqDiff, reduceIte, e4, e5] at h
      exact h
    | 7, hlt, ho =>
      obtain rfl := Option.some.inj ho
      intro vs W K hB hD hK
      have HK := Lib.hid hK
      have e6 : vs 6 = .slice (some ⟨gW, f, none⟩) (way.length - f) (cap - f) := dep_of hD 6 (by rfl)
      have HBW := Lib.hid hB
      clear hK hD ho hlt
      dsimp only
      go_simp
      refine (Clone_o _ _ _ (HI2.out W hB) HL.out.2.2.2.1).mono ?_
      rintro e W' ⟨v, rfl, hO, hb⟩
      have hws := HWs.out W HBW.out
      have h := HK.out _ _ hb (hO.base hws)
      simp only [upd, Nat.reduceEqDiff, reduceIte, e6] at h
      exact h
    | 8, hlt, ho =>
      obtain rfl := Option.some.inj ho
      intro vs W K hB hD hK
      have HK := Lib.hid hK
      have i3 : OI W w.heap.size (vs 3) _ := dep_of (R := RD1 w.heap.size gW cap f way.length (way.take f) (way.drop f)) hD 3 (by rfl)
      have i7 : OI W w.heap.size (vs 7) _ := dep_of (R := RD1 w.heap.size gW cap f way.length (way.take f) (way.drop f)) hD 7 (by rfl)
      obtain ⟨a3, c3, h3⟩ := i3.slice
      obtain ⟨a7, c7, h7⟩ := i7.slice
      rw [h3] at i3
      rw [h7] at i7
      clear hK hD ho hlt
      dsimp only
      go_simp
      have h := HK.out _ _ (Below.refl _ _) ⟨_, _, rfl, i3, i7⟩
      simp only [upd, Nat.reduceEqDiff, reduceIte, h3, h7, List.length_take, List.length_drop] at h
      exact h
    | q + 9, hlt, _ => exact absurd hlt (by omega)
  case last =>
    intro o ho
    obtain rfl := Option.some.inj ho
    intro vs W K hB hall hK
    have HK := Lib.hid hK
    obtain ⟨v0, v1, e8, i0, i1⟩ : ∃ v0 v1, vs 8 = .agg #[v0, v1] ∧ OI W w.heap.size v0 (way.take f) ∧ OI W w.heap.size v1 (way.drop f) := hall 8 (by omega)
    obtain ⟨a0, c0, rfl⟩ := i0.slice
    obtain ⟨a1, c1, rfl⟩ := i1.slice
    have hpx := HPx.out W hB
    have k0 := cell_of_row _ _ 0 _ _ _ hpx
    have k1 := cell_of_row _ _ 1 _ _ _ hpx
    have f0 := frozen_of_row _ _ 0 _ _ hpx
    have f1 := frozen_of_row _ _ 1 _ _ hpx
    have HS := Lib.hid (two_set (c := .slice a0 (way.take f).length c0) (d := .slice a1 (way.drop f).length c1) hpx)
    have hW : Below w.heap.size w W := (Below.drew (Below.refl _ _)).trans hB
    have HE : Hid (DefOut B w zp ⟨way.take f, way.drop f⟩ (.returned (.tuple #[])) ((W.setCell ⟨zp, 0, none⟩ (.slice a0 (way.take f).length c0)).setCell ⟨zp, 1, none⟩ (.slice a1 (way.drop f).length c1))) := by
      have hzp := HZP.out
      have hbb := HBB.out
      have hl := HL.out
      refine ⟨rfl, (((hW.mono (by omega)).setCell (show B ≤ zp from hbb) _).setCell (show B ≤ zp from hbb) _), _, _, HS.out, ?_, ?_⟩
      · refine (((i0.only (S := fun q => q = zp) (Only.set zp 0 _ rfl) ?_).only (S := fun q => q = zp) (Only.set zp 1 _ rfl) ?_)).is hl.2.1 hl.2.2.1
        · intro q hq e; have := i0.ge q hq; omega
        · intro q hq e; have := i0.ge q hq; omega
      · refine (((i1.only (S := fun q => q = zp) (Only.set zp 0 _ rfl) ?_).only (S := fun q => q = zp) (Only.set zp 1 _ rfl) ?_)).is hl.2.2.2.2.1 hl.2.2.2.2.2
        · intro q hq e; have := i1.ge q hq; omega
        · intro q hq e; have := i1.ge q hq; omega
    simp only [List.length_take, List.length_drop] at HE
    clear hK hall ho hpx i0 i1 HS
    dsimp only
    go_simp
    refine HK.out _ _ ?_
    go_end0
    exact HE.out

end Go.Proofs.Ytkbiopjinegckaa
