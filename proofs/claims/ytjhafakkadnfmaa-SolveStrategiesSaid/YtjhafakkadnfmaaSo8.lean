/- What least does. -/
import Derived.Test.YtjhafakkadnfmaaSo7
namespace Go.Proofs.Ytjhafakkadnfmaa
open Go.RowKit

def lowP (g : Gm) (par : Int) (l : List Int) : Int := l.foldl (fun m v => if g.prio.getD v.toNat 0 % 2 = par then min m (g.prio.getD v.toNat 0) else m) 9223372036854775807
theorem lowP_snoc (g : Gm) (par : Int) (l : List Int) (v : Int) : lowP g par (l ++ [v]) = if g.prio.getD v.toNat 0 % 2 = par then min (lowP g par l) (g.prio.getD v.toNat 0) else lowP g par l := by simp [lowP]
def leastP (g : Gm) (r : List Int) : Int := if lowP g 1 r < lowP g 0 r then 1 else 0
def bestF (g : Gm) (r : List Int) (x : Int) : Bool := decide (g.prio.getD x.toNat 0 < if leastP g r = 0 then lowP g 1 r else lowP g 0 r)
def bestL (g : Gm) (r : List Int) : List Int := r.filter (bestF g r)

/-- The boxes of least. -/
structure LX (w W : World) (sp : Nat) (l0 l1 : Int) : Prop where
  bl : Below w.heap.size w W
  bs : W.heap[w.heap.size]? = some (.cells #[.pointer (some ⟨sp, 0, none⟩)] 50 (0, 0))
  ba : W.heap[w.heap.size + 1]? = some (.cells #[.int .i64 l0, .int .i64 l1] 82 (0, 0))
theorem LX.set0 {w W : World} {sp : Nat} {l0 l1 : Int} (h : LX w W sp l0 l1) (x : Int) : LX w (W.setCell ⟨w.heap.size + 1, 0, none⟩ (.int .i64 x)) sp x l1 :=
  ⟨h.bl.setCell (by show w.heap.size ≤ w.heap.size + 1; omega) _, by rw [heap_setCell_other _ _ _ _ (by simp)]; exact h.bs, heap_setCell_same W _ 0 _ _ _ h.ba⟩
theorem LX.set1 {w W : World} {sp : Nat} {l0 l1 : Int} (h : LX w W sp l0 l1) (x : Int) : LX w (W.setCell ⟨w.heap.size + 1, 1, none⟩ (.int .i64 x)) sp l0 x :=
  ⟨h.bl.setCell (by show w.heap.size ≤ w.heap.size + 1; omega) _, by rw [heap_setCell_other _ _ _ _ (by simp)]; exact h.bs, heap_setCell_same W _ 1 _ _ _ h.ba⟩
theorem LX.start (w : World) (sp : Nat) (l0 l1 : Int) : LX w ((w.alloc (.cells #[.pointer (some ⟨sp, 0, none⟩)] 50)).alloc (.cells #[.int .i64 l0, .int .i64 l1] 82)) sp l0 l1 := by
  have h1 := bel_box (w := w) (Obj.cells #[.pointer (some ⟨sp, 0, none⟩)] 50)
  have h2 := bel_box (w := w.alloc (Obj.cells #[.pointer (some ⟨sp, 0, none⟩)] 50)) (Obj.cells #[.int .i64 l0, .int .i64 l1] 82)
  refine ⟨h1.trans (h2.mono h1.size), (h2.block _ (by simp)).trans (heap_alloc_new w _), ?_⟩
  have := heap_alloc_new (w.alloc (Obj.cells #[.pointer (some ⟨sp, 0, none⟩)] 50)) (Obj.cells #[.int .i64 l0, .int .i64 l1] 82)
  rwa [World.size_alloc] at this
theorem OI.down {W : World} {base base' : Nat} {v : Value} {l : List Int} (h : OI W base v l) (hb : base' ≤ base) : OI W base' v l :=
  ⟨h.1, h.2.imp_right fun ⟨g0, cap, cur, e, h1, h2⟩ => ⟨g0, cap, cur, e, Nat.le_trans hb h1, h2⟩⟩
theorem LX.cells {w W : World} {sp : Nat} {l0 l1 : Int} (h : LX w W sp l0 l1) : W.cell? ⟨w.heap.size, 0, none⟩ = some (.pointer (some ⟨sp, 0, none⟩)) ∧ W.cell? ⟨w.heap.size + 1, 0, none⟩ = some (.int .i64 l0) ∧ W.cell? ⟨w.heap.size + 1, 1, none⟩ = some (.int .i64 l1) ∧ W.frozen? ⟨w.heap.size + 1, 0, none⟩ = false ∧ W.frozen? ⟨w.heap.size + 1, 1, none⟩ = false :=
  ⟨cell_of_row _ _ 0 _ _ _ h.bs, cell_of_row _ _ 0 _ _ _ h.ba, cell_of_row _ _ 1 _ _ _ h.ba, frozen_of_row _ _ 0 _ _ h.ba, frozen_of_row _ _ 1 _ _ h.ba⟩
theorem LX.below {w W W' : World} {sp : Nat} {l0 l1 : Int} (h : LX w W sp l0 l1) (hb : Below W.heap.size W W') : LX w W' sp l0 l1 := by
  have h1 := (Array.getElem?_eq_some_iff.1 h.bs).1
  have h2 := (Array.getElem?_eq_some_iff.1 h.ba).1
  exact ⟨h.bl.trans (hb.mono h.bl.size), (hb.block _ h1).trans h.bs, (hb.block _ h2).trans h.ba⟩

/-- What the operations of the last statement leave. -/
def RLe (B : Nat) (ao : Option Addr) (cap : Nat) (r best : List Int) (p : Int) (c c6 c10 : Nat) (ix : Nat) (v : Value) (W : World) : Prop :=
  match ix with
  | 0 => v = .int .i64 p
  | 1 => v = .slice ao r.length cap
  | 2 => v = .func (.func 56) #[] #[.pointer (some ⟨c, 0, none⟩), .pointer (some ⟨c6, 0, none⟩), .pointer (some ⟨c10, 0, none⟩)]
  | 3 => OI W B v best
  | 4 => v = .int .i64 p
  | 5 => OI W B v best
  | _ => True
theorem RLe.mono (B : Nat) (ao : Option Addr) (cap : Nat) (r best : List Int) (p : Int) (c c6 c10 : Nat) (ix : Nat) (v : Value) (W W' : World) (h : RLe B ao cap r best p c c6 c10 ix v W) (hb : Below W.heap.size W W') : RLe B ao cap r best p c c6 c10 ix v W' := by
  unfold RLe at *
  split at h <;> first | exact h | exact OI.below h hb

/-- What least leaves. -/
def Least1 (w : World) (p : Int) (best : List Int) (e : Ending) (w' : World) : Prop := ∃ vb, e = .returned (.tuple #[.int .i64 p, vb]) ∧ OI w' w.heap.size vb best ∧ Below w.heap.size w w'

set_option maxRecDepth 100000 in
set_option maxHeartbeats 4000000 in
theorem least_c (w : World) (D : Ad) (g : Gm) (n : Nat) (bf : List (List Int)) (al : List Bool) (lf wn : List Int) (vr : Value) (r : List Int) (hS : Sv w.heap.size w D g n bf al lf wn) (hG : GOK g n bf) (hr : IsInts w vr r) (hrr : ∀ x ∈ r, ∃ v : Nat, x = v ∧ v < n) (hrl : r.length ≤ 3000) :
    Calls Try.prog 45 #[.pointer (some ⟨D.sp, 0, none⟩), vr] w (Least1 w (leastP g r) (bestL g r)) := by
  have hmx : Try.prog.follows .mixedOrders = true := by kernel_rfl
  obtain ⟨⟨aor, capr, br, or_, rfl, gr⟩, -⟩ := id hr
  have HRI := Lib.hid hr
  have HGR := Lib.hid gr.el
  have HAd := Lib.hid gr.ad
  have hnr := gr.nb
  have HS := Lib.hid hS
  have HGO := Lib.hid hG
  have HRR := Lib.hid hrr
  have HR := Lib.hid (fun k (hk : k < r.length) => hrr r[k] (List.getElem_mem hk))
  clear hS hG hr hrr gr
  go_enter Try.func45, Try.ntmps45
  go_wp2
  go_loopg [8, 9, 14] r.length (fun gh _ _ i wr => ∃ k : Nat, gh = r.length - k ∧ i = .int .i64 k ∧ k ≤ r.length ∧ Hid (LX w wr D.sp (lowP g 0 (r.take k)) (lowP g 1 (r.take k))))
  case atStart => exact ⟨0, by omega, rfl, by omega, LX.start w D.sp _ _⟩
  case round =>
    obtain ⟨k, rfl, rfl, hk, HX⟩ := hrel
    have hS := HS.out.below HX.out.bl
    obtain ⟨x0, x1, x2, x3, x4⟩ := HX.out.cells
    by_cases hlt : k < r.length
    · obtain rfl := HAd.out (by omega)
      have e1 := cellB HX.out.bl (HGR.out k hlt)
      unfold ivF at e1
      rw [getD_lt _ _ _ hlt] at e1
      obtain ⟨v, hv, hvn⟩ := HR.out k hlt
      rw [hv] at e1
      have c1 := hS.field 1 rfl
      obtain ⟨⟨ao, co, bo, oo, hv0, gO⟩, -⟩ := (hS.fx wr (Only.refl _ _)).pr
      rw [HGO.out.pn] at hv0 gO
      obtain rfl := gO.ad (by omega)
      have e4 := gO.el v hvn
      have hnn := gO.nb
      unfold ivF at e4
      rw [hv0] at c1
      obtain ⟨p0, p1⟩ := HGO.out.pr v hvn
      have HN0 : Hid (lowP g 0 (r.take (k + 1)) = if g.prio.getD v 0 % 2 = 0 then min (lowP g 0 (r.take k)) (g.prio.getD v 0) else lowP g 0 (r.take k)) := by
        show _ = _; rw [List.take_succ_eq_append_getElem hlt, lowP_snoc, hv, Int.toNat_natCast]
      have HN1 : Hid (lowP g 1 (r.take (k + 1)) = if g.prio.getD v 0 % 2 = 1 then min (lowP g 1 (r.take k)) (g.prio.getD v 0) else lowP g 1 (r.take k)) := by
        show _ = _; rw [List.take_succ_eq_append_getElem hlt, lowP_snoc, hv, Int.toNat_natCast]
      clear hS gO hv0 hv
      generalize g.prio.getD v 0 = x at *
      generalize lowP g 0 (r.take k) = l0 at *
      generalize lowP g 1 (r.take k) = l1 at *
      have htm : x.tmod 2 = x % 2 := Int.tmod_eq_emod_of_nonneg p0
      rcases (by omega : x % 2 = 0 ∨ x % 2 = 1) with hp | hp
      · rw [hp] at htm
        rw [if_pos hp] at HN0
        rw [if_neg (by omega)] at HN1
        have HX2 := Lib.hid (HX.out.set0 (min l0 x))
        clear hp HX
        go_wp2
        all_goals
          go_roundg (r.length - (k + 1))
          case rel =>
            refine ⟨k + 1, rfl, by go_num, by omega, ?_⟩
            rw [HN0.out, HN1.out]
            have hX2 := HX2.out
            first | (rw [show min l0 x = x by omega] at hX2 ⊢; exact hX2) | (rw [show min l0 x = l0 by omega] at hX2 ⊢; exact hX2)
          case measure => omega
      · rw [hp] at htm
        rw [if_neg (by omega)] at HN0
        rw [if_pos hp] at HN1
        have HX2 := Lib.hid (HX.out.set1 (min l1 x))
        clear hp HX
        go_wp2
        all_goals
          go_roundg (r.length - (k + 1))
          case rel =>
            refine ⟨k + 1, rfl, by go_num, by omega, ?_⟩
            rw [HN0.out, HN1.out]
            have hX2 := HX2.out
            first | (rw [show min l1 x = x by omega] at hX2 ⊢; exact hX2) | (rw [show min l1 x = l1 by omega] at hX2 ⊢; exact hX2)
          case measure => omega
    · obtain rfl : k = r.length := by omega
      rw [List.take_length] at HX x1 x2
      obtain ⟨-, y1, y2, -, -⟩ := (HX.out.below (bel_box (Obj.cells #[.int .i64 0] 3))).cells
      by_cases hlt : lowP g 1 r < lowP g 0 r
      · have HP : Hid (leastP g r = 1) := by show _ = _; unfold leastP; rw [if_pos hlt]
        have HF : Hid (∀ x : Int, bestF g r x = decide (g.prio.getD x.toNat 0 < lowP g 0 r)) := fun x => by unfold bestF; rw [HP.out]; rfl
        generalize lowP g 0 r = l0 at *
        generalize lowP g 1 r = l1 at *
        go_upto_region 11 with (fail)
        have HC : Hid ((wr.alloc (.cells #[.int .i64 1] 3)).heap[wr.heap.size]? = some (.cells #[.int .i64 1] 3 (0, 0))) := heap_alloc_new wr _
        have HBw : Hid (Below wr.heap.size wr (wr.alloc (.cells #[.int .i64 1] 3))) := bel_box _
        have HX5 := Lib.hid (HX.out.below HBw.out)
        clear HX hS x0 x1 x2 x3 x4 y1 y2 hlt
        generalize wr.alloc (.cells #[.int .i64 1] 3) = W5 at *
        generalize wr.heap.size = c10 at *
        refine region_stable hmx (RLe w.heap.size aor capr r (bestL g r) 1 w.heap.size (w.heap.size + 1) c10) (fun vs => { tmps := (_ :: _ :: _ :: _ :: vs 4 :: vs 5 :: _ :: _ :: _ :: _ :: _ :: _ :: _ :: _ :: _ :: _ :: _ :: _ :: _ :: _ :: _ :: _ :: _ :: _ :: _ :: _ :: _ :: _ :: _ :: _ :: _ :: _ :: _ :: _ :: _ :: _ :: _ :: _ :: _ :: _ :: _ :: vs 0 :: vs 1 :: vs 2 :: vs 3 :: []).toArray, defers := [] }) (fun n => [undef, undef, undef, undef, .int .i64 0, .slice none 0 0].getD n undef) rfl (by kernel_rfl) (RLe.mono w.heap.size aor capr r (bestL g r) 1 w.heap.size (w.heap.size + 1) c10) ?step ?fin
        case step =>
          have HD : Hid (∀ W, Below W5.drew.heap.size W5.drew W → Below W5.heap.size W5 W) := fun W h => (Below.drew (Below.refl _ _)).trans h
          intro ix o ho
          match ix, ho with
          | 0, ho =>
            obtain rfl := Option.some.inj ho
            intro vs W K hB hD hK
            have HK := Lib.hid hK
            have e1 := cellB (HD.out W hB) (cell_of_row _ _ 0 _ _ _ HC.out)
            clear hK hD ho
            dsimp only
            go_simp
            have h := HK.out _ _ (Below.refl _ _) rfl
            simp only [upd, Nat.reduceEqDiff, reduceIte] at h
            exact h
          | 1, ho =>
            obtain rfl := Option.some.inj ho
            intro vs W K hB hD hK
            have HK := Lib.hid hK
            clear hK hD ho
            dsimp only
            go_simp
            have h := HK.out _ _ (Below.refl _ _) rfl
            simp only [upd, Nat.reduceEqDiff, reduceIte] at h
            exact h
          | 2, ho =>
            obtain rfl := Option.some.inj ho
            intro vs W K hB hD hK
            have HK := Lib.hid hK
            clear hK hD ho
            dsimp only
            go_simp
            have h := HK.out _ _ (Below.refl _ _) rfl
            simp only [upd, Nat.reduceEqDiff, reduceIte] at h
            exact h
          | 3, ho =>
            obtain rfl := Option.some.inj ho
            intro vs W K hB hD hK
            have HK := Lib.hid hK
            have e1 : vs 1 = .slice aor r.length capr := dep_of hD 1 (by rfl)
            have e2 : vs 2 = .func (.func 56) #[] #[.pointer (some ⟨w.heap.size, 0, none⟩), .pointer (some ⟨w.heap.size + 1, 0, none⟩), .pointer (some ⟨c10, 0, none⟩)] := dep_of hD 2 (by rfl)
            have hXW := HX5.out.below (HD.out W hB)
            have HCW := Lib.hid (cellB (HD.out W hB) (cell_of_row _ _ 0 _ _ _ HC.out))
            have HXW := Lib.hid hXW
            clear hK hD ho hXW
            dsimp only
            go_simp
            refine (keep_c W _ r _ _ (bestF g r) (HRI.out.below HXW.out.bl) (by omega) enters_low (fun W2 hW2 x hx => ?_)).mono ?_
            · obtain ⟨v, rfl, hv⟩ := HRR.out x hx
              obtain ⟨y0, y1, y2, -, -⟩ := (HXW.out.below hW2).cells
              rw [HF.out, Int.toNat_natCast]
              exact (low_c W2 ((HS.out.below (HXW.out.bl)).below hW2) HGO.out.pn _ _ _ v 1 l0 l1 y0 y1 y2 (cellB hW2 HCW.out) (.inr rfl) hv)
            · rintro e W' ⟨v, rfl, hv, hb⟩
              have h := HK.out _ _ hb (OI.down hv (HXW.out.bl.size))
              simp only [upd, Nat.reduceEqDiff, reduceIte, e1, e2] at h
              exact h
          | 4, ho =>
            obtain rfl := Option.some.inj ho
            intro vs W K hB hD hK
            have HK := Lib.hid hK
            have e0 : vs 0 = .int .i64 1 := dep_of hD 0 (by rfl)
            clear hK hD ho
            dsimp only
            go_simp
            have h := HK.out _ _ (Below.refl _ _) rfl
            simp only [upd, Nat.reduceEqDiff, reduceIte, e0] at h
            exact h
          | 5, ho =>
            obtain rfl := Option.some.inj ho
            intro vs W K hB hD hK
            have HK := Lib.hid hK
            have d3 : OI W w.heap.size (vs 3) (bestL g r) := dep_of hD 3 (by rfl)
            clear hK hD ho
            dsimp only
            go_simp
            have h := HK.out _ _ (Below.refl _ _) d3
            simp only [upd, Nat.reduceEqDiff, reduceIte] at h
            exact h
          | n + 6, ho => simp at ho
        case fin =>
          intro vs W3 hB hall
          have e4 : vs 4 = .int .i64 1 := hall 4 (by decide)
          have H5 : Hid (OI W3 w.heap.size (vs 5) (bestL g r)) := hall 5 (by decide)
          have hF := HX5.out.bl.trans (((Below.drew (Below.refl _ _)).trans hB).mono HX5.out.bl.size)
          clear hall hB
          rw [e4]
          clear e4
          generalize vs 0 = q0
          generalize vs 1 = q1
          generalize vs 2 = q2
          generalize vs 3 = q3
          generalize vs 5 = q5 at *
          clear vs
          go_wp2
          refine bodyPost_ret (v := .tuple #[.int .i64 1, q5]) (by simp [results, Try.results45, go_sem]) rfl ?_
          exact ⟨_, by rw [HP.out], H5.out, hF⟩
      · have HP : Hid (leastP g r = 0) := by show _ = _; unfold leastP; rw [if_neg hlt]
        have HF : Hid (∀ x : Int, bestF g r x = decide (g.prio.getD x.toNat 0 < lowP g 1 r)) := fun x => by unfold bestF; rw [HP.out]; rfl
        generalize lowP g 0 r = l0 at *
        generalize lowP g 1 r = l1 at *
        go_upto_region 11 with (fail)
        have HC : Hid ((wr.alloc (.cells #[.int .i64 0] 3)).heap[wr.heap.size]? = some (.cells #[.int .i64 0] 3 (0, 0))) := heap_alloc_new wr _
        have HBw : Hid (Below wr.heap.size wr (wr.alloc (.cells #[.int .i64 0] 3))) := bel_box _
        have HX5 := Lib.hid (HX.out.below HBw.out)
        clear HX hS x0 x1 x2 x3 x4 y1 y2 hlt
        generalize wr.alloc (.cells #[.int .i64 0] 3) = W5 at *
        generalize wr.heap.size = c10 at *
        refine region_stable hmx (RLe w.heap.size aor capr r (bestL g r) 0 w.heap.size (w.heap.size + 1) c10) (fun vs => { tmps := (_ :: _ :: _ :: _ :: vs 4 :: vs 5 :: _ :: _ :: _ :: _ :: _ :: _ :: _ :: _ :: _ :: _ :: _ :: _ :: _ :: _ :: _ :: _ :: _ :: _ :: _ :: _ :: _ :: _ :: _ :: _ :: _ :: _ :: _ :: _ :: _ :: _ :: _ :: _ :: _ :: _ :: _ :: vs 0 :: vs 1 :: vs 2 :: vs 3 :: []).toArray, defers := [] }) (fun n => [undef, undef, undef, undef, .int .i64 0, .slice none 0 0].getD n undef) rfl (by kernel_rfl) (RLe.mono w.heap.size aor capr r (bestL g r) 0 w.heap.size (w.heap.size + 1) c10) ?step ?fin
        case step =>
          have HD : Hid (∀ W, Below W5.drew.heap.size W5.drew W → Below W5.heap.size W5 W) := fun W h => (Below.drew (Below.refl _ _)).trans h
          intro ix o ho
          match ix, ho with
          | 0, ho =>
            obtain rfl := Option.some.inj ho
            intro vs W K hB hD hK
            have HK := Lib.hid hK
            have e1 := cellB (HD.out W hB) (cell_of_row _ _ 0 _ _ _ HC.out)
            clear hK hD ho
            dsimp only
            go_simp
            have h := HK.out _ _ (Below.refl _ _) rfl
            simp only [upd, Nat.reduceEqDiff, reduceIte] at h
            exact h
          | 1, ho =>
            obtain rfl := Option.some.inj ho
            intro vs W K hB hD hK
            have HK := Lib.hid hK
            clear hK hD ho
            dsimp only
            go_simp
            have h := HK.out _ _ (Below.refl _ _) rfl
            simp only [upd, Nat.reduceEqDiff, reduceIte] at h
            exact h
          | 2, ho =>
            obtain rfl := Option.some.inj ho
            intro vs W K hB hD hK
            have HK := Lib.hid hK
            clear hK hD ho
            dsimp only
            go_simp
            have h := HK.out _ _ (Below.refl _ _) rfl
            simp only [upd, Nat.reduceEqDiff, reduceIte] at h
            exact h
          | 3, ho =>
            obtain rfl := Option.some.inj ho
            intro vs W K hB hD hK
            have HK := Lib.hid hK
            have e1 : vs 1 = .slice aor r.length capr := dep_of hD 1 (by rfl)
            have e2 : vs 2 = .func (.func 56) #[] #[.pointer (some ⟨w.heap.size, 0, none⟩), .pointer (some ⟨w.heap.size + 1, 0, none⟩), .pointer (some ⟨c10, 0, none⟩)] := dep_of hD 2 (by rfl)
            have hXW := HX5.out.below (HD.out W hB)
            have HCW := Lib.hid (cellB (HD.out W hB) (cell_of_row _ _ 0 _ _ _ HC.out))
            have HXW := Lib.hid hXW
            clear hK hD ho hXW
            dsimp only
            go_simp
            refine (keep_c W _ r _ _ (bestF g r) (HRI.out.below HXW.out.bl) (by omega) enters_low (fun W2 hW2 x hx => ?_)).mono ?_
            · obtain ⟨v, rfl, hv⟩ := HRR.out x hx
              obtain ⟨y0, y1, y2, -, -⟩ := (HXW.out.below hW2).cells
              rw [HF.out, Int.toNat_natCast]
              exact (low_c W2 ((HS.out.below (HXW.out.bl)).below hW2) HGO.out.pn _ _ _ v 0 l0 l1 y0 y1 y2 (cellB hW2 HCW.out) (.inl rfl) hv)
            · rintro e W' ⟨v, rfl, hv, hb⟩
              have h := HK.out _ _ hb (OI.down hv (HXW.out.bl.size))
              simp only [upd, Nat.reduceEqDiff, reduceIte, e1, e2] at h
              exact h
          | 4, ho =>
            obtain rfl := Option.some.inj ho
            intro vs W K hB hD hK
            have HK := Lib.hid hK
            have e0 : vs 0 = .int .i64 0 := dep_of hD 0 (by rfl)
            clear hK hD ho
            dsimp only
            go_simp
            have h := HK.out _ _ (Below.refl _ _) rfl
            simp only [upd, Nat.reduceEqDiff, reduceIte, e0] at h
            exact h
          | 5, ho =>
            obtain rfl := Option.some.inj ho
            intro vs W K hB hD hK
            have HK := Lib.hid hK
            have d3 : OI W w.heap.size (vs 3) (bestL g r) := dep_of hD 3 (by rfl)
            clear hK hD ho
            dsimp only
            go_simp
            have h := HK.out _ _ (Below.refl _ _) d3
            simp only [upd, Nat.reduceEqDiff, reduceIte] at h
            exact h
          | n + 6, ho => simp at ho
        case fin =>
          intro vs W3 hB hall
          have e4 : vs 4 = .int .i64 0 := hall 4 (by decide)
          have H5 : Hid (OI W3 w.heap.size (vs 5) (bestL g r)) := hall 5 (by decide)
          have hF := HX5.out.bl.trans (((Below.drew (Below.refl _ _)).trans hB).mono HX5.out.bl.size)
          clear hall hB
          rw [e4]
          clear e4
          generalize vs 0 = q0
          generalize vs 1 = q1
          generalize vs 2 = q2
          generalize vs 3 = q3
          generalize vs 5 = q5 at *
          clear vs
          go_wp2
          refine bodyPost_ret (v := .tuple #[.int .i64 0, q5]) (by simp [results, Try.results45, go_sem]) rfl ?_
          exact ⟨_, by rw [HP.out], H5.out, hF⟩

end Go.Proofs.Ytjhafakkadnfmaa
