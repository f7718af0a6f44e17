/- Games: the two Valid, Small, Greatest, Swap, Part, Solve; slices; rows of one's own; drawn regions. -/
import Derived.Test.YtijkjhcigdfdgaaQRkCc
namespace Go.Proofs.Ytijkjhcigdfdgaa
open Go.RowKit
open Go Go.RowKit
open Go.RowKit Go.Maps Go.WideMaps

set_option maxHeartbeats 1000000 in
theorem other_c (W : World) {B : Nat} {D : Ad} {g : Gm} {n : Nat} {bf : List (List Int)} {al : List Bool} {lf wn : List Int} (hS : Sv B W D g n bf al lf wn) (c c6 v : Nat) (p : Int) (hc : W.cell? ⟨c, 0, none⟩ = some (.pointer (some ⟨D.sp, 0, none⟩))) (hp : W.cell? ⟨c6, 0, none⟩ = some (.int .i64 p)) (hv : v < n) :
    Calls Try.prog 69 #[.int .i64 (v : Int), .pointer (some ⟨c, 0, none⟩), .pointer (some ⟨c6, 0, none⟩)] W (Calm (.bool (wn.getD v 0 != p)) W) := by
  have c4 := hS.field 6 rfl
  obtain ⟨a1, -⟩ := hS.cellW hv
  clear hS
  generalize wn.getD v 0 = x at *
  go_enter Try.func69, Try.ntmps69
  go_wp2
  refine wp_region_quiet_lit (by kernel_rfl) (by kernel_rfl) ?_
  ((repeat (go_big_quiet_step (fail))); refine wpQuiet_nil ?_; rintro _ ⟨nq, rfl⟩)
  go_wp2
  go_ret
  exact ⟨rfl, below_draws _ _ _⟩

set_option maxHeartbeats 1000000 in
theorem low_c (W : World) {B : Nat} {D : Ad} {g : Gm} {n : Nat} {bf : List (List Int)} {al : List Bool} {lf wn : List Int} (hS : Sv B W D g n bf al lf wn) (hpn : g.prio.length = n) (c c6 c10 v : Nat) (p l0 l1 : Int) (hc : W.cell? ⟨c, 0, none⟩ = some (.pointer (some ⟨D.sp, 0, none⟩))) (h0 : W.cell? ⟨c6, 0, none⟩ = some (.int .i64 l0)) (h1 : W.cell? ⟨c6, 1, none⟩ = some (.int .i64 l1)) (hp : W.cell? ⟨c10, 0, none⟩ = some (.int .i64 p)) (hp01 : p = 0 ∨ p = 1) (hv : v < n) :
    Calls Try.prog 73 #[.int .i64 (v : Int), .pointer (some ⟨c, 0, none⟩), .pointer (some ⟨c6, 0, none⟩), .pointer (some ⟨c10, 0, none⟩)] W (Calm (.bool (decide (g.prio.getD v 0 < if p = 0 then l1 else l0))) W) := by
  have c1 := hS.field 1 rfl
  obtain ⟨⟨ao, co, bo, oo, hv0, gO⟩, -⟩ := (hS.fx W (Only.refl _ _)).pr
  rw [hpn] at hv0 gO
  obtain rfl := gO.ad (by omega)
  have e4 := gO.el v hv
  have hnn := gO.nb
  unfold ivF at e4
  rw [hv0] at c1
  clear hS gO hv0
  generalize g.prio.getD v 0 = x at *
  rcases hp01 with rfl | rfl
  · rw [if_pos rfl]
    go_enter Try.func73, Try.ntmps73
    go_wp2
    refine wp_region_quiet_lit (by kernel_rfl) (by kernel_rfl) ?_
    ((repeat (go_big_quiet_step (fail))); refine wpQuiet_nil ?_; rintro _ ⟨nq, rfl⟩)
    go_wp2
    go_ret
    exact ⟨rfl, below_draws _ _ _⟩
  · rw [if_neg (by decide)]
    go_enter Try.func73, Try.ntmps73
    go_wp2
    refine wp_region_quiet_lit (by kernel_rfl) (by kernel_rfl) ?_
    ((repeat (go_big_quiet_step (fail))); refine wpQuiet_nil ?_; rintro _ ⟨nq, rfl⟩)
    go_wp2
    go_ret
    exact ⟨rfl, below_draws _ _ _⟩

def lowP (g : Gm) (par : Int) (l : List Int) : Int := l.foldl (fun m v => if g.prio.getD v.toNat 0 % 2 = par then min m (g.prio.getD v.toNat 0) else m) 9223372036854775807

theorem lowP_snoc (g : Gm) (par : Int) (l : List Int) (v : Int) : lowP g par (l ++ [v]) = if g.prio.getD v.toNat 0 % 2 = par then min (lowP g par l) (g.prio.getD v.toNat 0) else lowP g par l := by simp [lowP]

def leastP (g : Gm) (r : List Int) : Int := if lowP g 1 r < lowP g 0 r then 1 else 0

def bestF (g : Gm) (r : List Int) (x : Int) : Bool := decide (g.prio.getD x.toNat 0 < if leastP g r = 0 then lowP g 1 r else lowP g 0 r)

def bestL (g : Gm) (r : List Int) : List Int := r.filter (bestF g r)

/-- The boxes of least. -/
structure LX (w W : World) (sp : Nat) (l0 l1 : Int) : Prop where
  bl : Below w.heap.size w W
  bs : W.heap[w.heap.size]? = some (.cells #[.pointer (some ⟨sp, 0, none⟩)] 68 (0, 0))
  ba : W.heap[w.heap.size + 1]? = some (.cells #[.int .i64 l0, .int .i64 l1] 96 (0, 0))

theorem LX.set0 {w W : World} {sp : Nat} {l0 l1 : Int} (h : LX w W sp l0 l1) (x : Int) : LX w (W.setCell ⟨w.heap.size + 1, 0, none⟩ (.int .i64 x)) sp x l1 :=
  ⟨h.bl.setCell (by show w.heap.size ≤ w.heap.size + 1; omega) _, by rw [heap_setCell_other _ _ _ _ (by simp)]; exact h.bs, heap_setCell_same W _ 0 _ _ _ h.ba⟩

theorem LX.set1 {w W : World} {sp : Nat} {l0 l1 : Int} (h : LX w W sp l0 l1) (x : Int) : LX w (W.setCell ⟨w.heap.size + 1, 1, none⟩ (.int .i64 x)) sp l0 x :=
  ⟨h.bl.setCell (by show w.heap.size ≤ w.heap.size + 1; omega) _, by rw [heap_setCell_other _ _ _ _ (by simp)]; exact h.bs, heap_setCell_same W _ 1 _ _ _ h.ba⟩

theorem LX.start (w : World) (sp : Nat) (l0 l1 : Int) : LX w ((w.alloc (.cells #[.pointer (some ⟨sp, 0, none⟩)] 68)).alloc (.cells #[.int .i64 l0, .int .i64 l1] 96)) sp l0 l1 := by
  have h1 := bel_box (w := w) (Obj.cells #[.pointer (some ⟨sp, 0, none⟩)] 68)
  have h2 := bel_box (w := w.alloc (Obj.cells #[.pointer (some ⟨sp, 0, none⟩)] 68)) (Obj.cells #[.int .i64 l0, .int .i64 l1] 96)
  refine ⟨h1.trans (h2.mono h1.size), (h2.block _ (by simp)).trans (heap_alloc_new w _), ?_⟩
  have := heap_alloc_new (w.alloc (Obj.cells #[.pointer (some ⟨sp, 0, none⟩)] 68)) (Obj.cells #[.int .i64 l0, .int .i64 l1] 96)
  rwa [World.size_alloc] at this

theorem OI.down {W : World} {base base' : Nat} {v : Value} {l : List Int} (h : OI W base v l) (hb : base' ≤ base) : OI W base' v l :=
  ⟨h.1, h.2.imp_right fun ⟨g0, cap, cur, e, h1, h2⟩ => ⟨g0, cap, cur, e, Nat.le_trans hb h1, h2⟩⟩

theorem LX.cells {w W : World} {sp : Nat} {l0 l1 : Int} (h : LX w W sp l0 l1) : W.cell? ⟨w.heap.size, 0, none⟩ = some (.pointer (some ⟨sp, 0, none⟩)) ∧ W.cell? ⟨w.heap.size + 1, 0, none⟩ = some (.int .i64 l0) ∧ W.cell? ⟨w.heap.size + 1, 1, none⟩ = some (.int .i64 l1) ∧ W.frozen? ⟨w.heap.size + 1, 0, none⟩ = false ∧ W.frozen? ⟨w.heap.size + 1, 1, none⟩ = false :=
  ⟨cell_of_row _ _ 0 _ _ _ h.bs, cell_of_row _ _ 0 _ _ _ h.ba, cell_of_row _ _ 1 _ _ _ h.ba, frozen_of_row _ _ 0 _ _ h.ba, frozen_of_row _ _ 1 _ _ h.ba⟩

theorem LX.below {w W W' : World} {sp : Nat} {l0 l1 : Int} (h : LX w W sp l0 l1) (hb : Below W.heap.size W W') : LX w W' sp l0 l1 := by
  have h1 := (Array.getElem?_eq_some_iff.1 h.bs).1
  have h2 := (Array.getElem?_eq_some_iff.1 h.ba).1
  exact ⟨h.bl.trans (hb.mono h.bl.size), (hb.block _ h1).trans h.bs, (hb.block _ h2).trans h.ba⟩

/-- What the operations of the last statement leave. -/
def RLe (B : Nat) (ao : Option Addr) (cap : Nat) (r best : List Int) (p : Int) (c c6 c10 : Nat) (ix : Nat) (v : Value) (W : World) : Prop :=
  match ix with
  | 0 => v = .int .i64 p
  | 1 => v = .slice ao r.length cap
  | 2 => v = .func (.func 73) #[] #[.pointer (some ⟨c, 0, none⟩), .pointer (some ⟨c6, 0, none⟩), .pointer (some ⟨c10, 0, none⟩)]
  | 3 => OI W B v best
  | 4 => v = .int .i64 p
  | 5 => OI W B v best
  | _ => True

theorem RLe.mono (B : Nat) (ao : Option Addr) (cap : Nat) (r best : List Int) (p : Int) (c c6 c10 : Nat) (ix : Nat) (v : Value) (W W' : World) (h : RLe B ao cap r best p c c6 c10 ix v W) (hb : Below W.heap.size W W') : RLe B ao cap r best p c c6 c10 ix v W' := by
  unfold RLe at *
  split at h <;> first | exact h | exact OI.below h hb

/-- What least leaves. -/
def Least1 (w : World) (p : Int) (best : List Int) (e : Ending) (w' : World) : Prop := ∃ vb, e = .returned (.tuple #[.int .i64 p, vb]) ∧ OI w' w.heap.size vb best ∧ Below w.heap.size w w'

set_option maxRecDepth 100000 in
set_option maxHeartbeats 4000000 in
theorem least_c (w : World) (D : Ad) (g : Gm) (n : Nat) (bf : List (List Int)) (al : List Bool) (lf wn : List Int) (vr : Value) (r : List Int) (hS : Sv w.heap.size w D g n bf al lf wn) (hG : GOK g n bf) (hr : IsInts w vr r) (hrr : ∀ x ∈ r, ∃ v : Nat, x = v ∧ v < n) (hrl : r.length ≤ 3000) :
    Calls Try.prog 64 #[.pointer (some ⟨D.sp, 0, none⟩), vr] w (Least1 w (leastP g r) (bestL g r)) := by
  have hmx : Try.prog.follows .mixedOrders = true := by kernel_rfl
  obtain ⟨⟨aor, capr, br, or_, rfl, gr⟩, -⟩ := id hr
  have HRI := Lib.hid hr
  have HGR := Lib.hid gr.el
  have HAd := Lib.hid gr.ad
  have hnr := gr.nb
  have HS := Lib.hid hS
  have HGO := Lib.hid hG
  have HRR := Lib.hid hrr
  have HR := Lib.hid (fun k (hk : k < r.length) => hrr r[k] (List.getElem_mem hk))
  clear hS hG hr hrr gr
  go_enter Try.func64, Try.ntmps64
  go_wp2
  go_loopg [8, 9, 14] r.length (fun gh _ _ i wr => ∃ k : Nat, gh = r.length - k ∧ i = .int .i64 k ∧ k ≤ r.length ∧ Hid (LX w wr D.sp (lowP g 0 (r.take k)) (lowP g 1 (r.take k))))
  case atStart => exact ⟨0, by omega, rfl, by omega, LX.start w D.sp _ _⟩
  case round =>
    obtain ⟨k, rfl, rfl, hk, HX⟩ := hrel
    have hS := HS.out.below HX.out.bl
    obtain ⟨x0, x1, x2, x3, x4⟩ := HX.out.cells
    by_cases hlt : k < r.length
    · obtain rfl := HAd.out (by omega)
      have e1 := cellB HX.out.bl (HGR.out k hlt)
      unfold ivF at e1
      rw [getD_lt _ _ _ hlt] at e1
      obtain ⟨v, hv, hvn⟩ := HR.out k hlt
      rw [hv] at e1
      have c1 := hS.field 1 rfl
      obtain ⟨⟨ao, co, bo, oo, hv0, gO⟩, -⟩ := (hS.fx wr (Only.refl _ _)).pr
      rw [HGO.out.pn] at hv0 gO
      obtain rfl := gO.ad (by omega)
      have e4 := gO.el v hvn
      have hnn := gO.nb
      unfold ivF at e4
      rw [hv0] at c1
      obtain ⟨p0, p1⟩ := HGO.out.pr v hvn
      have HN0 : Hid (lowP g 0 (r.take (k + 1)) = if g.prio.getD v 0 % 2 = 0 then min (lowP g 0 (r.take k)) (g.prio.getD v 0) else lowP g 0 (r.take k)) := by
        show _ = _; rw [List.take_succ_eq_append_getElem hlt, lowP_snoc, hv, Int.toNat_natCast]
      have HN1 : Hid (lowP g 1 (r.take (k + 1)) = if g.prio.getD v 0 % 2 = 1 then min (lowP g 1 (r.take k)) (g.prio.getD v 0) else lowP g 1 (r.take k)) := by
        show _ = _; rw [List.take_succ_eq_append_getElem hlt, lowP_snoc, hv, Int.toNat_natCast]
      clear hS gO hv0 hv
      generalize g.prio.getD v 0 = x at *
      generalize lowP g 0 (r.take k) = l0 at *
      generalize lowP g 1 (r.take k) = l1 at *
      have htm : x.tmod 2 = x % 2 := Int.tmod_eq_emod_of_nonneg p0
      rcases (by omega : x % 2 = 0 ∨ x % 2 = 1) with hp | hp
      · rw [hp] at htm
        rw [if_pos hp] at HN0
        rw [if_neg (by omega)] at HN1
        have HX2 := Lib.hid (HX.out.set0 (min l0 x))
        clear hp HX
        go_wp2
        all_goals
          go_roundg (r.length - (k + 1))
          case rel =>
            refine ⟨k + 1, rfl, by go_num, by omega, ?_⟩
            rw [HN0.out, HN1.out]
            have hX2 := HX2.out
            first | (rw [show min l0 x = x by omega] at hX2 ⊢; exact hX2) | (rw [show min l0 x = l0 by omega] at hX2 ⊢; exact hX2)
          case measure => omega
      · rw [hp] at htm
        rw [if_neg (by omega)] at HN0
        rw [if_pos hp] at HN1
        have HX2 := Lib.hid (HX.out.set1 (min l1 x))
        clear hp HX
        go_wp2
        all_goals
          go_roundg (r.length - (k + 1))
          case rel =>
            refine ⟨k + 1, rfl, by go_num, by omega, ?_⟩
            rw [HN0.out, HN1.out]
            have hX2 := HX2.out
            first | (rw [show min l1 x = x by omega] at hX2 ⊢; exact hX2) | (rw [show min l1 x = l1 by omega] at hX2 ⊢; exact hX2)
          case measure => omega
    · obtain rfl : k = r.length := by omega
      rw [List.take_length] at HX x1 x2
      obtain ⟨-, y1, y2, -, -⟩ := (HX.out.below (bel_box (Obj.cells #[.int .i64 0] 3))).cells
      by_cases hlt : lowP g 1 r < lowP g 0 r
      · have HP : Hid (leastP g r = 1) := by show _ = _; unfold leastP; rw [if_pos hlt]
        have HF : Hid (∀ x : Int, bestF g r x = decide (g.prio.getD x.toNat 0 < lowP g 0 r)) := fun x => by unfold bestF; rw [HP.out]; rfl
        generalize lowP g 0 r = l0 at *
        generalize lowP g 1 r = l1 at *
        go_upto_region 11 with (fail)
        have HC : Hid ((wr.alloc (.cells #[.int .i64 1] 3)).heap[wr.heap.size]? = some (.cells #[.int .i64 1] 3 (0, 0))) := heap_alloc_new wr _
        have HBw : Hid (Below wr.heap.size wr (wr.alloc (.cells #[.int .i64 1] 3))) := bel_box _
        have HX5 := Lib.hid (HX.out.below HBw.out)
        clear HX hS x0 x1 x2 x3 x4 y1 y2 hlt
        generalize wr.alloc (.cells #[.int .i64 1] 3) = W5 at *
        generalize wr.heap.size = c10 at *
        refine region_stable hmx (RLe w.heap.size aor capr r (bestL g r) 1 w.heap.size (w.heap.size + 1) c10) (fun vs => { tmps := (_ :: _ :: _ :: _ :: vs 4 :: vs 5 :: _ :: _ :: _ :: _ :: _ :: _ :: _ :: _ :: _ :: _ :: _ :: _ :: _ :: _ :: _ :: _ :: _ :: _ :: _ :: _ :: _ :: _ :: _ :: _ :: _ :: _ :: _ :: _ :: _ :: _ :: _ :: _ :: _ :: _ :: _ :: vs 0 :: vs 1 :: vs 2 :: vs 3 :: []).toArray, defers := [] }) (fun n => [undef, undef, undef, undef, .int .i64 0, .slice none 0 0].getD n undef) rfl (by kernel_rfl) (RLe.mono w.heap.size aor capr r (bestL g r) 1 w.heap.size (w.heap.size + 1) c10) ?step ?fin
        case step =>
          have HD : Hid (∀ W, Below W5.drew.heap.size W5.drew W → Below W5.heap.size W5 W) := fun W h => (Below.drew (Below.refl _ _)).trans h
          intro ix o ho
          match ix, ho with
          | 0, ho =>
            obtain rfl := Option.some.inj ho
            intro vs W K hB hD hK
            have HK := Lib.hid hK
            have e1 := cellB (HD.out W hB) (cell_of_row _ _ 0 _ _ _ HC.out)
            clear hK hD ho
            dsimp only
            go_simp
            have h := HK.out _ _ (Below.refl _ _) rfl
            simp only [upd, Nat.reduceEqDiff, reduceIte] at h
            exact h
          | 1, ho =>
            obtain rfl := Option.some.inj ho
            intro vs W K hB hD hK
            have HK := Lib.hid hK
            clear hK hD ho
            dsimp only
            go_simp
            have h := HK.out _ _ (Below.refl _ _) rfl
            simp only [upd, Nat.reduceEqDiff, reduceIte] at h
            exact h
          | 2, ho =>
            obtain rfl := Option.some.inj ho
            intro vs W K hB hD hK
            have HK := Lib.hid hK
            clear hK hD ho
            dsimp only
            go_simp
            have h := HK.out _ _ (Below.refl _ _) rfl
            simp only [upd, Nat.reduceEqDiff, reduceIte] at h
            exact h
          | 3, ho =>
            obtain rfl := Option.some.inj ho
            intro vs W K hB hD hK
            have HK := Lib.hid hK
            have e1 : vs 1 = .slice aor r.length capr := dep_of hD 1 (by rfl)
            have e2 : vs 2 = .func (.func 73) #[] #[.pointer (some ⟨w.heap.size, 0, none⟩), .pointer (some ⟨w.heap.size + 1, 0, none⟩), .pointer (some ⟨c10, 0, none⟩)] := dep_of hD 2 (by rfl)
            have hXW := HX5.out.below (HD.out W hB)
            have HCW := Lib.hid (cellB (HD.out W hB) (cell_of_row _ _ 0 _ _ _ HC.out))
            have HXW := Lib.hid hXW
            clear hK hD ho hXW
            dsimp only
            go_simp
            refine (keep_c W _ r _ _ (bestF g r) (HRI.out.below HXW.out.bl) (by omega) enters_low (fun W2 hW2 x hx => ?_)).mono ?_
            · obtain ⟨v, rfl, hv⟩ := HRR.out x hx
              obtain ⟨y0, y1, y2, -, -⟩ := (HXW.out.below hW2).cells
              rw [HF.out, Int.toNat_natCast]
              exact (low_c W2 ((HS.out.below (HXW.out.bl)).below hW2) HGO.out.pn _ _ _ v 1 l0 l1 y0 y1 y2 (cellB hW2 HCW.out) (.inr rfl) hv)
            · rintro e W' ⟨v, rfl, hv, hb⟩
              have h := HK.out _ _ hb (OI.down hv (HXW.out.bl.size))
              simp only [upd, Nat.reduceEqDiff, reduceIte, e1, e2] at h
              exact h
          | 4, ho =>
            obtain rfl := Option.some.inj ho
            intro vs W K hB hD hK
            have HK := Lib.hid hK
            have e0 : vs 0 = .int .i64 1 := dep_of hD 0 (by rfl)
            clear hK hD ho
            dsimp only
            go_simp
            have h := HK.out _ _ (Below.refl _ _) rfl
            simp only [upd, Nat.reduceEqDiff, reduceIte, e0] at h
            exact h
          | 5, ho =>
            obtain rfl := Option.some.inj ho
            intro vs W K hB hD hK
            have HK := Lib.hid hK
            have d3 : OI W w.heap.size (vs 3) (bestL g r) := dep_of hD 3 (by rfl)
            clear hK hD ho
            dsimp only
            go_simp
            have h := HK.out _ _ (Below.refl _ _) d3
            simp only [upd, Nat.reduceEqDiff, reduceIte] at h
            exact h
          | n + 6, ho => simp at ho
        case fin =>
          intro vs W3 hB hall
          have e4 : vs 4 = .int .i64 1 := hall 4 (by decide)
          have H5 : Hid (OI W3 w.heap.size (vs 5) (bestL g r)) := hall 5 (by decide)
          have hF := HX5.out.bl.trans (((Below.drew (Below.refl _ _)).trans hB).mono HX5.out.bl.size)
          clear hall hB
          rw [e4]
          clear e4
          generalize vs 0 = q0
          generalize vs 1 = q1
          generalize vs 2 = q2
          generalize vs 3 = q3
          generalize vs 5 = q5 at *
          clear vs
          go_wp2
          refine bodyPost_ret (v := .tuple #[.int .i64 1, q5]) (by simp [results, Try.results64, go_sem]) rfl ?_
          exact ⟨_, by rw [HP.out], H5.out, hF⟩
      · have HP : Hid (leastP g r = 0) := by show _ = _; unfold leastP; rw [if_neg hlt]
        have HF : Hid (∀ x : Int, bestF g r x = decide (g.prio.getD x.toNat 0 < lowP g 1 r)) := fun x => by unfold bestF; rw [HP.out]; rfl
        generalize lowP g 0 r = l0 at *
        generalize lowP g 1 r = l1 at *
        go_upto_region 11 with (fail)
        have HC : Hid ((wr.alloc (.cells #[.int .i64 0] 3)).heap[wr.heap.size]? = some (.cells #[.int .i64 0] 3 (0, 0))) := heap_alloc_new wr _
        have HBw : Hid (Below wr.heap.size wr (wr.alloc (.cells #[.int .i64 0] 3))) := bel_box _
        have HX5 := Lib.hid (HX.out.below HBw.out)
        clear HX hS x0 x1 x2 x3 x4 y1 y2 hlt
        generalize wr.alloc (.cells #[.int .i64 0] 3) = W5 at *
        generalize wr.heap.size = c10 at *
        refine region_stable hmx (RLe w.heap.size aor capr r (bestL g r) 0 w.heap.size (w.heap.size + 1) c10) (fun vs => { tmps := (_ :: _ :: _ :: _ :: vs 4 :: vs 5 :: _ :: _ :: _ :: _ :: _ :: _ :: _ :: _ :: _ :: _ :: _ :: _ :: _ :: _ :: _ :: _ :: _ :: _ :: _ :: _ :: _ :: _ :: _ :: _ :: _ :: _ :: _ :: _ :: _ :: _ :: _ :: _ :: _ :: _ :: _ :: vs 0 :: vs 1 :: vs 2 :: vs 3 :: []).toArray, defers := [] }) (fun n => [undef, undef, undef, undef, .int .i64 0, .slice none 0 0].getD n undef) rfl (by kernel_rfl) (RLe.mono w.heap.size aor capr r (bestL g r) 0 w.heap.size (w.heap.size + 1) c10) ?step ?fin
        case step =>
          have HD : Hid (∀ W, Below W5.drew.heap.size W5.drew W → Below W5.heap.size W5 W) := fun W h => (Below.drew (Below.refl _ _)).trans h
          intro ix o ho
          match ix, ho with
          | 0, ho =>
            obtain rfl := Option.some.inj ho
            intro vs W K hB hD hK
            have HK := Lib.hid hK
            have e1 := cellB (HD.out W hB) (cell_of_row _ _ 0 _ _ _ HC.out)
            clear hK hD ho
            dsimp only
            go_simp
            have h := HK.out _ _ (Below.refl _ _) rfl
            simp only [upd, Nat.reduceEqDiff, reduceIte] at h
            exact h
          | 1, ho =>
            obtain rfl := Option.some.inj ho
            intro vs W K hB hD hK
            have HK := Lib.hid hK
            clear hK hD ho
            dsimp only
            go_simp
            have h := HK.out _ _ (Below.refl _ _) rfl
            simp only [upd, Nat.reduceEqDiff, reduceIte] at h
            exact h
          | 2, ho =>
            obtain rfl := Option.some.inj ho
            intro vs W K hB hD hK
            have HK := Lib.hid hK
            clear hK hD ho
            dsimp only
            go_simp
            have h := HK.out _ _ (Below.refl _ _) rfl
            simp only [upd, Nat.reduceEqDiff, reduceIte] at h
            exact h
          | 3, ho =>
            obtain rfl := Option.some.inj ho
            intro vs W K hB hD hK
            have HK := Lib.hid hK
            have e1 : vs 1 = .slice aor r.length capr := dep_of hD 1 (by rfl)
            have e2 : vs 2 = .func (.func 73) #[] #[.pointer (some ⟨w.heap.size, 0, none⟩), .pointer (some ⟨w.heap.size + 1, 0, none⟩), .pointer (some ⟨c10, 0, none⟩)] := dep_of hD 2 (by rfl)
            have hXW := HX5.out.below (HD.out W hB)
            have HCW := Lib.hid (cellB (HD.out W hB) (cell_of_row _ _ 0 _ _ _ HC.out))
            have HXW := Lib.hid hXW
            clear hK hD ho hXW
            dsimp only
            go_simp
            refine (keep_c W _ r _ _ (bestF g r) (HRI.out.below HXW.out.bl) (by omega) enters_low (fun W2 hW2 x hx => ?_)).mono ?_
            · obtain ⟨v, rfl, hv⟩ := HRR.out x hx
              obtain ⟨y0, y1, y2, -, -⟩ := (HXW.out.below hW2).cells
              rw [HF.out, Int.toNat_natCast]
              exact (low_c W2 ((HS.out.below (HXW.out.bl)).below hW2) HGO.out.pn _ _ _ v 0 l0 l1 y0 y1 y2 (cellB hW2 HCW.out) (.inl rfl) hv)
            · rintro e W' ⟨v, rfl, hv, hb⟩
              have h := HK.out _ _ hb (OI.down hv (HXW.out.bl.size))
              simp only [upd, Nat.reduceEqDiff, reduceIte, e1, e2] at h
              exact h
          | 4, ho =>
            obtain rfl := Option.some.inj ho
            intro vs W K hB hD hK
            have HK := Lib.hid hK
            have e0 : vs 0 = .int .i64 0 := dep_of hD 0 (by rfl)
            clear hK hD ho
            dsimp only
            go_simp
            have h := HK.out _ _ (Below.refl _ _) rfl
            simp only [upd, Nat.reduceEqDiff, reduceIte, e0] at h
            exact h
          | 5, ho =>
            obtain rfl := Option.some.inj ho
            intro vs W K hB hD hK
            have HK := Lib.hid hK
            have d3 : OI W w.heap.size (vs 3) (bestL g r) := dep_of hD 3 (by rfl)
            clear hK hD ho
            dsimp only
            go_simp
            have h := HK.out _ _ (Below.refl _ _) d3
            simp only [upd, Nat.reduceEqDiff, reduceIte] at h
            exact h
          | n + 6, ho => simp at ho
        case fin =>
          intro vs W3 hB hall
          have e4 : vs 4 = .int .i64 0 := hall 4 (by decide)
          have H5 : Hid (OI W3 w.heap.size (vs 5) (bestL g r)) := hall 5 (by decide)
          have hF := HX5.out.bl.trans (((Below.drew (Below.refl _ _)).trans hB).mono HX5.out.bl.size)
          clear hall hB
          rw [e4]
          clear e4
          generalize vs 0 = q0
          generalize vs 1 = q1
          generalize vs 2 = q2
          generalize vs 3 = q3
          generalize vs 5 = q5 at *
          clear vs
          go_wp2
          refine bodyPost_ret (v := .tuple #[.int .i64 0, q5]) (by simp [results, Try.results64, go_sem]) rfl ?_
          exact ⟨_, by rw [HP.out], H5.out, hF⟩

theorem listSnoc {motive : List Int → Prop} (nil : motive []) (snoc : ∀ l x, motive l → motive (l ++ [x])) (l : List Int) : motive l := by
  have : ∀ k (l : List Int), l.length = k → motive l := by
    intro k
    induction k with
    | zero => intro l hl; rw [List.eq_nil_of_length_eq_zero hl]; exact nil
    | succ k ih =>
      intro l hl
      have hne : l ≠ [] := fun e => by rw [e] at hl; cases hl
      rw [← List.dropLast_concat_getLast hne]
      exact snoc _ _ (ih _ (by rw [List.length_dropLast]; omega))
  exact this l.length l rfl

section
variable {g : Gm} {n : Nat} {bf : List (List Int)} {al : List Bool} {lf : List Int} {p : Int} {t : List Int} {st : Wk}
/-! The best positions. -/

theorem lowP_le (par : Int) : ∀ (r : List Int) (x : Int), x ∈ r → g.prio.getD x.toNat 0 % 2 = par → lowP g par r ≤ g.prio.getD x.toNat 0 := by
  intro r
  induction r using listSnoc with
  | nil => intro x hx; cases hx
  | snoc r v ih =>
    intro x hx hp
    rw [lowP_snoc]
    rcases List.mem_append.1 hx with h | h
    · have := ih x h hp
      split <;> omega
    · obtain rfl := List.mem_singleton.1 h
      rw [if_pos hp]; omega
end

section
variable {g : Gm} {n : Nat} {bf : List (List Int)} {al : List Bool} {lf : List Int} {p : Int} {t : List Int} {st : Wk}
theorem lowP_is (par : Int) : ∀ (r : List Int), lowP g par r = 9223372036854775807 ∨ ∃ x ∈ r, g.prio.getD x.toNat 0 % 2 = par ∧ lowP g par r = g.prio.getD x.toNat 0 := by
  intro r
  induction r using listSnoc with
  | nil => exact .inl rfl
  | snoc r v ih =>
    rw [lowP_snoc]
    by_cases hp : g.prio.getD v.toNat 0 % 2 = par
    · rw [if_pos hp]
      rcases (by omega : min (lowP g par r) (g.prio.getD v.toNat 0) = g.prio.getD v.toNat 0 ∨ min (lowP g par r) (g.prio.getD v.toNat 0) = lowP g par r) with h | h
      · exact .inr ⟨v, by simp, hp, h⟩
      · rw [h]
        rcases ih with h' | ⟨x, h1, h2, h3⟩
        · exact .inl h'
        · exact .inr ⟨x, by simp [h1], h2, h3⟩
    · rw [if_neg hp]
      rcases ih with h' | ⟨x, h1, h2, h3⟩
      · exact .inl h'
      · exact .inr ⟨x, by simp [h1], h2, h3⟩
end

section
variable {g : Gm} {n : Nat} {bf : List (List Int)} {al : List Bool} {lf : List Int} {p : Int} {t : List Int} {st : Wk}
theorem leastP_two (r : List Int) : leastP g r = 0 ∨ leastP g r = 1 := by unfold leastP; split <;> simp
end

section
variable {g : Gm} {n : Nat} {bf : List (List Int)} {al : List Bool} {lf : List Int} {p : Int} {t : List Int} {st : Wk}
theorem best_sub {r : List Int} {x : Int} (h : x ∈ bestL g r) : x ∈ r := (List.mem_filter.1 h).1
end

section
variable {g : Gm} {n : Nat} {bf : List (List Int)} {al : List Bool} {lf : List Int} {p : Int} {t : List Int} {st : Wk}
theorem best_low {r : List Int} {x : Int} (h : x ∈ bestL g r) {y : Int} (hy : y ∈ r) (hl : Lost (leastP g r) (g.prio.getD y.toNat 0)) : g.prio.getD x.toNat 0 < g.prio.getD y.toNat 0 := by
  have h1 := (List.mem_filter.1 h).2
  simp only [bestF, decide_eq_true_eq] at h1
  unfold Lost at hl
  rcases leastP_two (g := g) r with e | e
  · rw [e] at h1 hl
    rw [if_pos rfl] at h1
    have := lowP_le (g := g) 1 r y hy (by omega)
    omega
  · rw [e] at h1 hl
    rw [if_neg (by decide)] at h1
    have := lowP_le (g := g) 0 r y hy (by omega)
    omega
end

section
variable {g : Gm} {n : Nat} {bf : List (List Int)} {al : List Bool} {lf : List Int} {p : Int} {t : List Int} {st : Wk}
theorem best_ne {r : List Int} (hr : r ≠ []) (hp : ∀ x ∈ r, 0 ≤ g.prio.getD x.toNat 0 ∧ g.prio.getD x.toNat 0 ≤ 30000) : ∃ x, x ∈ bestL g r := by
  obtain ⟨y, hy⟩ := List.exists_mem_of_ne_nil r hr
  have hyp := hp y hy
  have l0 := lowP_le (g := g) 0 r y hy
  have l1 := lowP_le (g := g) 1 r y hy
  by_cases hlt : lowP g 1 r < lowP g 0 r
  · have e : leastP g r = 1 := if_pos hlt
    rcases lowP_is (g := g) 1 r with h | ⟨x, h1, h2, h3⟩
    · rcases lowP_is (g := g) 0 r with h' | ⟨z, k1, k2, k3⟩
      · omega
      · have := hp z k1; omega
    · refine ⟨x, List.mem_filter.2 ⟨h1, ?_⟩⟩
      simp only [bestF, e, decide_eq_true_eq]
      rw [if_neg (by decide)]; omega
  · have e : leastP g r = 0 := if_neg hlt
    rcases lowP_is (g := g) 0 r with h | ⟨x, h1, h2, h3⟩
    · rcases (by omega : g.prio.getD y.toNat 0 % 2 = 0 ∨ g.prio.getD y.toNat 0 % 2 = 1) with hh | hh
      · have := l0 hh; omega
      · have := l1 hh; omega
    · refine ⟨x, List.mem_filter.2 ⟨h1, ?_⟩⟩
      simp only [bestF, e, decide_eq_true_eq, if_true]
      rcases lowP_is (g := g) 1 r with h' | ⟨z, k1, k2, k3⟩
      · have := hp x h1; omega
      · omega
end

section
variable {g : Gm} {n : Nat} {bf : List (List Int)} {al : List Bool} {lf : List Int} {p : Int} {t : List Int} {st : Wk}
/-! What attract leaves. -/

def setOf (al : List Bool) (i : Nat) : Prop := al.getD i false = true
end

section
variable {g : Gm} {n : Nat} {bf : List (List Int)} {al : List Bool} {lf : List Int} {p : Int} {t : List Int} {st : Wk}
def memOf (l : List Int) (i : Nat) : Prop := (i : Int) ∈ l
end

section
variable {g : Gm} {n : Nat} {bf : List (List Int)} {al : List Bool} {lf : List Int} {p : Int} {t : List Int} {st : Wk}
theorem TotB.total (hG : GOK g n bf) (hl : al.length = n) (h : TotB g n al) : Total g (setOf al) := fun i hi => by
  have hin : i < n := by
    rcases Nat.lt_or_ge i n with h | h
    · exact h
    · simp [setOf, List.getD, List.getElem?_eq_none (by omega : al.length ≤ i)] at hi
  obtain ⟨x, hx, hs⟩ := h i hin hi
  obtain ⟨v, rfl, hv⟩ := hG.rg i hin x hx
  exact ⟨v, hx, hs⟩
end

section
variable {g : Gm} {n : Nat} {bf : List (List Int)} {al : List Bool} {lf : List Int} {p : Int} {t : List Int} {st : Wk}
theorem Total.totB (h : Total g (setOf al)) : TotB g n al := fun v hv hal => by
  obtain ⟨j, h1, h2⟩ := h v hal
  exact ⟨(j : Int), h1, h2⟩
end

section
variable {g : Gm} {n : Nat} {bf : List (List Int)} {al : List Bool} {lf : List Int} {p : Int} {t : List Int} {st : Wk}
theorem set_lt {i : Nat} (h : setOf al i) : i < al.length := by
  rcases Nat.lt_or_ge i al.length with h' | h'
  · exact h'
  · simp [setOf, List.getD, List.getElem?_eq_none h'] at h
end

section
variable {g : Gm} {n : Nat} {bf : List (List Int)} {al : List Bool} {lf : List Int} {p : Int} {t : List Int} {st : Wk}
/-- The result of attract, as a set. -/
theorem WInv.attIn (h : WInv g p n al t st.q.length [] st) (hG : GOK g n bf) (hl : al.length = n) : AttIn g p (setOf al) (memOf t) (memOf st.q) := h.att (Nat.le_refl _) hG.rg hl
end

section
variable {g : Gm} {n : Nat} {bf : List (List Int)} {al : List Bool} {lf : List Int} {p : Int} {t : List Int} {st : Wk}
theorem WInv.set (h : WInv g p n al t st.q.length [] st) (hl : al.length = n) (i : Nat) : setOf st.al i ↔ setOf al i ∧ ¬ memOf st.q i := by
  by_cases hi : i < n
  · unfold setOf memOf
    rw [h.al i hi]
    simp
  · constructor
    · intro hs; have := set_lt hs; rw [h.la] at this; omega
    · intro hs; have := set_lt hs.1; omega
end

section
variable {g : Gm} {n : Nat} {bf : List (List Int)} {al : List Bool} {lf : List Int} {p : Int} {t : List Int} {st : Wk}
theorem WInv.lfOK (h : WInv g p n al t st.q.length [] st) (hG : GOK g n bf) : LfOK g n st.al st.lf := fun v hv => by
  have h1 := h.lf v hv
  simp only [List.count_nil, List.take_length] at h1
  have e : (g.succ.getD v []).countP (inS st.al) = (g.succ.getD v []).countP (fun x => inS al x && decide (x ∉ st.q)) := by
    refine List.countP_congr fun x hx => ?_
    obtain ⟨y, rfl, hy⟩ := hG.rg v hv x hx
    unfold inS
    rw [Int.toNat_natCast, h.al y hy]
  rw [e]; omega
end

section
variable {g : Gm} {n : Nat} {bf : List (List Int)} {al : List Bool} {lf : List Int} {p : Int} {t : List Int} {st : Wk}
theorem count_sum {f : Int → Bool} (l : List Int) : ∀ (q : List Int), q.Nodup → (∀ u ∈ q, f u = true) → l.countP f = l.countP (fun x => f x && decide (x ∉ q)) + (q.map fun u => l.count u).sum := by
  intro q
  induction q using listSnoc with
  | nil => intro _ _; simp
  | snoc q u ih =>
    intro hn hf
    rw [List.nodup_append] at hn
    have hu : u ∉ q := fun h => hn.2.2 u h u (by simp) rfl
    rw [ih hn.1 (fun x hx => hf x (by simp [hx])), countSplit l q u (hf u (by simp)) hu]
    simp; omega
end

section
variable {g : Gm} {n : Nat} {bf : List (List Int)} {al : List Bool} {lf : List Int} {p : Int} {t : List Int} {st : Wk}
theorem rowsC_eq (hG : GOK g n bf) {q : List Int} (hq : ∀ x ∈ q, ∃ v : Nat, x = v ∧ v < n) {v : Nat} (hv : v < n) : rowsC bf q v = (q.map fun u => (g.succ.getD v []).count u).sum := by
  unfold rowsC
  congr 1
  refine List.map_congr_left fun x hx => ?_
  obtain ⟨u, rfl, hu⟩ := hq x hx
  rw [Int.toNat_natCast, hG.bo.ct u v hu hv]
end

section
variable {g : Gm} {n : Nat} {bf : List (List Int)} {al : List Bool} {lf : List Int} {p : Int} {t : List Int} {st : Wk}
theorem ext_getB {a b : List Bool} (hl : a.length = b.length) (h : ∀ i, i < a.length → a.getD i false = b.getD i false) : a = b := by
  apply List.ext_getElem hl
  intro i h1 h2
  have := h i h1
  rwa [getD_lt _ _ _ h1, getD_lt _ _ _ h2] at this
end

section
variable {g : Gm} {n : Nat} {bf : List (List Int)} {al : List Bool} {lf : List Int} {p : Int} {t : List Int} {st : Wk}
theorem ext_getI {a b : List Int} (hl : a.length = b.length) (h : ∀ i, i < a.length → a.getD i 0 = b.getD i 0) : a = b := by
  apply List.ext_getElem hl
  intro i h1 h2
  have := h i h1
  rwa [getD_lt _ _ _ h1, getD_lt _ _ _ h2] at this
end

section
variable {g : Gm} {n : Nat} {bf : List (List Int)} {al : List Bool} {lf : List Int} {p : Int} {t : List Int} {st : Wk}
/-- Putting back what was taken out: al1 is al without q. -/
theorem revive_al {al al1 : List Bool} {q : List Int} (hl : al.length = n) (hl1 : al1.length = n) (hq : ∀ x ∈ q, ∃ v : Nat, x = v ∧ v < n ∧ al.getD v false = true) (h : ∀ i, setOf al1 i ↔ setOf al i ∧ ¬ memOf q i) : liftB al1 q true = al := by
  refine ext_getB (by rw [liftB_len, hl, hl1]) fun i hi => ?_
  rw [liftB_len] at hi
  rw [liftB_get _ _ _ (fun x hx => by obtain ⟨v, e, h1, -⟩ := hq x hx; exact ⟨v, e, by omega⟩) i hi]
  by_cases hm : (i : Int) ∈ q
  · rw [if_pos hm]
    obtain ⟨v, e, -, h1⟩ := hq _ hm
    obtain rfl : i = v := by omega
    exact h1.symm
  · rw [if_neg hm]
    have := h i
    unfold setOf memOf at this
    rw [Bool.eq_iff_iff, this]
    exact ⟨fun h => h.1, fun h => ⟨h, hm⟩⟩
end

section
variable {g : Gm} {n : Nat} {bf : List (List Int)} {al : List Bool} {lf : List Int} {p : Int} {t : List Int} {st : Wk}
theorem revive_lf {al al1 : List Bool} {lf lf1 q : List Int} (hG : GOK g n bf) (hl : lf.length = n) (hl1 : lf1.length = n) (hq : ∀ x ∈ q, ∃ v : Nat, x = v ∧ v < n ∧ al.getD v false = true) (hn : q.Nodup) (h : ∀ i, setOf al1 i ↔ setOf al i ∧ ¬ memOf q i) (h0 : LfOK g n al lf) (h1 : LfOK g n al1 lf1) : revAll bf lf1 q = lf := by
  refine ext_getI (by rw [revAll_len, hl, hl1]) fun v hv => ?_
  rw [revAll_len, hl1] at hv
  rw [revAll_get bf hG.bo.rg q lf1 hl1 v hv, h1 v hv, h0 v hv, rowsC_eq hG (fun x hx => by obtain ⟨v, e, h1, -⟩ := hq x hx; exact ⟨v, e, h1⟩) hv]
  rw [count_sum (f := inS al) (g.succ.getD v []) q hn (fun u hu => by obtain ⟨y, rfl, -, h⟩ := hq u hu; exact h)]
  have e : (g.succ.getD v []).countP (inS al1) = (g.succ.getD v []).countP (fun x => inS al x && decide (x ∉ q)) := by
    refine List.countP_congr fun x hx => ?_
    obtain ⟨y, rfl, hy⟩ := hG.rg v hv x hx
    have := h y
    unfold setOf memOf at this
    unfold inS
    rw [Int.toNat_natCast, this]
    simp
  rw [e]; omega
end

section
variable {g : Gm} {n : Nat} {bf : List (List Int)} {al : List Bool} {lf : List Int} {p : Int} {t : List Int} {st : Wk}
/-- The positions of a part, as a list. -/
structure Mem (n : Nat) (al : List Bool) (r : List Int) : Prop where
  rg : ∀ x ∈ r, ∃ v : Nat, x = v ∧ v < n ∧ al.getD v false = true
  all : ∀ v : Nat, v < n → al.getD v false = true → (v : Int) ∈ r
  nd : r.Nodup
end

section
variable {g : Gm} {n : Nat} {bf : List (List Int)} {al : List Bool} {lf : List Int} {p : Int} {t : List Int} {st : Wk}
theorem Mem.len {r : List Int} (h : Mem n al r) : r.length ≤ n := by
  refine Nat.le_of_not_lt fun hlt => ?_
  obtain ⟨i, j, h1, h2, h3⟩ := pigeon n (fun i => (r.getD i 0).toNat) fun i hi => by
    obtain ⟨v, e, hv, -⟩ := h.rg _ (get_mem (show i < r.length by omega))
    simp only [e, Int.toNat_natCast]; exact hv
  obtain ⟨v, e, -, -⟩ := h.rg _ (get_mem (show i < r.length by omega))
  obtain ⟨v', e', -, -⟩ := h.rg _ (get_mem (show j < r.length by omega))
  simp only [e, e', Int.toNat_natCast] at h3
  have := nodup_get h.nd (show i < r.length by omega) (show j < r.length by omega) (by rw [e, e', h3])
  omega
end

section
variable {g : Gm} {n : Nat} {bf : List (List Int)} {al : List Bool} {lf : List Int} {p : Int} {t : List Int} {st : Wk}
/-- Those that are still alive. -/
theorem Mem.filter {al1 : List Bool} {r : List Int} (h : Mem n al r) (hs : ∀ i, setOf al1 i → setOf al i) : Mem n al1 (r.filter (inS al1)) := by
  refine ⟨fun x hx => ?_, fun v hv ha => ?_, h.nd.filter _⟩
  · obtain ⟨h1, h2⟩ := List.mem_filter.1 hx
    obtain ⟨v, rfl, hv, -⟩ := h.rg x h1
    exact ⟨v, rfl, hv, h2⟩
  · exact List.mem_filter.2 ⟨h.all v hv (hs v ha), ha⟩
end

section
variable {g : Gm} {n : Nat} {bf : List (List Int)} {al : List Bool} {lf : List Int} {p : Int} {t : List Int} {st : Wk}
theorem filter_less {r : List Int} {f : Int → Bool} {x : Int} (hx : x ∈ r) (hf : f x = false) : (r.filter f).length < r.length := by
  induction r with
  | nil => cases hx
  | cons y r ih =>
    rcases List.mem_cons.1 hx with rfl | h
    · rw [List.filter_cons_of_neg (by simp [hf]), List.length_cons]
      have := List.length_filter_le f r
      omega
    · have := ih h
      by_cases hy : f y = true
      · rw [List.filter_cons_of_pos hy, List.length_cons, List.length_cons]; omega
      · rw [List.filter_cons_of_neg hy, List.length_cons]; omega
end

/-- What the rounds keep: R is what is left of al0, gone what is not; who solves R solves all. -/
structure PInv (g : Gm) (n : Nat) (al0 : List Bool) (wn0 : List Int) (al : List Bool) (R gone wn : List Int) : Prop where
  la : al.length = n
  mem : Mem n al R
  tot : TotB g n al
  gr : ∀ x ∈ gone, ∃ v : Nat, x = v ∧ v < n ∧ al0.getD v false = true
  gn : gone.Nodup
  st : ∀ i, setOf al i ↔ setOf al0 i ∧ ¬ memOf gone i
  wl : wn.length = n
  out : ∀ v, v < n → al0.getD v false = false → wn.getD v 0 = wn0.getD v 0
  ext : ∀ wn' : Nat → Int, Sol g (setOf al) wn' → (∀ i, memOf gone i → wn' i = wn.getD i 0) → Sol g (setOf al0) wn'

section
variable {g : Gm} {n : Nat} {bf : List (List Int)} {al0 al : List Bool} {wn0 wn R gone wn2 : List Int} {st1 st2 : Wk}
theorem PInv.start {al0 : List Bool} {wn0 r : List Int} (hl : al0.length = n) (hm : Mem n al0 r) (ht : TotB g n al0) (hw : wn0.length = n) : PInv g n al0 wn0 al0 r [] wn0 :=
  ⟨hl, hm, ht, (fun x hx => absurd hx (by simp)), List.nodup_nil, fun i => by simp [memOf], hw, fun _ _ _ => rfl, fun wn' h _ => h⟩
end

section
variable {g : Gm} {n : Nat} {bf : List (List Int)} {al0 al : List Bool} {wn0 wn R gone wn2 : List Int} {st1 st2 : Wk}
theorem lost_of {P : Int} {inner wn3 : List Int} {i : Nat} (hi : (i : Int) ∈ inner.filter (fun x => wn3.getD x.toNat 0 != P)) : (i : Int) ∈ inner ∧ wn3.getD i 0 ≠ P := by
  obtain ⟨h1, h2⟩ := List.mem_filter.1 hi
  exact ⟨h1, by simpa using h2⟩
end

section
variable {g : Gm} {n : Nat} {bf : List (List Int)} {al0 al : List Bool} {wn0 wn R gone wn2 : List Int} {st1 st2 : Wk}
/-- What is known behind the inner solution. -/
theorem PInv.inner (h : PInv g n al0 wn0 al R gone wn) (h1 : WInv g (leastP g R) n al (bestL g R) st1.q.length [] st1) (hs : Sol g (setOf st1.al) (fun i => wn2.getD i 0)) (hw2 : wn2.length = n) :
    (∀ i, memOf st1.q i → (liftI wn2 st1.q (leastP g R)).getD i 0 = leastP g R) ∧ (∀ i, i < n → ¬ memOf st1.q i → (liftI wn2 st1.q (leastP g R)).getD i 0 = wn2.getD i 0) ∧ Sol g (fun i => setOf al i ∧ ¬ memOf st1.q i) (fun i => (liftI wn2 st1.q (leastP g R)).getD i 0) := by
  have hq : ∀ x ∈ st1.q, ∃ v : Nat, x = v ∧ v < wn2.length := fun x hx => by
    obtain ⟨v, e, h1, -⟩ := h1.qr x hx
    exact ⟨v, e, by omega⟩
  have k1 : ∀ i, memOf st1.q i → (liftI wn2 st1.q (leastP g R)).getD i 0 = leastP g R := fun i hi => by
    obtain ⟨v, e, hv⟩ := hq _ hi
    rw [liftI_get _ _ _ hq i (by omega)]; exact if_pos hi
  have k2 : ∀ i, i < n → ¬ memOf st1.q i → (liftI wn2 st1.q (leastP g R)).getD i 0 = wn2.getD i 0 := fun i hi hn => by
    rw [liftI_get _ _ _ hq i (by omega)]; exact if_neg hn
  refine ⟨k1, k2, ?_⟩
  have hset := h1.set h.la
  refine (hs.congrS hset).congr fun i hi => ?_
  have : i < n := by have := set_lt hi.1; rw [h.la] at this; exact this
  exact (k2 i this hi.2).symm
end

section
variable {g : Gm} {n : Nat} {bf : List (List Int)} {al0 al : List Bool} {wn0 wn R gone wn2 : List Int} {st1 st2 : Wk}
theorem PInv.low (h : PInv g n al0 wn0 al R gone wn) : ∀ t, memOf (bestL g R) t → ∀ v, setOf al v → Lost (leastP g R) (pri g v) → pri g t < pri g v := fun t ht v hv hl => by
  have hv' : (v : Int) ∈ R := h.mem.all v (by have := set_lt hv; rw [h.la] at this; exact this) hv
  exact best_low ht hv' hl
end

section
variable {g : Gm} {n : Nat} {bf : List (List Int)} {al0 al : List Bool} {wn0 wn R gone wn2 : List Int} {st1 st2 : Wk}
theorem PInv.owners (h : PInv g n al0 wn0 al R gone wn) (hG : GOK g n bf) : ∀ i, setOf al i → own g i = 0 ∨ own g i = 1 := fun i hi => hG.ow i (by have := set_lt hi; rw [h.la] at this; exact this)
end

section
variable {g : Gm} {n : Nat} {bf : List (List Int)} {al0 al : List Bool} {wn0 wn R gone wn2 : List Int} {st1 st2 : Wk}
/-- No position is lost: the player wins everywhere. -/
theorem PInv.won (h : PInv g n al0 wn0 al R gone wn) (hG : GOK g n bf) (h1 : WInv g (leastP g R) n al (bestL g R) st1.q.length [] st1) (hs : Sol g (setOf st1.al) (fun i => wn2.getD i 0)) (hw2 : wn2.length = n) (hout : ∀ v, v < n → st1.al.getD v false = false → wn2.getD v 0 = wn.getD v 0)
    (hno : (R.filter (inS st1.al)).filter (fun x => (liftI wn2 st1.q (leastP g R)).getD x.toNat 0 != leastP g R) = []) :
    Sol g (setOf al0) (fun i => (liftI wn2 st1.q (leastP g R)).getD i 0) ∧ ∀ v, v < n → al0.getD v false = false → (liftI wn2 st1.q (leastP g R)).getD v 0 = wn0.getD v 0 := by
  obtain ⟨k1, k2, k3⟩ := h.inner h1 hs hw2
  have hA := h1.attIn hG h.la
  have hset := h1.set h.la
  have hM := h.mem.filter (al1 := st1.al) (fun i hi => ((hset i).1 hi).1)
  have hall : ∀ i, setOf al i → ¬ memOf st1.q i → (liftI wn2 st1.q (leastP g R)).getD i 0 = leastP g R := fun i hi hq => by
    have hin : i < n := by have := set_lt hi; rw [h.la] at this; exact this
    have hm := hM.all i hin ((hset i).2 ⟨hi, hq⟩)
    by_cases he : (liftI wn2 st1.q (leastP g R)).getD i 0 = leastP g R
    · exact he
    · have : (i : Int) ∈ (R.filter (inS st1.al)).filter (fun x => (liftI wn2 st1.q (leastP g R)).getD x.toNat 0 != leastP g R) := List.mem_filter.2 ⟨hm, by simpa using he⟩
      rw [hno] at this; cases this
  have hD := dom_all hA (leastP_two R) h.low (h.tot.total hG h.la) k3 hall
  have hnq : ∀ i, ¬ setOf al i → ¬ memOf st1.q i := fun i hn hq => hn (hA.sub i hq)
  refine ⟨h.ext _ (Sol.all hD (leastP_two R) fun i hi => ?_) fun i hi => ?_, fun v hv hv0 => ?_⟩
  · by_cases hq : memOf st1.q i
    · exact k1 i hq
    · exact hall i hi hq
  · obtain ⟨v, e, hv, -⟩ := h.gr _ hi
    obtain rfl : i = v := by omega
    have hna : ¬ setOf al i := fun hs => ((h.st i).1 hs).2 hi
    rw [k2 i hv (hnq i hna)]
    refine hout i hv ?_
    cases hb : st1.al.getD i false
    · rfl
    · exact absurd ((hset i).1 hb).1 hna
  · have hna : ¬ setOf al v := fun hs => by have := ((h.st v).1 hs).1; unfold setOf at this; rw [hv0] at this; cases this
    rw [k2 v hv (hnq v hna), ← h.out v hv hv0]
    refine hout v hv ?_
    cases hb : st1.al.getD v false
    · rfl
    · exact absurd ((hset v).1 hb).1 hna
end

section
variable {g : Gm} {n : Nat} {bf : List (List Int)} {al0 al : List Bool} {wn0 wn R gone wn2 : List Int} {st1 st2 : Wk}
/-- Some positions are lost: they, and what the other player attracts to them, are gone. -/
theorem PInv.next (h : PInv g n al0 wn0 al R gone wn) (hG : GOK g n bf) (h1 : WInv g (leastP g R) n al (bestL g R) st1.q.length [] st1) (hs : Sol g (setOf st1.al) (fun i => wn2.getD i 0)) (hw2 : wn2.length = n) (hout : ∀ v, v < n → st1.al.getD v false = false → wn2.getD v 0 = wn.getD v 0)
    (lost : List Int) (hlost : lost = (R.filter (inS st1.al)).filter (fun x => (liftI wn2 st1.q (leastP g R)).getD x.toNat 0 != leastP g R)) (hne : lost ≠ []) (h2 : WInv g (1 - leastP g R) n al lost st2.q.length [] st2) :
    PInv g n al0 wn0 st2.al (R.filter (inS st2.al)) (gone ++ st2.q) (liftI (liftI wn2 st1.q (leastP g R)) st2.q (1 - leastP g R)) ∧ (R.filter (inS st2.al)).length < R.length := by
  obtain ⟨k1, k2, k3⟩ := h.inner h1 hs hw2
  have hP := leastP_two (g := g) R
  have hP1 : 1 - leastP g R = 0 ∨ 1 - leastP g R = 1 := by omega
  have hA := h1.attIn hG h.la
  have hA2 := h2.attIn hG h.la
  have hset := h1.set h.la
  have hset2 := h2.set h.la
  have hM := h.mem.filter (al1 := st1.al) (fun i hi => ((hset i).1 hi).1)
  have hL : ∀ i, memOf lost i ↔ (setOf al i ∧ ¬ memOf st1.q i) ∧ (liftI wn2 st1.q (leastP g R)).getD i 0 = 1 - leastP g R := fun i => by
    constructor
    · intro hi
      unfold memOf at hi
      rw [hlost] at hi
      obtain ⟨m1, m2⟩ := lost_of hi
      obtain ⟨v, e, hv, ha⟩ := hM.rg _ m1
      obtain rfl : i = v := by omega
      have h3 := (hset i).1 ha
      have := k3.two i h3
      exact ⟨h3, by omega⟩
    · rintro ⟨h3, h4⟩
      unfold memOf
      rw [hlost]
      have hin : i < n := by have := set_lt h3.1; rw [h.la] at this; exact this
      exact List.mem_filter.2 ⟨hM.all i hin ((hset i).2 h3), by simp only [Int.toNat_natCast, h4]; simp; omega⟩
  have hD := dom_lost hA hP1 (by omega) hP k3 hL hA2 (h.owners hG)
  have hq2 : ∀ x ∈ st2.q, ∃ v : Nat, x = v ∧ v < (liftI wn2 st1.q (leastP g R)).length := fun x hx => by
    obtain ⟨v, e, h1, -⟩ := h2.qr x hx
    exact ⟨v, e, by rw [liftI_len]; omega⟩
  have k4 : ∀ i, memOf st2.q i → (liftI (liftI wn2 st1.q (leastP g R)) st2.q (1 - leastP g R)).getD i 0 = 1 - leastP g R := fun i hi => by
    obtain ⟨v, e, hv⟩ := hq2 _ hi
    rw [liftI_get _ _ _ hq2 i (by omega)]; exact if_pos hi
  have k5 : ∀ i, i < n → ¬ memOf st2.q i → (liftI (liftI wn2 st1.q (leastP g R)) st2.q (1 - leastP g R)).getD i 0 = (liftI wn2 st1.q (leastP g R)).getD i 0 := fun i hi hn => by
    rw [liftI_get _ _ _ hq2 i (by rw [liftI_len]; omega)]; exact if_neg hn
  have hold : ∀ i, i < n → ¬ setOf al i → (liftI (liftI wn2 st1.q (leastP g R)) st2.q (1 - leastP g R)).getD i 0 = wn.getD i 0 := fun i hi hna => by
    rw [k5 i hi (fun hq => hna (hA2.sub i hq)), k2 i hi (fun hq => hna (hA.sub i hq))]
    refine hout i hi ?_
    cases hb : st1.al.getD i false
    · rfl
    · exact absurd ((hset i).1 hb).1 hna
  refine ⟨⟨h2.la, h.mem.filter fun i hi => ((hset2 i).1 hi).1, ?_, fun x hx => ?_, ?_, fun i => ?_, by rw [liftI_len, liftI_len]; exact hw2, fun v hv hv0 => ?_, fun wn' hs' hag => ?_⟩, ?_⟩
  · have : Total g (setOf st2.al) := by
      have e : setOf st2.al = fun i => setOf al i ∧ ¬ memOf st2.q i := funext fun i => propext (hset2 i)
      rw [e]; exact hA2.total (h.tot.total hG h.la)
    exact this.totB
  · rcases List.mem_append.1 hx with hx | hx
    · exact h.gr x hx
    · obtain ⟨v, e, hv, ha⟩ := h2.qr x hx
      exact ⟨v, e, hv, ((h.st v).1 ha).1⟩
  · rw [List.nodup_append]
    refine ⟨h.gn, h2.nd, fun x hx y hy e => ?_⟩
    subst e
    obtain ⟨v, rfl, hv, ha⟩ := h2.qr x hy
    exact ((h.st v).1 ha).2 hx
  · rw [hset2 i, h.st i]
    unfold memOf
    rw [List.mem_append]
    exact ⟨fun ⟨⟨a, b⟩, c⟩ => ⟨a, fun h => h.elim b c⟩, fun ⟨a, b⟩ => ⟨⟨a, fun h => b (.inl h)⟩, fun h => b (.inr h)⟩⟩
  · have hna : ¬ setOf al v := fun hs => by have := ((h.st v).1 hs).1; unfold setOf at this; rw [hv0] at this; cases this
    rw [hold v hv hna, h.out v hv hv0]
  · refine h.ext wn' (Sol.step (q := 1 - leastP g R) hD hP1 (fun i hi hn ho j he => hA2.mine i hi hn ho j he) (hs'.congrS hset2) (fun i hi => ?_) (h.owners hG)) fun i hi => ?_
    · rw [hag i (by unfold memOf; rw [List.mem_append]; exact .inr hi), k4 i hi]
    · obtain ⟨v, e, hv, -⟩ := h.gr _ hi
      obtain rfl : i = v := by omega
      rw [hag i (by unfold memOf; rw [List.mem_append]; exact .inl hi)]
      exact hold i hv fun hs => ((h.st i).1 hs).2 hi
  · obtain ⟨x, hx⟩ := List.exists_mem_of_ne_nil _ hne
    have hq := h2.tq x hx
    obtain ⟨v, rfl, hv, ha⟩ := h2.qr x hq
    refine filter_less (h.mem.all v hv ha) ?_
    cases hb : inS st2.al (v : Int)
    · rfl
    · exact absurd hq ((hset2 v).1 hb).2
end

section
variable {g : Gm} {n : Nat} {bf : List (List Int)} {al0 al : List Bool} {wn0 wn R gone wn2 : List Int} {st1 st2 : Wk}
/-- The end of the rounds. -/
theorem PInv.done (h : PInv g n al0 wn0 al [] gone wn) : Sol g (setOf al0) (fun i => wn.getD i 0) :=
  h.ext _ (Sol.empty fun i hi => by have := h.mem.all i (by have := set_lt hi; rw [h.la] at this; exact this) hi; cases this) fun _ _ => rfl
end

/-- The captured boxes. -/
def Cx (B : Nat) (w : World) (D : Ad) (c1 c2 c3 : Nat) : Prop := ∀ W, Only (fun k => D.hot k ∨ B ≤ k) w W →
  W.cell? ⟨c1, 0, none⟩ = some (.pointer (some ⟨D.sp, 0, none⟩)) ∧ W.cell? ⟨c2, 0, none⟩ = some (.func (.func 62) #[] #[.pointer (some ⟨c1, 0, none⟩)]) ∧
    W.cell? ⟨c3, 0, none⟩ = some (.func (.func 63) #[] #[.pointer (some ⟨c1, 0, none⟩), .pointer (some ⟨c2, 0, none⟩), .pointer (some ⟨c3, 0, none⟩)])

theorem Cx.step {w W : World} {D : Ad} {B c1 c2 c3 : Nat} (h : Cx B w D c1 c2 c3) (ho : Only (fun k => D.hot k ∨ B ≤ k) w W) {B' : Nat} (hB : B ≤ B') : Cx B' W D c1 c2 c3 :=
  fun W' h' => h W' (ho.trans (h'.mono fun _ _ hk => hk.imp_right fun h => Nat.le_trans hB h))

/-- What solving a part leaves. -/
def Part1 (w : World) (D : Ad) (g : Gm) (n : Nat) (al : List Bool) (lf wn : List Int) (e : Ending) (w' : World) : Prop :=
  e = .returned (.tuple #[]) ∧ ∃ wn', OB w' 0 (.slice (some ⟨D.ba, 0, none⟩) n n) al ∧ OI w' 0 (.slice (some ⟨D.bl, 0, none⟩) n n) lf ∧ OI w' 0 (.slice (some ⟨D.bw, 0, none⟩) n n) wn' ∧ wn'.length = n ∧ Only D.hot w w' ∧
    Sol g (setOf al) (fun i => wn'.getD i 0) ∧ ∀ v, v < n → al.getD v false = false → wn'.getD v 0 = wn.getD v 0

theorem LfOK.bound {g : Gm} {n : Nat} {bf : List (List Int)} {al : List Bool} {lf : List Int} (h : LfOK g n al lf) (hG : GOK g n bf) : ∀ v, v < n → 0 ≤ lf.getD v 0 ∧ lf.getD v 0 ≤ 1000 := fun v hv => by
  rw [h v hv]
  have h1 := List.countP_le_length (p := inS al) (l := g.succ.getD v [])
  have h2 := hG.sl v
  omega

theorem mem_I64 {n : Nat} {l : List Int} (hn : n ≤ 3000) (h : ∀ x ∈ l, ∃ v : Nat, x = v ∧ v < n) : ∀ x ∈ l, I64 x := fun x hx => by
  obtain ⟨v, rfl, hv⟩ := h x hx
  unfold I64; omega

theorem pigeonLen {n : Nat} {al : List Bool} {r : List Int} (h : ∀ x ∈ r, ∃ v : Nat, x = v ∧ v < n ∧ al.getD v false = true) (hn : r.Nodup) : r.length ≤ n := by
  refine Nat.le_of_not_lt fun hlt => ?_
  obtain ⟨i, j, h1, h2, h3⟩ := pigeon n (fun i => (r.getD i 0).toNat) fun i hi => by
    obtain ⟨v, e, hv, -⟩ := h _ (get_mem (show i < r.length by omega))
    simp only [e, Int.toNat_natCast]; exact hv
  obtain ⟨v, e, -, -⟩ := h _ (get_mem (show i < r.length by omega))
  obtain ⟨v', e', -, -⟩ := h _ (get_mem (show j < r.length by omega))
  simp only [e, e', Int.toNat_natCast] at h3
  have := nodup_get hn (show i < r.length by omega) (show j < r.length by omega) (by rw [e, e', h3])
  omega

set_option maxRecDepth 100000 in
set_option maxHeartbeats 8000000 in
theorem part_c (m : Nat) : ∀ (w : World) (D : Ad) (g : Gm) (n : Nat) (bf : List (List Int)) (al : List Bool) (lf wn : List Int) (vr : Value) (r : List Int) (c1 c2 c3 : Nat), r.length < m → Sv w.heap.size w D g n bf al lf wn → GOK g n bf → Kp w.heap.size w D vr r →
    Mem n al r → LfOK g n al lf → TotB g n al → Cx w.heap.size w D c1 c2 c3 →
    Calls Try.prog 63 #[vr, .pointer (some ⟨c1, 0, none⟩), .pointer (some ⟨c2, 0, none⟩), .pointer (some ⟨c3, 0, none⟩)] w (Part1 w D g n al lf wn) := by
  induction m with
  | zero => intro _ _ _ _ _ _ _ _ _ _ _ _ _ h; exact absurd h (by omega)
  | succ m ih =>
  intro w D g n bf al lf wn vr r c1 c2 c3 hrm hS hG hr hM hlf htot hC
  have hmx : Try.prog.follows .mixedOrders = true := by kernel_rfl
  have HIH := Lib.hid ih
  have HGO := Lib.hid hG
  have HC := Lib.hid hC
  have hn3 := hG.n3
  have hrn := hM.len
  have HPI := Lib.hid (PInv.start hS.la hM htot hS.lw)
  have HLf0 := Lib.hid hlf
  have HS := Lib.hid hS
  have HLa := Lib.hid hS.la
  have HLl := Lib.hid hS.ll
  have HKg : Hid (∀ W, Only (fun k => D.hot k ∨ Value.ownBlock (.slice none 0 0) = some k ∨ w.heap.size ≤ k) w W → IsInts W vr r) := fun W hW => hr W (hW.mono fun k _ hk => by
    rcases hk with h | h | h
    · exact .inl h
    · cases h
    · exact .inr h)
  have HHot : Hid (∀ k, D.hot k → k < w.heap.size) := hS.hot_lt
  clear ih hG hC hS hr hM hlf htot
  go_enter Try.func63, Try.ntmps63
  go_wp2
  go_loopg [0, 5] r.length (fun gh vR vg wr => ∃ (al' : List Bool) (lf' wn' R gone : List Int), gh = R.length ∧ R.length ≤ m ∧ Hid (PInv g n al wn al' R gone wn') ∧ Hid (Sv w.heap.size wr D g n bf al' lf' wn') ∧ Hid (LfOK g n al' lf') ∧ Hid (OI wr w.heap.size vg gone) ∧ Hid (Only D.hot w wr) ∧
    Hid (∀ W, Only (fun k => D.hot k ∨ vg.ownBlock = some k ∨ wr.heap.size ≤ k) wr W → IsInts W vR R))
  case atStart => exact ⟨al, lf, wn, r, [], rfl, by omega, HPI, HS, HLf0, OI_nil _ _, Only.refl _ _, HKg⟩
  case round =>
    clear HPI HS HKg
    obtain ⟨al1, lf1, wn1, R, gone, rfl, hRm, HPI, HSv, HLf, HGn, HH, HKg⟩ := hrel
    have hR0 := HKg.out wr (Only.refl _ _)
    obtain ⟨⟨aR, capR, bR, oR, hvR, gR⟩, -⟩ := id hR0
    subst hvR
    clear gR
    have HRI := Lib.hid hR0
    have hRn := HPI.out.mem.len
    obtain ⟨d1, d2, d3⟩ := HC.out wr HH.out.orB
    have hz := HH.out.size
    by_cases hlt : R.length = 0
    · have hlti : ¬ (0 : Int) < R.length := by omega
      have hRnil := List.eq_nil_of_length_eq_zero hlt
      have hgl : gone.length ≤ 3000 := Nat.le_trans (pigeonLen HPI.out.gr HPI.out.gn) hn3
      have HKgn : Hid (Kp wr.heap.size wr D u5 gone) := HGn.out.kp HHot.out (Nat.le_refl _) (by unfold maxN; omega) (mem_I64 hn3 fun x hx => by obtain ⟨v, e, h, -⟩ := HPI.out.gr x hx; exact ⟨v, e, h⟩)
      have HEnd : Hid (Sol g (setOf al) (fun i => wn1.getD i 0)) := by
        have := HPI.out
        rw [hRnil] at this
        exact this.done
      clear hlt hRnil
      go_wp2_with fail
      refine (revive_c wr D g n bf al1 lf1 wn1 _ gone (HSv.out.up hz) HGO.out HKgn.out (fun x hx => by obtain ⟨v, e, h, -⟩ := HPI.out.gr x hx; exact ⟨v, e, h⟩) hgl (HLf.out.bound HGO.out)).mono ?_
      rintro e wz ⟨rfl, haz, hlz, hwz, hoz⟩
      rw [revive_al HLa.out HPI.out.la HPI.out.gr HPI.out.st] at haz
      rw [revive_lf HGO.out HLl.out HSv.out.ll HPI.out.gr HPI.out.gn HPI.out.st HLf0.out HLf.out] at hlz
      have hFin := HH.out.trans hoz
      go_wp2
      go_end0
      exact ⟨rfl, wn1, haz, hlz, hwz, HSv.out.lw, hFin, HEnd.out, HPI.out.out⟩
    · have hlti : (0 : Int) < R.length := by omega
      go_wp2_with fail
      refine (least_c wr D g n bf al1 lf1 wn1 _ R (HSv.out.up hz) HGO.out HRI.out (fun x hx => by obtain ⟨v, e, h, -⟩ := HPI.out.mem.rg x hx; exact ⟨v, e, h⟩) (by omega)).mono ?_
      rintro e w1 ⟨vb, rfl, hOb, hB1⟩
      obtain ⟨aB, cB, rfl⟩ := hOb.slice
      go_upto_region 3 with (fail)
      have hBx := bel_box (w := w1) (Obj.cells #[.int .i64 (leastP g R)] 3)
      have hB2 := hB1.trans (hBx.mono hB1.size)
      have HO2 := Lib.hid (hOb.below hBx)
      have HP6 : Hid (∀ W, Below (w1.alloc (Obj.cells #[.int .i64 (leastP g R)] 3)).heap.size (w1.alloc (Obj.cells #[.int .i64 (leastP g R)] 3)) W → W.heap[w1.heap.size]? = some (Obj.cells #[.int .i64 (leastP g R)] 3 (0, 0))) := fun W hW => (hW.block _ (by simp)).trans (heap_alloc_new w1 _)
      have HS2 := Lib.hid (HSv.out.below hB2)
      have HG2 := Lib.hid (HGn.out.below hB2)
      have HH2 : Hid (Only D.hot w (w1.alloc (Obj.cells #[.int .i64 (leastP g R)] 3))) := HH.out.trans (Only.of_below hB2)
      have HB2 := Lib.hid hB2
      have HSL0 := Lib.hid HSv.out.ll
      have H6 : Hid ((w1.alloc (Obj.cells #[.int .i64 (leastP g R)] 3)).heap[w1.heap.size]? = some (Obj.cells #[.int .i64 (leastP g R)] 3 (0, 0))) := heap_alloc_new w1 _
      have H6lt : Hid (w.heap.size ≤ w1.heap.size) := Nat.le_trans hz hB1.size
      clear HP6 hOb hB1 hBx hB2 HSv HGn HH hz d1 d2 d3
      generalize (w1.alloc (Obj.cells #[.int .i64 (leastP g R)] 3)) = w2 at *
      generalize w1.heap.size = c6 at *
      have hz := HH2.out.size
      obtain ⟨d1, d2, d3⟩ := HC.out w2 HH2.out.orB
      have e6 := cell_of_row _ _ 0 _ _ _ H6.out
      have hbl : (bestL g R).length ≤ R.length := List.length_filter_le _ _
      have HBI : Hid (IsInts w2 (.slice aB (bestL g R).length cB) (bestL g R)) := HO2.out.is (by unfold maxN; omega) (mem_I64 hn3 fun x hx => by obtain ⟨v, e, h, -⟩ := HPI.out.mem.rg x (best_sub hx); exact ⟨v, e, h⟩)
      go_wp2_with fail
      refine (attract_c w2 D g n bf al1 lf1 wn1 (leastP g R) _ (bestL g R) (HS2.out.up hz) HGO.out HBI.out (fun x hx => HPI.out.mem.rg x (best_sub hx)) (HPI.out.mem.nd.filter _) (by omega) HLf.out HPI.out.tot).mono ?_
      rintro e w3 ⟨vq1, st1, rfl, hq1, ha3, hl3, hw3, ho3, hI1⟩
      obtain ⟨aQ, cQ, rfl⟩ := hq1.slice
      have HI1 := Lib.hid hI1
      have HSet := Lib.hid (hI1.set HPI.out.la)
      have HLf1 := Lib.hid (hI1.lfOK HGO.out)
      have hql := hI1.len
      have HTot1 : Hid (TotB g n st1.al) := by
        have : Total g (setOf st1.al) := by
          have e : setOf st1.al = fun i => setOf al1 i ∧ ¬ memOf st1.q i := funext fun i => propext (hI1.set HPI.out.la i)
          rw [e]; exact (hI1.attIn HGO.out HPI.out.la).total (HPI.out.tot.total HGO.out HPI.out.la)
        exact this.totB
      have HM1 := Lib.hid (HPI.out.mem.filter (al1 := st1.al) (fun i hi => ((HSet.out i).1 hi).1))
      have HLess : Hid ((R.filter (inS st1.al)).length < R.length) := by
        obtain ⟨x, hx⟩ := best_ne (g := g) (r := R) (fun e => hlt (by rw [e]; rfl)) (fun x hx => by obtain ⟨v, rfl, hv, -⟩ := HPI.out.mem.rg x hx; exact HGO.out.pr v hv)
        have hq := hI1.tq x hx
        obtain ⟨v, rfl, hv, ha⟩ := hI1.qr x hq
        refine filter_less (HPI.out.mem.all v hv ha) ?_
        cases hb : inS st1.al (v : Int)
        · rfl
        · exact absurd hq ((HSet.out v).1 hb).2
      have HS3 : Hid (Sv w.heap.size w3 D g n bf st1.al st1.lf wn1) := HS2.out.after ho3.orB ha3 hl3 hw3 hI1.la hI1.ll HS2.out.lw
      have HQ3 : Hid (OI w3 w.heap.size (.slice aQ st1.q.length cQ) st1.q) := hq1.down hz
      have HG3 := Lib.hid (HG2.out.only ho3 fun k hk e => by have := HG2.out.ge k hk; have := HHot.out k e; omega)
      have HH3 : Hid (Only D.hot w w3) := HH2.out.trans ho3
      have H63 : Hid (w3.heap[c6]? = some (Obj.cells #[.int .i64 (leastP g R)] 3 (0, 0))) := (ho3.block c6 (Array.getElem?_eq_some_iff.1 H6.out).1 (fun e => by have := HHot.out c6 e; have := H6lt.out; omega)).trans H6.out
      have HRk : Hid (∀ W, Only (fun k => D.hot k ∨ u5.ownBlock = some k ∨ wr.heap.size ≤ k) w3 W → IsInts W (.slice aR R.length capR) R) := fun W hW => HKg.out W (((Only.of_below HB2.out).trans (ho3.mono fun _ _ e => .inl e)).trans hW)
      clear hq1 ha3 hl3 hw3 hI1 HS2 HG2 HH2 H6 HO2 HBI e6 d1 d2 d3 hz HKg
      have hz := HH3.out.size
      obtain ⟨d1, d2, d3⟩ := HC.out w3 HH3.out.orB
      go_wp2_with fail
      refine (keep_c w3 _ R _ _ (inS st1.al) (HRk.out w3 (Only.refl _ _)) (by omega) enters_living (fun W2 hW2 x hx => ?_)).mono ?_
      · obtain ⟨v, rfl, hv, -⟩ := HPI.out.mem.rg x hx
        exact living_c W2 (HS3.out.below hW2) c1 v (cellB hW2 d1) hv
      rintro e w4 ⟨vin, rfl, hin, hB4⟩
      obtain ⟨aI, cI, rfl⟩ := hin.slice
      have HS4 := Lib.hid (HS3.out.below hB4)
      have HQ4 := Lib.hid (HQ3.out.below hB4)
      have HG4 := Lib.hid (HG3.out.below hB4)
      have HH4 : Hid (Only D.hot w w4) := HH3.out.trans (Only.of_below hB4)
      have H64 : Hid (w4.heap[c6]? = some (Obj.cells #[.int .i64 (leastP g R)] 3 (0, 0))) := (hB4.block c6 (Array.getElem?_eq_some_iff.1 H63.out).1).trans H63.out
      have HRk4 : Hid (∀ W, Only (fun k => D.hot k ∨ u5.ownBlock = some k ∨ wr.heap.size ≤ k) w4 W → IsInts W (.slice aR R.length capR) R) := fun W hW => HRk.out W ((Only.of_below hB4).trans hW)
      have HIn4 : Hid (OI w4 w.heap.size (.slice aI (R.filter (inS st1.al)).length cI) (R.filter (inS st1.al))) := hin.down hz
      clear hin hB4 HS3 HQ3 HG3 HH3 H63 HRk d1 d2 d3 hz
      have hz := HH4.out.size
      obtain ⟨d1, d2, d3⟩ := HC.out w4 HH4.out.orB
      obtain ⟨inn, hinn⟩ : ∃ inn, inn = R.filter (inS st1.al) := ⟨_, rfl⟩
      have HInn := Lib.hid hinn
      rw [← hinn] at HIn4 HM1 HLess ⊢
      clear hinn
      have hless := HLess.out
      have hinl := HM1.out.len
      have HKin : Hid (Kp w4.heap.size w4 D (.slice aI inn.length cI) inn) := HIn4.out.kp HHot.out (Nat.le_refl _) (by unfold maxN; omega) (mem_I64 hn3 fun x hx => by obtain ⟨v, e, h, -⟩ := HM1.out.rg x hx; exact ⟨v, e, h⟩)
      go_wp2_with fail
      refine (HIH.out w4 D g n bf st1.al st1.lf wn1 _ inn c1 c2 c3 (by omega) (HS4.out.up hz) HGO.out HKin.out HM1.out HLf1.out HTot1.out (HC.out.step HH4.out.orB hz)).mono ?_
      rintro e w5 ⟨rfl, wn2, ha5, hl5, hw5, hwl5, ho5, hsol5, hout5⟩
      have HS5 : Hid (Sv w.heap.size w5 D g n bf st1.al st1.lf wn2) := HS4.out.after ho5.orB ha5 hl5 hw5 HI1.out.la HI1.out.ll hwl5
      have hqh : ∀ (W W' : World) (v : Value) (l : List Int), OI W w.heap.size v l → Only D.hot W W' → OI W' w.heap.size v l := fun W W' v l h ho => h.only ho fun k hk e => by have := h.ge k hk; have := HHot.out k e; omega
      have HQH := Lib.hid hqh
      have HQ5 := Lib.hid (hqh _ _ _ _ HQ4.out ho5)
      have HG5 := Lib.hid (hqh _ _ _ _ HG4.out ho5)
      have HIn5 := Lib.hid (hqh _ _ _ _ HIn4.out ho5)
      have HH5 : Hid (Only D.hot w w5) := HH4.out.trans ho5
      have h6h : ∀ (W W' : World), W.heap[c6]? = some (Obj.cells #[.int .i64 (leastP g R)] 3 (0, 0)) → Only D.hot W W' → W'.heap[c6]? = some (Obj.cells #[.int .i64 (leastP g R)] 3 (0, 0)) := fun W W' h ho => (ho.block c6 (Array.getElem?_eq_some_iff.1 h).1 (fun e => by have := HHot.out c6 e; have := H6lt.out; omega)).trans h
      have H6H := Lib.hid h6h
      have H65 := Lib.hid (h6h _ _ H64.out ho5)
      have HRk5 : Hid (∀ W, Only (fun k => D.hot k ∨ u5.ownBlock = some k ∨ wr.heap.size ≤ k) w5 W → IsInts W (.slice aR R.length capR) R) := fun W hW => HRk4.out W ((ho5.mono fun _ _ e => .inl e).trans hW)
      have HSol := Lib.hid hsol5
      have HOut := Lib.hid hout5
      have HWl := Lib.hid hwl5
      clear ha5 hl5 hw5 hwl5 ho5 hsol5 hout5 HS4 HQ4 HG4 HIn4 HH4 H64 HRk4 HKin hqh h6h d1 d2 d3 hz
      have hz := HH5.out.size
      obtain ⟨d1, d2, d3⟩ := HC.out w5 HH5.out.orB
      have HKq : Hid (Kp w5.heap.size w5 D (.slice aQ st1.q.length cQ) st1.q) := HQ5.out.kp HHot.out (Nat.le_refl _) (by unfold maxN; omega) (mem_I64 hn3 fun x hx => by obtain ⟨v, e, h, -⟩ := HI1.out.qr x hx; exact ⟨v, e, h⟩)
      go_wp2_with fail
      refine (revive_c w5 D g n bf st1.al st1.lf wn2 _ st1.q (HS5.out.up hz) HGO.out HKq.out (fun x hx => by obtain ⟨v, e, h, -⟩ := HI1.out.qr x hx; exact ⟨v, e, h⟩) (by omega) (HLf1.out.bound HGO.out)).mono ?_
      rintro e w6 ⟨rfl, ha6, hl6, hw6, ho6⟩
      rw [revive_al HPI.out.la HI1.out.la HI1.out.qr HSet.out] at ha6
      rw [revive_lf HGO.out HSL0.out HI1.out.ll HI1.out.qr HI1.out.nd HSet.out HLf.out HLf1.out] at hl6
      have HS6 : Hid (Sv w.heap.size w6 D g n bf al1 lf1 wn2) := HS5.out.after ho6.orB ha6 hl6 hw6 HPI.out.la HSL0.out HWl.out
      have HQ6 := Lib.hid (HQH.out _ _ _ _ HQ5.out ho6)
      have HG6 := Lib.hid (HQH.out _ _ _ _ HG5.out ho6)
      have HIn6 := Lib.hid (HQH.out _ _ _ _ HIn5.out ho6)
      have HH6 : Hid (Only D.hot w w6) := HH5.out.trans ho6
      have H66 := Lib.hid (H6H.out _ _ H65.out ho6)
      have HRk6 : Hid (∀ W, Only (fun k => D.hot k ∨ u5.ownBlock = some k ∨ wr.heap.size ≤ k) w6 W → IsInts W (.slice aR R.length capR) R) := fun W hW => HRk5.out W ((ho6.mono fun _ _ e => .inl e).trans hW)
      clear ha6 hl6 hw6 ho6 HS5 HQ5 HG5 HIn5 HH5 H65 HRk5 HKq d1 d2 d3 hz
      have hz := HH6.out.size
      obtain ⟨d1, d2, d3⟩ := HC.out w6 HH6.out.orB
      have e6 := cell_of_row _ _ 0 _ _ _ H66.out
      have c6w := HS6.out.field 6 rfl
      go_upto_region 7 with (fail)
      go_still_tail 6, (by kernel_rfl)
      change wpList _ _ _ _ _ w6.drew
      clear d1 d2 d3 e6 c6w hz
      have hdr := Below.drew (Below.refl w6.heap.size w6)
      have HS7 := Lib.hid (HS6.out.below hdr)
      have HQ7 := Lib.hid (HQ6.out.below hdr)
      have HG7 := Lib.hid (HG6.out.below hdr)
      have HIn7 := Lib.hid (HIn6.out.below hdr)
      have HH7 : Hid (Only D.hot w w6.drew) := HH6.out.trans (Only.of_below hdr)
      have H67 : Hid (w6.drew.heap[c6]? = some (Obj.cells #[.int .i64 (leastP g R)] 3 (0, 0))) := H66.out
      have HRk7 : Hid (∀ W, Only (fun k => D.hot k ∨ u5.ownBlock = some k ∨ wr.heap.size ≤ k) w6.drew W → IsInts W (.slice aR R.length capR) R) := fun W hW => HRk6.out W ((Only.of_below hdr).trans hW)
      clear hdr HS6 HQ6 HG6 HIn6 HH6 H66 HRk6
      generalize w6.drew = w7 at *
      have hz := HH7.out.size
      go_wp2_with fail
      refine (liftI_c w7 D.bw n _ wn2 st1.q (leastP g R) HS7.out.w HWl.out (fun W hW => (HQ7.out.only hW fun k hk e => by have := HQ7.out.ge k hk; have := HHot.out k (.inr (.inr e)); omega).is (by unfold maxN; omega) (mem_I64 hn3 fun x hx => by obtain ⟨v, e, h, -⟩ := HI1.out.qr x hx; exact ⟨v, e, h⟩)) (fun x hx => by obtain ⟨v, e, h, -⟩ := HI1.out.qr x hx; exact ⟨v, e, h⟩)).mono ?_
      rintro e w8 ⟨rfl, hw8, ho8'⟩
      have ho8 : Only D.hot w7 w8 := Only.one ho8' (.inr (.inr rfl))
      obtain ⟨wn3, hwn3⟩ : ∃ wn3, wn3 = liftI wn2 st1.q (leastP g R) := ⟨_, rfl⟩
      have HWn3 := Lib.hid hwn3
      rw [← hwn3] at hw8
      have hwl3 : wn3.length = n := by rw [hwn3, liftI_len, HWl.out]
      clear hwn3
      have HS8 : Hid (Sv w.heap.size w8 D g n bf al1 lf1 wn3) := HS7.out.toW ho8' hw8 hwl3
      have HQ8 := Lib.hid (HQH.out _ _ _ _ HQ7.out ho8)
      have HG8 := Lib.hid (HQH.out _ _ _ _ HG7.out ho8)
      have HIn8 := Lib.hid (HQH.out _ _ _ _ HIn7.out ho8)
      have HH8 : Hid (Only D.hot w w8) := HH7.out.trans ho8
      have H68 := Lib.hid (H6H.out _ _ H67.out ho8)
      have HRk8 : Hid (∀ W, Only (fun k => D.hot k ∨ u5.ownBlock = some k ∨ wr.heap.size ≤ k) w8 W → IsInts W (.slice aR R.length capR) R) := fun W hW => HRk7.out W ((ho8.mono fun _ _ e => .inl e).trans hW)
      have HWl3 := Lib.hid hwl3
      clear hw8 ho8' ho8 hwl3 HS7 HQ7 HG7 HIn7 HH7 H67 HRk7 hz
      have hz := HH8.out.size
      obtain ⟨d1, d2, d3⟩ := HC.out w8 HH8.out.orB
      have HInI : Hid (IsInts w8 (.slice aI inn.length cI) inn) := HIn8.out.is (by unfold maxN; omega) (mem_I64 hn3 fun x hx => by obtain ⟨v, e, h, -⟩ := HM1.out.rg x hx; exact ⟨v, e, h⟩)
      have e6 := cell_of_row _ _ 0 _ _ _ H68.out
      go_wp2_with fail
      refine (keep_c w8 _ inn _ _ (fun x => wn3.getD x.toNat 0 != leastP g R) HInI.out (by omega) enters_other (fun W2 hW2 x hx => ?_)).mono ?_
      · obtain ⟨v, rfl, hv, -⟩ := HM1.out.rg x hx
        exact other_c W2 (HS8.out.below hW2) c1 c6 v (leastP g R) (cellB hW2 d1) (cellB hW2 e6) hv
      rintro e w9 ⟨vl, rfl, hlo, hB9⟩
      obtain ⟨aL, cL, rfl⟩ := hlo.slice
      obtain ⟨lost, hlost⟩ : ∃ lost, lost = inn.filter (fun x => wn3.getD x.toNat 0 != leastP g R) := ⟨_, rfl⟩
      rw [← hlost] at hlo ⊢
      have hloL : lost.length ≤ inn.length := by rw [hlost]; exact List.length_filter_le _ _
      have hloM : ∀ x ∈ lost, x ∈ inn := fun x hx => by rw [hlost] at hx; exact (List.mem_filter.1 hx).1
      have hloN : lost.Nodup := by rw [hlost]; exact HM1.out.nd.filter _
      have HLost := Lib.hid hlost
      have HLoN := Lib.hid hloN
      have HLoM := Lib.hid hloM
      clear hlost hloN hloM
      have HS9 := Lib.hid (HS8.out.below hB9)
      have HG9 := Lib.hid (HG8.out.below hB9)
      have HH9 : Hid (Only D.hot w w9) := HH8.out.trans (Only.of_below hB9)
      have H69 : Hid (w9.heap[c6]? = some (Obj.cells #[.int .i64 (leastP g R)] 3 (0, 0))) := (hB9.block c6 (Array.getElem?_eq_some_iff.1 H68.out).1).trans H68.out
      have HRk9 : Hid (∀ W, Only (fun k => D.hot k ∨ u5.ownBlock = some k ∨ wr.heap.size ≤ k) w9 W → IsInts W (.slice aR R.length capR) R) := fun W hW => HRk8.out W ((Only.of_below hB9).trans hW)
      have HLo9 : Hid (OI w9 w.heap.size (.slice aL lost.length cL) lost) := hlo.down hz
      clear hlo hB9 HS8 HQ8 HG8 HIn8 HH8 H68 HRk8 HInI d1 d2 d3 e6 hz
      have hz := HH9.out.size
      have hgl : gone.length ≤ 3000 := Nat.le_trans (pigeonLen HPI.out.gr HPI.out.gn) hn3
      have HKgn : Hid (Kp w9.heap.size w9 D u5 gone) := HG9.out.kp HHot.out (Nat.le_refl _) (by unfold maxN; omega) (mem_I64 hn3 fun x hx => by obtain ⟨v, e, h, -⟩ := HPI.out.gr x hx; exact ⟨v, e, h⟩)
      obtain ⟨d1, d2, d3⟩ := HC.out w9 HH9.out.orB
      by_cases hle : lost.length = 0
      · have hlei : (lost.length : Int) = 0 := by omega
        have hlnil := List.eq_nil_of_length_eq_zero hle
        have HEnd : Hid (Sol g (setOf al) (fun i => wn3.getD i 0) ∧ ∀ v, v < n → al.getD v false = false → wn3.getD v 0 = wn.getD v 0) := by
          show _ ∧ _
          have := HPI.out.won HGO.out HI1.out HSol.out HWl.out HOut.out (by rw [← HInn.out, ← HWn3.out, ← HLost.out, hlnil])
          rw [← HWn3.out] at this
          exact this
        clear hle hlnil
        go_wp2_with fail
        refine (revive_c w9 D g n bf al1 lf1 wn3 _ gone (HS9.out.up hz) HGO.out HKgn.out (fun x hx => by obtain ⟨v, e, h, -⟩ := HPI.out.gr x hx; exact ⟨v, e, h⟩) hgl (HLf.out.bound HGO.out)).mono ?_
        rintro e wz ⟨rfl, haz, hlz, hwz, hoz⟩
        rw [revive_al HLa.out HPI.out.la HPI.out.gr HPI.out.st] at haz
        rw [revive_lf HGO.out HLl.out HS9.out.ll HPI.out.gr HPI.out.gn HPI.out.st HLf0.out HLf.out] at hlz
        have hFin := HH9.out.trans hoz
        go_wp2
        go_end0
        exact ⟨rfl, wn3, haz, hlz, hwz, HS9.out.lw, hFin, HEnd.out.1, HEnd.out.2⟩
      · have hlei : ((lost.length : Int) == 0) = false := beq_eq_false_iff_ne.2 (by omega)
        have hlne : lost ≠ [] := fun e => hle (by rw [e]; rfl)
        have HNe := Lib.hid hlne
        have e6 := cell_of_row _ _ 0 _ _ _ H69.out
        have hp2 := leastP_two (g := g) R
        have hs1 : IntKind.i64.wrap (1 - leastP g R) = 1 - leastP g R := IntWalk.i64_in _ ⟨by omega, by omega⟩
        have HLoI : Hid (IsInts w9 (.slice aL lost.length cL) lost) := HLo9.out.is (by unfold maxN; omega) (mem_I64 hn3 fun x hx => by obtain ⟨v, e, h, -⟩ := HM1.out.rg x (HLoM.out x hx); exact ⟨v, e, h⟩)
        have hloMem : Hid (∀ x ∈ lost, ∃ v : Nat, x = v ∧ v < n ∧ al1.getD v false = true) := fun x hx => by
          obtain ⟨v, e, h, ha⟩ := HM1.out.rg x (HLoM.out x hx)
          exact ⟨v, e, h, ((HSet.out v).1 ha).1⟩
        clear hle hlne HKgn
        go_wp2_with fail
        refine (attract_c w9 D g n bf al1 lf1 wn3 (1 - leastP g R) _ lost (HS9.out.up hz) HGO.out HLoI.out hloMem.out HLoN.out (by omega) HLf.out HPI.out.tot).mono ?_
        rintro e w10 ⟨vq2, st2, rfl, hq2, ha10, hl10, hw10, ho10, hI2⟩
        obtain ⟨aF, cF, rfl⟩ := hq2.slice
        have HI2 := Lib.hid hI2
        have HLf2 := Lib.hid (hI2.lfOK HGO.out)
        have hql2 := hI2.len
        have HS10 : Hid (Sv w.heap.size w10 D g n bf st2.al st2.lf wn3) := HS9.out.after ho10.orB ha10 hl10 hw10 hI2.la hI2.ll HWl3.out
        have HQ10 : Hid (OI w10 w.heap.size (.slice aF st2.q.length cF) st2.q) := hq2.down hz
        have HG10 := Lib.hid (HQH.out _ _ _ _ HG9.out ho10)
        have HH10 : Hid (Only D.hot w w10) := HH9.out.trans ho10
        have H610 := Lib.hid (H6H.out _ _ H69.out ho10)
        have HRk10 : Hid (∀ W, Only (fun k => D.hot k ∨ u5.ownBlock = some k ∨ wr.heap.size ≤ k) w10 W → IsInts W (.slice aR R.length capR) R) := fun W hW => HRk9.out W ((ho10.mono fun _ _ e => .inl e).trans hW)
        clear hq2 ha10 hl10 hw10 ho10 hI2 HS9 HG9 HH9 H69 HRk9 HLo9 HLoI d1 d2 d3 e6 hz
        have hz := HH10.out.size
        obtain ⟨d1, d2, d3⟩ := HC.out w10 HH10.out.orB
        have e6 := cell_of_row _ _ 0 _ _ _ H610.out
        have c6w := HS10.out.field 6 rfl
        go_upto_region 11 with (fail)
        go_still_tail 7, (by kernel_rfl)
        change wpList _ _ _ _ _ w10.drew
        clear d1 d2 d3 e6 c6w hz
        have hdr := Below.drew (Below.refl w10.heap.size w10)
        have HS11 := Lib.hid (HS10.out.below hdr)
        have HQ11 := Lib.hid (HQ10.out.below hdr)
        have HG11 := Lib.hid (HG10.out.below hdr)
        have HH11 : Hid (Only D.hot w w10.drew) := HH10.out.trans (Only.of_below hdr)
        have HRk11 : Hid (∀ W, Only (fun k => D.hot k ∨ u5.ownBlock = some k ∨ wr.heap.size ≤ k) w10.drew W → IsInts W (.slice aR R.length capR) R) := fun W hW => HRk10.out W ((Only.of_below hdr).trans hW)
        clear hdr HS10 HQ10 HG10 HH10 HRk10
        generalize w10.drew = w11 at *
        have hz := HH11.out.size
        go_wp2_with fail
        refine (liftI_c w11 D.bw n _ wn3 st2.q (1 - leastP g R) HS11.out.w HWl3.out (fun W hW => (HQ11.out.only hW fun k hk e => by have := HQ11.out.ge k hk; have := HHot.out k (.inr (.inr e)); omega).is (by unfold maxN; omega) (mem_I64 hn3 fun x hx => by obtain ⟨v, e, h, -⟩ := HI2.out.qr x hx; exact ⟨v, e, h⟩)) (fun x hx => by obtain ⟨v, e, h, -⟩ := HI2.out.qr x hx; exact ⟨v, e, h⟩)).mono ?_
        rintro e w12 ⟨rfl, hw12, ho12'⟩
        have ho12 : Only D.hot w11 w12 := Only.one ho12' (.inr (.inr rfl))
        have HNext := HPI.out.next HGO.out HI1.out HSol.out HWl.out HOut.out lost (by rw [HLost.out, HInn.out, HWn3.out]) HNe.out HI2.out
        rw [← HWn3.out] at HNext
        obtain ⟨wn4, hwn4⟩ : ∃ wn4, wn4 = liftI wn3 st2.q (1 - leastP g R) := ⟨_, rfl⟩
        rw [← hwn4] at hw12 HNext
        have hwl4 : wn4.length = n := by rw [hwn4, liftI_len, HWl3.out]
        clear hwn4
        have HPN := Lib.hid HNext.1
        have hRless := HNext.2
        have HS12 : Hid (Sv w.heap.size w12 D g n bf st2.al st2.lf wn4) := HS11.out.toW ho12' hw12 hwl4
        have HQ12 := Lib.hid (HQH.out _ _ _ _ HQ11.out ho12)
        have HG12 := Lib.hid (HQH.out _ _ _ _ HG11.out ho12)
        have HH12 : Hid (Only D.hot w w12) := HH11.out.trans ho12
        have HRk12 : Hid (∀ W, Only (fun k => D.hot k ∨ u5.ownBlock = some k ∨ wr.heap.size ≤ k) w12 W → IsInts W (.slice aR R.length capR) R) := fun W hW => HRk11.out W ((ho12.mono fun _ _ e => .inl e).trans hW)
        have HQI : Hid (IsInts w12 (.slice aF st2.q.length cF) st2.q) := HQ12.out.is (by unfold maxN; omega) (mem_I64 hn3 fun x hx => by obtain ⟨v, e, h, -⟩ := HI2.out.qr x hx; exact ⟨v, e, h⟩)
        have hMN := HPI.out.mem
        clear hw12 ho12' ho12 hwl4 HNext HS11 HQ11 HG11 HH11 HRk11 hz hMN
        have hz := HH12.out.size
        obtain ⟨R2, hR2⟩ : ∃ R2, R2 = R.filter (inS st2.al) := ⟨_, rfl⟩
        have HR2 := Lib.hid hR2
        rw [← hR2] at HPN hRless
        clear hR2
        go_wp2_with (first | (at_builtin; refine app_set rfl _ _ rfl w.heap.size _ _ gone st2.q HG12.out rfl HQI.out rfl (by omega) hz ?_; intro vg w13 hown13 hg13 hmv13; have HG13 := Lib.hid hown13; have hS13 : Sv w.heap.size w13 D g n bf st2.al st2.lf wn4 := HS12.out.above ((Only.of_grown hg13).mono fun k _ hk => HG12.out.ge k hk); have HS13 := Lib.hid hS13; have HH13 : Hid (Only D.hot w w13) := HH12.out.grow hg13 (fun k hk => HG12.out.ge k hk); have HR13 : Hid (IsInts w13 (.slice aR R.length capR) R) := HRk12.out w13 ((Only.of_grown hg13).mono fun k _ hk => .inr (.inl hk)); have d1 := (HC.out w13 HH13.out.orB).1; have d2 := (HC.out w13 HH13.out.orB).2.1; have d3 := (HC.out w13 HH13.out.orB).2.2; clear hown13 hg13 hmv13 hS13) | fail)
        refine (keep_c w13 _ R _ _ (inS st2.al) HR13.out (by omega) enters_living (fun W2 hW2 x hx => ?_)).mono ?_
        · obtain ⟨v, rfl, hv, -⟩ := HPI.out.mem.rg x hx
          exact living_c W2 (HS13.out.below hW2) c1 v (cellB hW2 d1) hv
        rintro e w14 ⟨vR, rfl, hR14, hB14⟩
        rw [← HR2.out] at hR14
        have HS14 := Lib.hid (HS13.out.below hB14)
        have HG14 := Lib.hid (HG13.out.below hB14)
        have HH14 : Hid (Only D.hot w w14) := HH13.out.trans (Only.of_below hB14)
        have hz13 := HH13.out.size
        have HKg14 : Hid (∀ W, Only (fun k => D.hot k ∨ vg.ownBlock = some k ∨ w14.heap.size ≤ k) w14 W → IsInts W vR R2) := fun W hW => (hR14.only hW fun k hk hh => by
          have h1 := hR14.ge k hk
          have h2 := hR14.lt' k hk
          rcases hh with h | h | h
          · have := HHot.out k h; omega
          · have := HG13.out.lt' k h; omega
          · omega).is (by have := HPN.out.mem.len; unfold maxN; omega) (mem_I64 hn3 fun x hx => by obtain ⟨v, e, h, -⟩ := HPN.out.mem.rg x hx; exact ⟨v, e, h⟩)
        clear hR14 hB14 d1 d2 d3
        go_wp2
        go_roundg R2.length
        case rel => exact ⟨st2.al, st2.lf, wn4, R2, gone ++ st2.q, rfl, by omega, HPN, HS14, HLf2, HG14, HH14, HKg14⟩
        case measure => omega

set_option maxRecDepth 100000 in
set_option maxHeartbeats 4000000 in
theorem run_c (w : World) (D : Ad) (g : Gm) (n : Nat) (bf : List (List Int)) (al : List Bool) (lf wn : List Int) (vr : Value) (r : List Int) (hS : Sv w.heap.size w D g n bf al lf wn) (hG : GOK g n bf) (hr : Kp w.heap.size w D vr r)
    (hM : Mem n al r) (hlf : LfOK g n al lf) (htot : TotB g n al) :
    Calls Try.prog 46 #[.pointer (some ⟨D.sp, 0, none⟩), vr] w (Part1 w D g n al lf wn) := by
  have HS := Lib.hid hS
  have HG := Lib.hid hG
  have HR := Lib.hid hr
  have HM := Lib.hid hM
  have HL := Lib.hid hlf
  have HT := Lib.hid htot
  have HHot : Hid (∀ k, D.hot k → k < w.heap.size) := hS.hot_lt
  clear hS hG hr hM hlf htot
  go_enter Try.func46, Try.ntmps46
  go_upto_region 4 with (fail)
  have hb1 := bel_box (w := w) (Obj.cells #[.pointer (some ⟨D.sp, 0, none⟩)] 68)
  have hb2 := bel_box (w := w.alloc (Obj.cells #[.pointer (some ⟨D.sp, 0, none⟩)] 68)) (Obj.cells #[.func (.func 62) #[] #[.pointer (some ⟨w.heap.size, 0, none⟩)]] 87)
  have hb3 := bel_box (w := (w.alloc (Obj.cells #[.pointer (some ⟨D.sp, 0, none⟩)] 68)).alloc (Obj.cells #[.func (.func 62) #[] #[.pointer (some ⟨w.heap.size, 0, none⟩)]] 87)) (Obj.cells #[.func (.func 63) #[] #[.pointer (some ⟨w.heap.size, 0, none⟩), .pointer (some ⟨w.heap.size + 1, 0, none⟩), .pointer (some ⟨w.heap.size + 1 + 1, 0, none⟩)]] 72)
  have hb := hb1.trans ((hb2.trans (hb3.mono hb2.size)).mono hb1.size)
  have k1 : (((w.alloc (Obj.cells #[.pointer (some ⟨D.sp, 0, none⟩)] 68)).alloc (Obj.cells #[.func (.func 62) #[] #[.pointer (some ⟨w.heap.size, 0, none⟩)]] 87)).alloc (Obj.cells #[.func (.func 63) #[] #[.pointer (some ⟨w.heap.size, 0, none⟩), .pointer (some ⟨w.heap.size + 1, 0, none⟩), .pointer (some ⟨w.heap.size + 1 + 1, 0, none⟩)]] 72)).heap[w.heap.size]? = some (Obj.cells #[.pointer (some ⟨D.sp, 0, none⟩)] 68 (0, 0)) := by
    rw [hb3.block _ (by simp; omega), hb2.block _ (by simp)]; exact heap_alloc_new w _
  have k2 : (((w.alloc (Obj.cells #[.pointer (some ⟨D.sp, 0, none⟩)] 68)).alloc (Obj.cells #[.func (.func 62) #[] #[.pointer (some ⟨w.heap.size, 0, none⟩)]] 87)).alloc (Obj.cells #[.func (.func 63) #[] #[.pointer (some ⟨w.heap.size, 0, none⟩), .pointer (some ⟨w.heap.size + 1, 0, none⟩), .pointer (some ⟨w.heap.size + 1 + 1, 0, none⟩)]] 72)).heap[w.heap.size + 1]? = some (Obj.cells #[.func (.func 62) #[] #[.pointer (some ⟨w.heap.size, 0, none⟩)]] 87 (0, 0)) := by
    rw [hb3.block _ (by simp)]
    have := heap_alloc_new (w.alloc (Obj.cells #[.pointer (some ⟨D.sp, 0, none⟩)] 68)) (Obj.cells #[.func (.func 62) #[] #[.pointer (some ⟨w.heap.size, 0, none⟩)]] 87)
    rwa [World.size_alloc] at this
  have k3 : (((w.alloc (Obj.cells #[.pointer (some ⟨D.sp, 0, none⟩)] 68)).alloc (Obj.cells #[.func (.func 62) #[] #[.pointer (some ⟨w.heap.size, 0, none⟩)]] 87)).alloc (Obj.cells #[.func (.func 63) #[] #[.pointer (some ⟨w.heap.size, 0, none⟩), .pointer (some ⟨w.heap.size + 1, 0, none⟩), .pointer (some ⟨w.heap.size + 1 + 1, 0, none⟩)]] 72)).heap[w.heap.size + 1 + 1]? = some (Obj.cells #[.func (.func 63) #[] #[.pointer (some ⟨w.heap.size, 0, none⟩), .pointer (some ⟨w.heap.size + 1, 0, none⟩), .pointer (some ⟨w.heap.size + 1 + 1, 0, none⟩)]] 72 (0, 0)) := by
    have := heap_alloc_new ((w.alloc (Obj.cells #[.pointer (some ⟨D.sp, 0, none⟩)] 68)).alloc (Obj.cells #[.func (.func 62) #[] #[.pointer (some ⟨w.heap.size, 0, none⟩)]] 87)) (Obj.cells #[.func (.func 63) #[] #[.pointer (some ⟨w.heap.size, 0, none⟩), .pointer (some ⟨w.heap.size + 1, 0, none⟩), .pointer (some ⟨w.heap.size + 1 + 1, 0, none⟩)]] 72)
    rwa [World.size_alloc, World.size_alloc] at this
  have hsz : (((w.alloc (Obj.cells #[.pointer (some ⟨D.sp, 0, none⟩)] 68)).alloc (Obj.cells #[.func (.func 62) #[] #[.pointer (some ⟨w.heap.size, 0, none⟩)]] 87)).alloc (Obj.cells #[.func (.func 63) #[] #[.pointer (some ⟨w.heap.size, 0, none⟩), .pointer (some ⟨w.heap.size + 1, 0, none⟩), .pointer (some ⟨w.heap.size + 1 + 1, 0, none⟩)]] 72)).heap.size = w.heap.size + 1 + 1 + 1 := by rw [World.size_alloc, World.size_alloc, World.size_alloc]
  clear hb1 hb2 hb3
  have e5 := cell_of_row _ _ 0 _ _ _ k3
  generalize (((w.alloc (Obj.cells #[.pointer (some ⟨D.sp, 0, none⟩)] 68)).alloc (Obj.cells #[.func (.func 62) #[] #[.pointer (some ⟨w.heap.size, 0, none⟩)]] 87)).alloc (Obj.cells #[.func (.func 63) #[] #[.pointer (some ⟨w.heap.size, 0, none⟩), .pointer (some ⟨w.heap.size + 1, 0, none⟩), .pointer (some ⟨w.heap.size + 1 + 1, 0, none⟩)]] 72)) = w4 at *
  have HS4 : Hid (Sv w4.heap.size w4 D g n bf al lf wn) := (HS.out.below hb).up hb.size
  have HR4 : Hid (Kp w4.heap.size w4 D vr r) := (HR.out.only (Only.of_below hb)).up hb.size
  have HC : Hid (Cx w4.heap.size w4 D w.heap.size (w.heap.size + 1) (w.heap.size + 1 + 1)) := fun W hW => by
    have hh : ∀ k, w.heap.size ≤ k → k < w4.heap.size → ¬ (D.hot k ∨ w4.heap.size ≤ k) := fun k h1 h2 h => by
      rcases h with h | h
      · have := HHot.out k h; omega
      · omega
    exact ⟨cell_of_row _ _ 0 _ _ _ ((hW.block _ (by omega) (hh _ (by omega) (by omega))).trans k1), cell_of_row _ _ 0 _ _ _ ((hW.block _ (by omega) (hh _ (by omega) (by omega))).trans k2), cell_of_row _ _ 0 _ _ _ ((hW.block _ (by omega) (hh _ (by omega) (by omega))).trans k3)⟩
  have HB := Lib.hid hb
  clear k1 k2 k3 hb
  go_wp2_with fail
  refine (part_c (r.length + 1) w4 D g n bf al lf wn vr r _ _ _ (by omega) HS4.out HG.out HR4.out HM.out HL.out HT.out HC.out).mono ?_
  rintro e w5 ⟨rfl, wn', ha, hl, hw, hwl, ho, hs, hout⟩
  have hF : Only D.hot w w5 := (Only.of_below HB.out).trans ho
  go_wp2
  go_end0
  exact ⟨rfl, wn', ha, hl, hw, hwl, hF, hs, hout⟩

/-- What is known behind the makes. -/
structure NS0 (w wx : World) (n sp ba bl bw ob : Nat) (v0 v1 v2 : Value) : Prop where
  bx : Below w.heap.size w wx
  g : wx.heap[w.heap.size]? = some (.cells #[v0, v1, v2] 25 (0, 0))
  box : wx.heap[sp]? = some (.cells #[v0, v1, v2, .slice (some ⟨ob, 0, none⟩) n n, .slice (some ⟨ba, 0, none⟩) n n, .slice (some ⟨bl, 0, none⟩) n n, .slice (some ⟨bw, 0, none⟩) n n] 74 (0, 0))
  ra : wx.heap[ba]? = some (.cells (madeCells #[.bool false] n) 4 (0, 0))
  rl : wx.heap[bl]? = some (.cells (madeCells #[.int .i64 0] n) 3 (0, 0))
  rw' : wx.heap[bw]? = some (.cells (madeCells #[.int .i64 0] n) 3 (0, 0))
  ro : wx.heap[ob]? = some (.cells (madeCells #[.slice none 0 0] n) 22 (0, 0))
  ne : ba ≠ bl ∧ ba ≠ bw ∧ bl ≠ bw ∧ ba ≠ sp ∧ bl ≠ sp ∧ bw ≠ sp ∧ ob ≠ sp ∧ ob ≠ ba ∧ ob ≠ bl ∧ ob ≠ bw
  gt : w.heap.size < sp ∧ w.heap.size < ba ∧ w.heap.size < bl ∧ w.heap.size < bw ∧ w.heap.size < ob

theorem Rows.push {w w' : World} {B n ob : Nat} {vals : List Value} {bf : List (List Int)} {v' : Value} {u : Nat} {l : List Int} (h : Rows w B n ob vals bf) (hu : u < n) (hv : OI w' B v' l) (hg : w.grownBy w' (vals.getD u undef).ownBlock) (hm : Moved w (vals.getD u undef) v') :
    w'.cell? ⟨ob, u, none⟩ = some (vals.getD u undef) ∧ w'.frozen? ⟨ob, u, none⟩ = false ∧ Rows (w'.setCell ⟨ob, u, none⟩ v') B n ob (vals.set u v') (bf.set u l) := by
  have ho1 : Only (fun k => (vals.getD u undef).ownBlock = some k) w w' := Only.of_grown hg
  have ho : w'.ownsRow B 22 1 (.slice (some ⟨ob, 0, none⟩) n n) n vals := ownsRow_only h.o ho1 (fun k hk => by cases hk; exact h.ob' u hu)
  have hfresh : ∀ b, v'.ownBlock = some b → b ≠ ob := fun b hb => by
    rcases hm b hb with e | e
    · exact fun x => h.ob' u hu (x ▸ e)
    · have hr := h.row.2; omega
  have ho2 : Only (fun k => k = ob) w' (w'.setCell ⟨ob, u, none⟩ v') := Only.set ob u v' rfl
  have hlv : u < vals.length := by rw [h.lv]; exact hu
  have hlr : u < bf.length := by rw [h.lr]; exact hu
  refine ⟨?_, World.ownsRow.frozenAt ho u, ⟨(World.ownsRow.stored ho u v').1, fun j hj => ?_, fun i j hi hj hij => ?_, fun j hj => ?_, by simpa using h.lv, by simpa using h.lr⟩⟩
  · rw [World.ownsRow.cellAt ho u (by omega), List.getD]; simp [hlv]
  · by_cases e : u = j
    · subst e
      rw [getD_set_eq _ _ _ _ hlv, getD_set_eq _ _ _ _ hlr]
      exact hv.only ho2 (fun k hk x => hfresh k hk x)
    · rw [getD_set_ne _ _ _ _ _ e, getD_set_ne _ _ _ _ _ e]
      exact ((h.e j hj).only ho1 (fun k hk x => h.a u j hu hj e k x hk)).only ho2 (fun k hk x => h.ob' j hj (x ▸ hk))
  · have aux : ∀ j, j < n → u ≠ j → Apart v' (vals.getD j undef) := fun j hj e k h1 h2 => by
      rcases hm k h1 with x | x
      · exact h.a u j hu hj e k x h2
      · have := (h.e j hj).lt' k h2; omega
    by_cases e : u = i
    · subst e
      rw [getD_set_eq _ _ _ _ hlv, getD_set_ne _ _ _ _ _ hij]
      exact aux j hj hij
    · by_cases e2 : u = j
      · subst e2
        rw [getD_set_eq _ _ _ _ hlv, getD_set_ne _ _ _ _ _ e]
        exact (aux i hi e).symm
      · rw [getD_set_ne _ _ _ _ _ e, getD_set_ne _ _ _ _ _ e2]
        exact h.a i j hi hj hij
  · by_cases e : u = j
    · subst e
      rw [getD_set_eq _ _ _ _ hlv]
      exact fun x => hfresh ob x rfl
    · rw [getD_set_ne _ _ _ _ _ e]; exact h.ob' j hj

/-- What is known in the loops of newSolver. -/
structure NS (w wr : World) (n sp ba bl bw ob bq : Nat) (v0 v1 v2 : Value) (vals : List Value) (al : List Bool) (lf aq : List Int) (bf : List (List Int)) : Prop where
  bx : Below w.heap.size w wr
  g : wr.heap[w.heap.size]? = some (.cells #[v0, v1, v2] 25 (0, 0))
  box : wr.heap[sp]? = some (.cells #[v0, v1, v2, .slice (some ⟨ob, 0, none⟩) n n, .slice (some ⟨ba, 0, none⟩) n n, .slice (some ⟨bl, 0, none⟩) n n, .slice (some ⟨bw, 0, none⟩) n n] 74 (0, 0))
  A : OB wr (w.heap.size + 1) (.slice (some ⟨ba, 0, none⟩) n n) al
  L : OI wr (w.heap.size + 1) (.slice (some ⟨bl, 0, none⟩) n n) lf
  W : OI wr (w.heap.size + 1) (.slice (some ⟨bw, 0, none⟩) n n) (List.replicate n 0)
  Q : OI wr (w.heap.size + 1) (.slice (some ⟨bq, 0, none⟩) n n) aq
  R : Rows wr (w.heap.size + 1) n ob vals bf
  la : al.length = n
  ll : lf.length = n
  lq : aq.length = n
  ne : (ba ≠ bl ∧ ba ≠ bw ∧ bl ≠ bw ∧ ba ≠ sp ∧ bl ≠ sp ∧ bw ≠ sp ∧ ob ≠ sp ∧ ob ≠ ba ∧ ob ≠ bl ∧ ob ≠ bw) ∧ bq ≠ ba ∧ bq ≠ bl ∧ bq ≠ bw ∧ bq ≠ sp ∧ bq ≠ ob
  gt : (w.heap.size < sp ∧ w.heap.size < ba ∧ w.heap.size < bl ∧ w.heap.size < bw ∧ w.heap.size < ob) ∧ w.heap.size < bq
  x : ∀ j, j < n → ∀ b, (vals.getD j undef).ownBlock = some b → b ≠ sp ∧ b ≠ ba ∧ b ≠ bl ∧ b ≠ bw ∧ b ≠ bq

section
variable {w wr w' : World} {n sp ba bl bw ob bq : Nat} {v0 v1 v2 : Value} {vals : List Value} {al : List Bool} {lf aq : List Int} {bf : List (List Int)}
theorem ownB {b k : Nat} {n c : Nat} (h : (Value.slice (some ⟨b, 0, none⟩) n c).ownBlock = some k) : k = b := by simpa [Value.ownBlock] using h.symm
end

section
variable {w wr w' : World} {n sp ba bl bw ob bq : Nat} {v0 v1 v2 : Value} {vals : List Value} {al : List Bool} {lf aq : List Int} {bf : List (List Int)}
theorem NS.lt (h : NS w wr n sp ba bl bw ob bq v0 v1 v2 vals al lf aq bf) : sp < wr.heap.size ∧ ba < wr.heap.size ∧ bl < wr.heap.size ∧ bw < wr.heap.size ∧ ob < wr.heap.size ∧ bq < wr.heap.size ∧ w.heap.size < wr.heap.size :=
  ⟨(Array.getElem?_eq_some_iff.1 h.box).1, (World.ownsRow.lt h.A ba rfl).2, h.L.lt' bl rfl, h.W.lt' bw rfl, h.R.row.2, h.Q.lt' bq rfl, (Array.getElem?_eq_some_iff.1 h.g).1⟩
end

section
variable {w wr w' : World} {n sp ba bl bw ob bq : Nat} {v0 v1 v2 : Value} {vals : List Value} {al : List Bool} {lf aq : List Int} {bf : List (List Int)}
/-- Behind a write to one of the lists. -/
theorem NS.setA (h : NS w wr n sp ba bl bw ob bq v0 v1 v2 vals al lf aq bf) (j : Nat) (b : Bool) : NS w (wr.setCell ⟨ba, j, none⟩ (.bool b)) n sp ba bl bw ob bq v0 v1 v2 vals (al.set j b) lf aq bf := by
  have ho : Only (fun k => k = ba) wr (wr.setCell ⟨ba, j, none⟩ (.bool b)) := Only.set ba j _ rfl
  have hn := h.ne
  have hg := h.gt
  have hl := h.lt
  exact { h with
    bx := h.bx.setCell (by show w.heap.size ≤ ba; omega) _
    g := (ho.block _ hl.2.2.2.2.2.2 (by omega)).trans h.g
    box := (ho.block _ hl.1 (by omega)).trans h.box
    A := h.A.set h.la.symm j b
    L := h.L.only ho fun k hk e => by have := ownB hk; omega
    W := h.W.only ho fun k hk e => by have := ownB hk; omega
    Q := h.Q.only ho fun k hk e => by have := ownB hk; omega
    R := h.R.only ho (by omega) fun i hi b hb e => (h.x i hi b hb).2.1 e
    la := by rw [List.length_set]; exact h.la }
end

section
variable {w wr w' : World} {n sp ba bl bw ob bq : Nat} {v0 v1 v2 : Value} {vals : List Value} {al : List Bool} {lf aq : List Int} {bf : List (List Int)}
theorem NS.setL (h : NS w wr n sp ba bl bw ob bq v0 v1 v2 vals al lf aq bf) (j : Nat) (b : Int) : NS w (wr.setCell ⟨bl, j, none⟩ (.int .i64 b)) n sp ba bl bw ob bq v0 v1 v2 vals al (lf.set j b) aq bf := by
  have ho : Only (fun k => k = bl) wr (wr.setCell ⟨bl, j, none⟩ (.int .i64 b)) := Only.set bl j _ rfl
  have hn := h.ne
  have hg := h.gt
  have hl := h.lt
  exact { h with
    bx := h.bx.setCell (by show w.heap.size ≤ bl; omega) _
    g := (ho.block _ hl.2.2.2.2.2.2 (by omega)).trans h.g
    box := (ho.block _ hl.1 (by omega)).trans h.box
    A := OB.only h.A ho fun k hk e => by have := ownB hk; omega
    L := h.L.set h.ll.symm j b
    W := h.W.only ho fun k hk e => by have := ownB hk; omega
    Q := h.Q.only ho fun k hk e => by have := ownB hk; omega
    R := h.R.only ho (by omega) fun i hi b hb e => (h.x i hi b hb).2.2.1 e
    ll := by rw [List.length_set]; exact h.ll }
end

section
variable {w wr w' : World} {n sp ba bl bw ob bq : Nat} {v0 v1 v2 : Value} {vals : List Value} {al : List Bool} {lf aq : List Int} {bf : List (List Int)}
theorem NS.setQ (h : NS w wr n sp ba bl bw ob bq v0 v1 v2 vals al lf aq bf) (j : Nat) (b : Int) : NS w (wr.setCell ⟨bq, j, none⟩ (.int .i64 b)) n sp ba bl bw ob bq v0 v1 v2 vals al lf (aq.set j b) bf := by
  have ho : Only (fun k => k = bq) wr (wr.setCell ⟨bq, j, none⟩ (.int .i64 b)) := Only.set bq j _ rfl
  have hn := h.ne
  have hg := h.gt
  have hl := h.lt
  exact { h with
    bx := h.bx.setCell (by show w.heap.size ≤ bq; omega) _
    g := (ho.block _ hl.2.2.2.2.2.2 (by omega)).trans h.g
    box := (ho.block _ hl.1 (by omega)).trans h.box
    A := OB.only h.A ho fun k hk e => by have := ownB hk; omega
    L := h.L.only ho fun k hk e => by have := ownB hk; omega
    W := h.W.only ho fun k hk e => by have := ownB hk; omega
    Q := h.Q.set h.lq.symm j b
    R := h.R.only ho (by omega) fun i hi b hb e => (h.x i hi b hb).2.2.2.2 e
    lq := by rw [List.length_set]; exact h.lq }
end

section
variable {w wr w' : World} {n sp ba bl bw ob bq : Nat} {v0 v1 v2 : Value} {vals : List Value} {al : List Bool} {lf aq : List Int} {bf : List (List Int)}
/-- A row has grown, and is stored. -/
theorem NS.row (h : NS w wr n sp ba bl bw ob bq v0 v1 v2 vals al lf aq bf) {v' : Value} {u : Nat} {l : List Int} (hu : u < n) (hv : OI w' (w.heap.size + 1) v' l) (hg : wr.grownBy w' (vals.getD u undef).ownBlock) (hm : Moved wr (vals.getD u undef) v') :
    w'.cell? ⟨ob, u, none⟩ = some (vals.getD u undef) ∧ w'.frozen? ⟨ob, u, none⟩ = false ∧ NS w (w'.setCell ⟨ob, u, none⟩ v') n sp ba bl bw ob bq v0 v1 v2 (vals.set u v') al lf aq (bf.set u l) := by
  obtain ⟨r1, r2, r3⟩ := h.R.push hu hv hg hm
  have ho1 : Only (fun k => (vals.getD u undef).ownBlock = some k) wr w' := Only.of_grown hg
  have ho2 : Only (fun k => k = ob) w' (w'.setCell ⟨ob, u, none⟩ v') := Only.set ob u v' rfl
  have ho : Only (fun k => (vals.getD u undef).ownBlock = some k ∨ k = ob) wr (w'.setCell ⟨ob, u, none⟩ v') := (ho1.mono fun _ _ e => .inl e).trans (ho2.mono fun _ _ e => .inr e)
  have hn := h.ne
  have hgt := h.gt
  have hl := h.lt
  have hx := h.x u hu
  have hge := fun k (e : (vals.getD u undef).ownBlock = some k) => (h.R.e u hu).ge k e
  refine ⟨r1, r2, { h with
    bx := h.bx.trans (ho.below _ (fun k hk => by rcases hk with e | e; have := hge k e; omega; omega) h.bx.size)
    g := (ho.block _ hl.2.2.2.2.2.2 (fun e => by rcases e with e | e; have := hge _ e; omega; omega)).trans h.g
    box := (ho.block _ hl.1 (fun e => by rcases e with e | e; exact (hx _ e).1 rfl; omega)).trans h.box
    A := OB.only h.A ho fun k hk e => by have := ownB hk; subst this; rcases e with e | e; exact (hx _ e).2.1 rfl; omega
    L := h.L.only ho fun k hk e => by have := ownB hk; subst this; rcases e with e | e; exact (hx _ e).2.2.1 rfl; omega
    W := h.W.only ho fun k hk e => by have := ownB hk; subst this; rcases e with e | e; exact (hx _ e).2.2.2.1 rfl; omega
    Q := h.Q.only ho fun k hk e => by have := ownB hk; subst this; rcases e with e | e; exact (hx _ e).2.2.2.2 rfl; omega
    R := r3
    x := fun j hj b hb => ?_ }⟩
  have hlv : u < vals.length := by rw [h.R.lv]; exact hu
  by_cases e : u = j
  · subst e
    rw [getD_set_eq _ _ _ _ hlv] at hb
    rcases hm b hb with e | e
    · exact hx b e
    · omega
  · rw [getD_set_ne _ _ _ _ _ e] at hb
    exact h.x j hj b hb
end

/-- The lists behind k positions. -/
def nsAl (n : Nat) : Nat → List Bool
  | 0 => List.replicate n false
  | k + 1 => (nsAl n k).set k true

def nsLf (g : Gm) (n : Nat) : Nat → List Int
  | 0 => List.replicate n 0
  | k + 1 => (nsLf g n k).set k ((g.succ.getD k []).length : Int)

def nsQ (n : Nat) : Nat → List Int
  | 0 => List.replicate n 0
  | k + 1 => (nsQ n k).set k (k : Int)

def nsBf (g : Gm) (n : Nat) : Nat → List (List Int)
  | 0 => List.replicate n []
  | k + 1 => pushAll (nsBf g n k) k (g.succ.getD k [])

theorem nsBf_row (g : Gm) (n : Nat) (hS : ∀ i, (g.succ.getD i []).length ≤ 1000) (k j : Nat) : ((nsBf g n k).getD j []).length ≤ 1000 * k := by
  induction k with
  | zero => simp only [nsBf, List.getD, List.getElem?_replicate]; split <;> simp
  | succ k ih =>
    have h1 := pushAll_row (nsBf g n k) k (g.succ.getD k []) j
    have h2 := hS k
    simp only [nsBf]; omega

/-- What newSolver leaves. -/
def NewSv (w : World) (g : Gm) (n : Nat) (v0 v1 v2 : Value) (e : Ending) (w' : World) : Prop :=
  ∃ sp ba bl bw ob bq vals, e = .returned (.tuple #[.pointer (some ⟨sp, 0, none⟩), .slice (some ⟨bq, 0, none⟩) n n]) ∧ NS w w' n sp ba bl bw ob bq v0 v1 v2 vals (nsAl n n) (nsLf g n n) (nsQ n n) (nsBf g n n)

set_option maxRecDepth 100000 in
set_option maxHeartbeats 8000000 in
theorem newSolver_c (w : World) (v0 v1 v2 : Value) (g : Gm) (n : Nat) (hg : IsGame w (.agg #[v0, v1, v2]) g) (F : Fits g 0 n) (hS : ∀ i, (g.succ.getD i []).length ≤ 1000) :
    Calls Try.prog 45 #[.agg #[v0, v1, v2]] w (NewSv w g n v0 v1 v2) := by
  obtain ⟨u0, u1, u2, hu, ⟨⟨ao0, cap0, b0, off0, h0, g0⟩, _⟩, ⟨⟨ao1, cap1, b1, off1, h1, g1⟩, _⟩, ⟨V, ⟨ao2, cap2, b2, off2, h2, g2⟩, hr⟩⟩ := hg
  obtain ⟨rfl, rfl, rfl⟩ : v0 = u0 ∧ v1 = u1 ∧ v2 = u2 := by simpa using hu
  subst h0 h1 h2
  clear hu
  have hle := F.le
  have hon := F.on
  have hsn := F.sn
  rw [hon] at g0
  rw [hsn] at g2 hr
  have mkb := fun wx => run_make_row' (P := Try.prog) 39 4 (.bool false) 1 Try.underlying39 info_bool rfl .i64 .i64 n (by omega) (by omega) wx
  have mki := fun wx => run_make_row' (P := Try.prog) 22 3 (.int .i64 0) 8 Try.underlying22 info_int rfl .i64 .i64 n (by omega) (by omega) wx
  have mkr := fun wx => run_make_row' (P := Try.prog) 23 22 (.slice none 0 0) 24 Try.underlying23 info_ints rfl .i64 .i64 n (by omega) (by omega) wx
  rw [hon, hsn]
  clear hon hsn g1
  go_enter Try.func45, Try.ntmps45
  go_upto_region 2 with (fail)
  go_cut [5] (fun s5 wx => ∃ sp ba bl bw ob, s5 = .pointer (some ⟨sp, 0, none⟩) ∧ Hid (NS0 w wx n sp ba bl bw ob (.slice ao0 n cap0) (.slice ao1 g.prio.length cap1) (.slice ao2 n cap2)))
  case first =>
    go_region
    all_goals
      go_wp2_with fail
      go_meet
      case rel =>
        refine ⟨w.heap.size + 1 + 1 + 1 + 1 + 1, _, _, _, _, rfl, NS0.mk ?_ ?_ (by rw [drew_heap, alloc_get, if_pos (by simp)]) (by rw [drew_heap]; repeat (rw [alloc_get]; first | rw [if_pos (by first | (simp; done) | (simp; omega))] | rw [if_neg (by first | (simp; done) | (simp; omega))])) (by rw [drew_heap]; repeat (rw [alloc_get]; first | rw [if_pos (by first | (simp; done) | (simp; omega))] | rw [if_neg (by first | (simp; done) | (simp; omega))])) (by rw [drew_heap]; repeat (rw [alloc_get]; first | rw [if_pos (by first | (simp; done) | (simp; omega))] | rw [if_neg (by first | (simp; done) | (simp; omega))])) (by rw [drew_heap]; repeat (rw [alloc_get]; first | rw [if_pos (by first | (simp; done) | (simp; omega))] | rw [if_neg (by first | (simp; done) | (simp; omega))])) ⟨by omega, by omega, by omega, by omega, by omega, by omega, by omega, by omega, by omega, by omega⟩ ⟨by omega, by omega, by omega, by omega, by omega⟩⟩
        · exact (by repeat (first | exact Below.refl _ _ | assumption | (refine belA ?_ _) | (refine belD ?_ _) | (refine Below.drew ?_)))
        · exact (by rw [drew_heap]; repeat (rw [alloc_get]; first | rw [if_pos (by first | (simp; done) | (simp; omega))] | rw [if_neg (by first | (simp; done) | (simp; omega))]))
  case rest =>
    obtain ⟨sp, ba, bl, bw, ob, rfl, H0⟩ := hcut
    clear mkb mki mkr
    have mks := fun wx => run_make_row' (P := Try.prog) 69 3 (.int .i64 0) 8 Try.underlying69 info_int rfl .i64 .i64 n (by omega) (by omega) wx
    have hbx := bel_box (w := wc) (.cells (madeCells #[.int .i64 0] n) 3)
    have hl1 := (Array.getElem?_eq_some_iff.1 H0.out.box).1
    have hl2 := (Array.getElem?_eq_some_iff.1 H0.out.ra).1
    have hl3 := (Array.getElem?_eq_some_iff.1 H0.out.rl).1
    have hl4 := (Array.getElem?_eq_some_iff.1 H0.out.rw').1
    have hl5 := (Array.getElem?_eq_some_iff.1 H0.out.ro).1
    have hl6 := (Array.getElem?_eq_some_iff.1 H0.out.g).1
    have hne := H0.out.ne
    have hgt := H0.out.gt
    have HN : Hid (NS w (wc.alloc (.cells (madeCells #[.int .i64 0] n) 3)) n sp ba bl bw ob wc.heap.size (.slice ao0 n cap0) (.slice ao1 g.prio.length cap1) (.slice ao2 n cap2) (List.replicate n (.slice none 0 0)) (nsAl n 0) (nsLf g n 0) (nsQ n 0) (nsBf g n 0)) :=
      { bx := H0.out.bx.trans (hbx.mono H0.out.bx.size)
        g := (hbx.block _ hl6).trans H0.out.g
        box := (hbx.block _ hl1).trans H0.out.box
        A := OB_made ((hbx.block _ hl2).trans H0.out.ra) (by omega) hle
        L := OI_made ((hbx.block _ hl3).trans H0.out.rl) (by omega) hle
        W := OI_made ((hbx.block _ hl4).trans H0.out.rw') (by omega) hle
        Q := OI_made (heap_alloc_new _ _) (by omega) hle
        R := Rows.made ((hbx.block _ hl5).trans H0.out.ro) (by omega) hle
        la := by simp [nsAl]
        ll := by simp [nsLf]
        lq := by simp [nsQ]
        ne := ⟨hne, by omega, by omega, by omega, by omega, by omega⟩
        gt := ⟨hgt, by omega⟩
        x := fun j hj b hb => by simp [List.getD, hj, Value.ownBlock] at hb }
    have d2 : (wc.alloc (.cells (madeCells #[.int .i64 0] n) 3)).cell? ⟨w.heap.size, 2, none⟩ = some (.slice ao2 n cap2) := cell_of_row _ _ 2 _ _ _ HN.out.g
    clear hbx hl1 hl2 hl3 hl4 hl5 hl6 hne hgt H0
    go_wp2
    clear mks d2
    generalize wc.heap.size = bq at *
    go_loopg [7, 8, 30] n (fun gh _ _ i wr => ∃ (k : Nat) (vals : List Value), gh = n - k ∧ i = .int .i64 k ∧ k ≤ n ∧ Hid (NS w wr n sp ba bl bw ob bq (.slice ao0 n cap0) (.slice ao1 g.prio.length cap1) (.slice ao2 n cap2) vals (nsAl n k) (nsLf g n k) (nsQ n k) (nsBf g n k)))
    case atStart => exact ⟨0, _, by omega, rfl, by omega, HN⟩
    case round =>
      clear HN
      obtain ⟨k, vals, rfl, rfl, hk, HN⟩ := hrel
      by_cases hlt : k < n
      · have hrow := hr k hlt
        have hrg := F.rg k hlt
        have hSk := hS k
        have hrl := nsBf_row g n hS k
        have HA1 : Hid (nsAl n (k + 1) = (nsAl n k).set k true) := rfl
        have HL1 : Hid (nsLf g n (k + 1) = (nsLf g n k).set k ((g.succ.getD k []).length : Int)) := rfl
        have HQ1 : Hid (nsQ n (k + 1) = (nsQ n k).set k (k : Int)) := rfl
        have HB1 : Hid (nsBf g n (k + 1) = pushAll (nsBf g n k) k (g.succ.getD k [])) := rfl
        generalize nsAl n k = al at *
        generalize nsLf g n k = lf at *
        generalize nsQ n k = aq at *
        generalize nsBf g n k = bf at *
        generalize g.succ.getD k [] = row at *
        obtain ⟨⟨ao3, cap3, b3, off3, hv3, g3⟩, -⟩ := hrow
        obtain rfl := g2.ad (by omega)
        have c2 := cellB HN.out.bx (g2.el k hlt)
        rw [hv3] at c2
        have H1 := Lib.hid hrg
        have H2 := Lib.hid hrl
        have hn3 : row.length ≤ 1000 := hSk
        obtain ⟨x3, q1⟩ : ∃ x, wr.cell? ⟨bq, k, none⟩ = some (.int .i64 x) := ⟨_, HN.out.Q.at' HN.out.lq.symm k (by rw [HN.out.lq]; exact hlt)⟩
        have q2 := HN.out.Q.fz HN.out.lq.symm k
        have N1 := HN.out.setQ k (k : Int)
        have e4 := cell_of_row _ _ 4 _ _ _ N1.box
        obtain ⟨x1, a1⟩ : ∃ x, (wr.setCell ⟨bq, k, none⟩ (.int .i64 k)).cell? ⟨ba, k, none⟩ = some (.bool x) := ⟨_, N1.A.at' N1.la.symm k (by rw [N1.la]; exact hlt)⟩
        have a2 := N1.A.fz N1.la.symm k
        have N2 := N1.setA k true
        have e5 := cell_of_row _ _ 5 _ _ _ N2.box
        obtain ⟨x2, l1⟩ : ∃ x, ((wr.setCell ⟨bq, k, none⟩ (.int .i64 k)).setCell ⟨ba, k, none⟩ (.bool true)).cell? ⟨bl, k, none⟩ = some (.int .i64 x) := ⟨_, N2.L.at' N2.ll.symm k (by rw [N2.ll]; exact hlt)⟩
        have l2 := N2.L.fz N2.ll.symm k
        have N3 := N2.setL k (row.length : Int)
        have HN3 := Lib.hid N3
        clear hrg hrl hv3 hSk N1 N2 N3
        go_wp2
        clear q1 q2 e4 a1 a2 e5 l1 l2 c2 HN
        generalize ((wr.setCell ⟨bq, k, none⟩ (.int .i64 k)).setCell ⟨ba, k, none⟩ (.bool true)).setCell ⟨bl, k, none⟩ (.int .i64 row.length) = wy at *
        go_loopg [10, 55] row.length (fun gh _ i wr => ∃ (j : Nat) (vals : List Value), gh = row.length - j ∧ i = .int .i64 j ∧ j ≤ row.length ∧ Hid (NS w wr n sp ba bl bw ob bq (.slice ao0 n cap0) (.slice ao1 g.prio.length cap1) (.slice (some ⟨b2, off2, none⟩) n cap2) vals (al.set k true) (lf.set k row.length) (aq.set k k) (pushAll bf k (row.take j))))
        case atStart => exact ⟨0, _, by omega, rfl, by omega, HN3⟩
        case round =>
          clear HN3
          obtain ⟨j, vals, rfl, rfl, hj, HN⟩ := hrel
          by_cases hltj : j < row.length
          · obtain rfl := g3.ad (by omega)
            have c3 := cellB HN.out.bx (g3.el j hltj)
            unfold ivF at c3
            rw [getD_lt _ _ _ hltj] at c3
            obtain ⟨x0, x1⟩ := H1.out row[j] (List.getElem_mem hltj)
            obtain ⟨m, hm⟩ := Int.eq_ofNat_of_zero_le x0
            have hml : m < n := by omega
            rw [hm] at c3
            have HM := Lib.hid hm
            clear hm x0 x1
            have hE := HN.out.R.e m hml
            have hEl : ((pushAll bf k (row.take j)).getD m []).length ≤ 4000000 := by
              have h1 := pushAll_row bf k (row.take j) m
              have h2 := H2.out m
              have h3 : (row.take j).length ≤ row.length := List.length_take_le' _ _
              omega
            have co := HN.out.R.cell hml
            have e3 := cell_of_row _ _ 3 _ _ _ HN.out.box
            obtain ⟨aom, capm, hvm⟩ := hE.slice
            have HE := Lib.hid hE
            have hvals := Lib.hid hvm
            rw [hvm] at co
            generalize hlen : ((pushAll bf k (row.take j)).getD m []).length = len at *
            have HLEN := Lib.hid hlen
            have hBs : w.heap.size + 1 ≤ wr.heap.size := HN.out.lt.2.2.2.2.2.2
            clear hE hvm hlen
            go_wp2
            clear c3
            have co2 : (wr.alloc (.cells #[.int .i64 (k : Int)] 3)).cell? ⟨ob, m, none⟩ = some (.slice aom len capm) := cellB (bel_box _) co
            have e32 : (wr.alloc (.cells #[.int .i64 (k : Int)] 3)).cell? ⟨sp, 3, none⟩ = some (.slice (some ⟨ob, 0, none⟩) n n) := cellB (bel_box _) e3
            go_region_law ((rw [if_pos (by rfl)]; refine wp_app_int wr _ _ (k : Int) (by rfl) (w.heap.size + 1) (.slice aom len capm) ((pushAll bf k (row.take j)).getD m []) (by rfl) (by rw [← hvals.out]; exact HE.out) (by rfl) (by rw [HLEN.out]; omega) hBs ?_; intro v' w' hown' hg hmv; obtain ⟨aoy, capy, hvy⟩ := hown'.slice; generalize ((pushAll bf k (row.take j)).getD m [] ++ [(k : Int)]).length = len2 at hvy; subst hvy; rw [← hvals.out] at hg hmv; have hq := HN.out.row hml hown' hg hmv; rw [hvals.out] at hq; obtain ⟨cq, fq, bq2⟩ := hq; have BQ := Lib.hid bq2; have e9 : w'.cell? ⟨sp, 3, none⟩ = some (.slice (some ⟨ob, 0, none⟩) n n) := cell_of_row _ _ 3 _ _ _ (((Only.of_grown hg).block _ HN.out.lt.1 (fun e => (HN.out.x m hml _ e).1 rfl)).trans HN.out.box); clear bq2))
            all_goals
              have e : pushAll bf k (row.take (j + 1)) = (pushAll bf k (row.take j)).set m ((pushAll bf k (row.take j)).getD m [] ++ [(k : Int)]) := by
                rw [List.take_succ_eq_append_getElem hltj, pushAll_snoc, HM.out]; rfl
              have BQ2 := BQ.out
              rw [← e] at BQ2
              have BQ3 := Lib.hid BQ2
              clear e BQ2 BQ
              go_wp2
              go_roundg (row.length - (j + 1))
              case rel => exact ⟨j + 1, _, rfl, by go_num, by omega, BQ3⟩
              case measure => omega
          · obtain rfl : j = row.length := by omega
            rw [List.take_length, ← HB1.out, ← HA1.out, ← HL1.out, ← HQ1.out] at HN
            go_wp2
            go_roundg (n - (k + 1))
            case rel => exact ⟨k + 1, vals, rfl, by go_num, by omega, HN⟩
            case measure => omega
      · go_wp2
        obtain rfl : k = n := by omega
        go_ret2
        exact ⟨sp, ba, bl, bw, ob, bq, vals, rfl, HN.out⟩

/-- The winners of a game. -/
def IsSol (g : Gm) (l : List Int) : Prop := (validB g = false → l = []) ∧ (validB g = true → l.length = g.owner.length ∧ Sol g (fun i => i < g.owner.length) (fun i => l.getD i 0))

theorem valid_fits {g : Gm} (h : validB g = true) (p : Int) (hp : p = 0 ∨ p = 1) : Fits g p g.owner.length :=
  fits_of (by unfold fitsB; rw [h]; rcases hp with rfl | rfl <;> simp)

theorem valid_own {g : Gm} (h : validB g = true) (i : Nat) (hi : i < g.owner.length) : own g i = 0 ∨ own g i = 1 := by
  have := (valid_fits h 0 (.inl rfl)).ow i hi
  unfold own; omega

theorem valid_pri {g : Gm} (h : validB g = true) (i : Nat) (hi : i < g.owner.length) : 0 ≤ g.prio.getD i 0 ∧ g.prio.getD i 0 ≤ 30000 := by
  obtain ⟨a, b, c⟩ := valid_lens h
  have hv := (validB_iff g a b c).1 h i hi
  simp only [okB, Bool.and_eq_true, decide_eq_true_eq] at hv
  exact hv.1.1.2

theorem valid_rg {g : Gm} (h : validB g = true) (i : Nat) (hi : i < g.owner.length) : ∀ x ∈ g.succ.getD i [], ∃ v : Nat, x = v ∧ v < g.owner.length := fun x hx => by
  obtain ⟨h0, h1⟩ := (valid_fits h 0 (.inl rfl)).rg i hi x hx
  exact ⟨x.toNat, by omega, by omega⟩

theorem IsSol.unique {g : Gm} {l l' : List Int} (h : IsSol g l) (h' : IsSol g l') : l = l' := by
  cases hv : validB g with
  | false => rw [h.1 hv, h'.1 hv]
  | true =>
    obtain ⟨a, b⟩ := h.2 hv
    obtain ⟨a', b'⟩ := h'.2 hv
    refine ext_getI (by rw [a, a']) fun i hi => ?_
    exact b.unique (n := g.owner.length) b' (fun _ h => h) (valid_own hv) i (by omega)

/-! The lists of newSolver. -/

theorem nsAl_len (n k : Nat) : (nsAl n k).length = n := by induction k with | zero => simp [nsAl] | succ k ih => simp [nsAl, ih]

theorem nsLf_len (g : Gm) (n k : Nat) : (nsLf g n k).length = n := by induction k with | zero => simp [nsLf] | succ k ih => simp [nsLf, ih]

theorem nsQ_len (n k : Nat) : (nsQ n k).length = n := by induction k with | zero => simp [nsQ] | succ k ih => simp [nsQ, ih]

theorem nsBf_len (g : Gm) (n k : Nat) : (nsBf g n k).length = n := by induction k with | zero => simp [nsBf] | succ k ih => simp [nsBf, pushAll_len, ih]

theorem nsAl_get (n j : Nat) (hj : j < n) (k : Nat) (hk : k ≤ n) : (nsAl n k).getD j false = decide (j < k) := by
  induction k with
  | zero => simp [nsAl, List.getD, hj]
  | succ k ih =>
    rw [nsAl, getD_setB _ _ _ _ (by rw [nsAl_len]; omega)]
    by_cases e : k = j
    · subst e; simp
    · rw [if_neg e, ih (by omega)]; simp; omega

theorem nsLf_get (g : Gm) (n j : Nat) (k : Nat) (hk : k ≤ n) (hj : j < k) : (nsLf g n k).getD j 0 = ((g.succ.getD j []).length : Int) := by
  induction k with
  | zero => omega
  | succ k ih =>
    rw [nsLf, getD_setI _ _ _ _ (by rw [nsLf_len]; omega)]
    by_cases e : k = j
    · subst e; simp
    · rw [if_neg e, ih (by omega) (by omega)]

theorem nsQ_get (n j : Nat) (k : Nat) (hk : k ≤ n) (hj : j < k) : (nsQ n k).getD j 0 = (j : Int) := by
  induction k with
  | zero => omega
  | succ k ih =>
    rw [nsQ, getD_setI _ _ _ _ (by rw [nsQ_len]; omega)]
    by_cases e : k = j
    · subst e; simp
    · rw [if_neg e, ih (by omega) (by omega)]

theorem nsBf_beg (g : Gm) (n k : Nat) : nsBf g n k = (begSt g [] n k).bf := by
  induction k with
  | zero => rfl
  | succ k ih => simp only [nsBf, begSt, ih]; split <;> rfl

theorem ns_gok {g : Gm} (hv : validB g = true) (hS : ∀ i, (g.succ.getD i []).length ≤ 1000) : GOK g g.owner.length (nsBf g g.owner.length g.owner.length) := by
  have F := valid_fits hv 0 (.inl rfl)
  have hB := begSt_is g [] g.owner.length F.rg hS g.owner.length (Nat.le_refl _)
  refine ⟨F.le, rfl, F.pn, nsBf_len _ _ _, ⟨fun u x hx => ?_, fun u v hu hv => ?_⟩, fun u => ?_, hS, valid_rg hv, valid_own hv, valid_pri hv⟩
  · rw [nsBf_beg] at hx
    by_cases hu : u < g.owner.length
    · obtain ⟨v, h1, h2⟩ := hB.bm u hu x hx
      exact ⟨v, h2, h1⟩
    · exfalso
      have := (begSt_len g [] g.owner.length g.owner.length).2
      simp [List.getD, List.getElem?_eq_none (by omega : (begSt g [] g.owner.length g.owner.length).bf.length ≤ u)] at hx
  · rw [nsBf_beg, hB.bf u hu v, if_pos hv]
  · have h1 := nsBf_row g g.owner.length hS g.owner.length u
    have h2 := F.le
    omega

theorem ns_mem (n : Nat) : Mem n (nsAl n n) (nsQ n n) := by
  refine ⟨fun x hx => ?_, fun v hv _ => ?_, ?_⟩
  · obtain ⟨j, hj, e⟩ := mem_get hx
    rw [nsQ_len] at hj
    rw [nsQ_get n j n (Nat.le_refl _) hj] at e
    exact ⟨j, e.symm, hj, by rw [nsAl_get n j hj n (Nat.le_refl _)]; simp [hj]⟩
  · have := get_mem (l := nsQ n n) (j := v) (by rw [nsQ_len]; exact hv)
    rwa [nsQ_get n v n (Nat.le_refl _) hv] at this
  · refine List.pairwise_iff_getElem.2 fun i j hi hj hij => ?_
    have h1 := nsQ_get n i n (Nat.le_refl _) (by rw [nsQ_len] at hi; exact hi)
    have h2 := nsQ_get n j n (Nat.le_refl _) (by rw [nsQ_len] at hj; exact hj)
    rw [getD_lt _ _ _ hi] at h1
    rw [getD_lt _ _ _ hj] at h2
    rw [h1, h2]; omega

theorem ns_set (n i : Nat) : setOf (nsAl n n) i ↔ i < n := by
  constructor
  · intro h; have := set_lt h; rwa [nsAl_len] at this
  · intro h; unfold setOf; rw [nsAl_get n i h n (Nat.le_refl _)]; simp [h]

theorem ns_lf {g : Gm} (hv : validB g = true) : LfOK g g.owner.length (nsAl g.owner.length g.owner.length) (nsLf g g.owner.length g.owner.length) := fun v hvn => by
  rw [nsLf_get g _ v _ (Nat.le_refl _) hvn]
  have : (g.succ.getD v []).countP (inS (nsAl g.owner.length g.owner.length)) = (g.succ.getD v []).length := by
    rw [List.countP_eq_length]
    intro x hx
    obtain ⟨y, rfl, hy⟩ := valid_rg hv v hvn x hx
    exact (ns_set _ y).2 hy
  rw [this]

end Go.Proofs.Ytijkjhcigdfdgaa
