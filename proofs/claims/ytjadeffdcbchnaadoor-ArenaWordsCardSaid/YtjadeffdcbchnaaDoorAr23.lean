/- The reference's Successors. -/
import Derived.Test.YtjadeffdcbchnaaDoorAr22
namespace Go.Proofs.YtjadeffdcbchnaaDoor
open Go.RowKit

/-- 'append' of a place, inside a fence, in a region that draws its order. -/
theorem operIn_place {F : Fence} {nF : Nat} {o : Oper} {a : Act} {K : Act → World → Prop} {Q : Exit → Act → World → Prop} (w : World) (s x : Operand) (y : Pl)
    (ho : o.op = .call { callee := .builtin .append, args := #[s, x], argTypes := #[34, 34] })
    (base : Nat) (v : Value) (l : List Pl) (hs : a.eval s = v) (hown : OP w base v l) (z : Nat) (hx : a.eval x = .slice (some ⟨z, 0, none⟩) 1 1) (hz : w.heap[z]? = some (.cells (plC y) 48 (0, 0)))
    (hn : l.length < 5864062014000) (hbase : base ≤ w.heap.size)
    (h : ∀ v' w', OP w' base v' (l ++ [y]) → w.grownBy w' v.ownBlock → Moved w v v' → K (a.put o.dst v') w') : Oper.wpIn F nF Tryd.prog o a w K Q := by
  obtain ⟨i, hi, hz0, hz1, hz2⟩ := info_parts info_place
  have hnews : ∀ j u, (plCs y)[j]? = some u → w.cell? ((⟨z, 0, none⟩ : Addr).add j) = some u := World.news_of_block (cs := plC y) hz
  have h1c : ∀ u ∈ plCs y, u.oneCell' = true := by simp [plCs, Value.oneCell']
  obtain ⟨v', w', hr, h2, h3, h4⟩ := run_append_own (P := Tryd.prog) w base 34 o.type 48 i _ 3 24 Tryd.underlying34 hi hz0 hz1 hz2 rfl (by decide) v l.length _ hown ⟨z, 0, none⟩ 1 1 (plCs y) rfl hnews h1c (by simp only [maxLen]; omega) (by omega) hbase
  have h5 := run_append_fresh (P := Tryd.prog) w base 34 o.type 48 i _ 3 24 Tryd.underlying34 hi hz0 hz1 hz2 v l.length _ hown ⟨z, 0, none⟩ 1 1 (plCs y) rfl hnews h1c (by simp only [maxLen]; omega) (by omega) v' w' hr
  unfold Oper.wpIn
  refine ⟨by simp [Oper.about, ho, resolve, Target.leads, Sem.run_pure], ?_⟩
  rw [Oper.semAt_plain F _ _ (by rw [ho]; intro c hc'; cases hc')]
  simp [execOp, ho, resolve, invoke, builtin, hs, hx, hr, Result.andThen]
  refine h v' w' ?_ h3 (fun g hg => (h5 g hg).imp id (fun e => by omega))
  unfold OP
  rw [List.length_append, plsC_snoc]
  exact h2

theorem OP.base {w : World} {b b' : Nat} {v : Value} {l : List Pl} (h : OP w b v l) (hb : b' ≤ b) : OP w b' v l := by
  refine ⟨h.1, ?_⟩
  rcases h.2 with h0 | ⟨g, cap, cur, hv, hg, r⟩
  · exact .inl h0
  · exact .inr ⟨g, cap, cur, hv, Nat.le_trans hb hg, r⟩
theorem OP.below {w w' : World} {b : Nat} {v : Value} {l : List Pl} (h : OP w b v l) (hb : Below w.heap.size w w') : OP w' b v l := ownsRow_blk h fun k hk => hb.block k (World.ownsRow.lt h k hk).2
theorem OP_nil (w : World) (b : Nat) : OP w b (.slice none 0 0) [] := World.ownsRow_nil _ _ _ _

/-- What is known in the region. -/
def B12s (Bb Bp b2 off2 n2 cap2 b3 off3 cap3 s v bx ox L cx by' oy cy : Nat) (nv pv : Int) (B : Nat) (vT : Value) (w2 W : World) : Prop :=
  F9 Bp Bb b2 off2 n2 cap2 b3 off3 cap3 s v bx ox L cx by' oy cy nv pv W ∧ (∀ k, vT.ownBlock = some k → k < W.heap.size) ∧ B ≤ W.heap.size ∧ Below B w2 W ∧ (Bb < B ∧ Bp < B ∧ b2 < B ∧ b3 < B ∧ bx < B ∧ by' < B)
def R12s (vT : Value) (lst : List Pl) (Bb Bp b2 off2 n2 cap2 b3 off3 cap3 s v bx ox L cx by' oy cy : Nat) (nv pv : Int) (B : Nat) (ix : Nat) (u : Value) (W : World) : Prop :=
  match ix with
  | 0 => u = vT
  | 1 => u = .pointer (some ⟨Bb, 2, none⟩)
  | 2 => u = .slice (some ⟨b2, off2, none⟩) n2 cap2
  | 3 => u = .pointer (some ⟨Bp, 0, none⟩)
  | 4 => u = .int .i64 (s : Int)
  | 5 => u = .pointer (some ⟨b2, off2 + s, none⟩)
  | 6 => u = .slice (some ⟨bx, ox, none⟩) L cx
  | 7 => u = .int .i64 (v : Int)
  | 8 => u = .pointer (some ⟨bx, ox + v, none⟩)
  | 9 => u = .int .i64 nv
  | 10 => u = .pointer (some ⟨Bb, 3, none⟩)
  | 11 => u = .slice (some ⟨b3, off3, none⟩) n2 cap3
  | 12 => u = .pointer (some ⟨Bp, 0, none⟩)
  | 13 => u = .int .i64 (s : Int)
  | 14 => u = .pointer (some ⟨b3, off3 + s, none⟩)
  | 15 => u = .slice (some ⟨by', oy, none⟩) L cy
  | 16 => u = .int .i64 (v : Int)
  | 17 => u = .pointer (some ⟨by', oy + v, none⟩)
  | 18 => u = .int .i64 pv
  | 19 => u = .agg #[.int .i64 nv, .int .i64 (-1), .int .i64 pv]
  | 20 => ∃ z, u = .slice (some ⟨z, 0, none⟩) 1 1 ∧ W.heap[z]? = some (.cells #[.int .i64 nv, .int .i64 (-1), .int .i64 pv] 48 (0, 0)) ∧ ∀ k, vT.ownBlock = some k → k ≠ z
  | 21 => OP W B u (lst ++ [⟨nv, -1, pv⟩])
  | 22 => OP W B u (lst ++ [⟨nv, -1, pv⟩])
  | _ => True
section
variable {vT : Value} {lst : List Pl} {Bb Bp b2 off2 n2 cap2 b3 off3 cap3 s v bx ox L cx by' oy cy : Nat} {nv pv : Int} {B : Nat} {w2 W W' : World}
theorem R12s.below {ix : Nat} {u : Value} (h : R12s vT lst Bb Bp b2 off2 n2 cap2 b3 off3 cap3 s v bx ox L cx by' oy cy nv pv B ix u W) (hb : Below W.heap.size W W') : R12s vT lst Bb Bp b2 off2 n2 cap2 b3 off3 cap3 s v bx ox L cx by' oy cy nv pv B ix u W' := by
  unfold R12s at *
  split at h <;> first | exact h | exact OP.below h hb | (obtain ⟨z, h1, h2, h3⟩ := h; exact ⟨z, h1, (hb.block z (Array.getElem?_eq_some_iff.1 h2).1).trans h2, h3⟩)
theorem B12s.below (h : B12s Bb Bp b2 off2 n2 cap2 b3 off3 cap3 s v bx ox L cx by' oy cy nv pv B vT w2 W) (hb : Below W.heap.size W W') : B12s Bb Bp b2 off2 n2 cap2 b3 off3 cap3 s v bx ox L cx by' oy cy nv pv B vT w2 W' :=
  ⟨h.1.below hb, fun k hk => Nat.lt_of_lt_of_le (h.2.1 k hk) hb.size, Nat.le_trans h.2.2.1 hb.size, h.2.2.2.1.trans (hb.mono h.2.2.1), h.2.2.2.2⟩
theorem cell_below {B : Nat} {a b : World} (h : Below B a b) {p : Addr} (hp : p.block < B) {v : Value} (hc : a.cell? p = some v) : b.cell? p = some v := (h.cell hp).trans hc
theorem B12s.grown (h : B12s Bb Bp b2 off2 n2 cap2 b3 off3 cap3 s v bx ox L cx by' oy cy nv pv B vT w2 W) (hg : W.grownBy W' vT.ownBlock) (ho : OP W B vT lst) : B12s Bb Bp b2 off2 n2 cap2 b3 off3 cap3 s v bx ox L cx by' oy cy nv pv B vT w2 W' := by
  obtain ⟨⟨f1, f2, f3, f4, f5, f6, f7⟩, h2, h3, h4, h5, h6, h7, h8, h9, h10⟩ := h
  have hb : Below B W W' := (Below.refl _ _).grown hg h3 (fun k hk => (World.ownsRow.lt ho k hk).1)
  exact ⟨⟨cell_below hb h5 f1, cell_below hb h5 f2, cell_below hb h6 f3, cell_below hb h7 f4, cell_below hb h8 f5, cell_below hb h9 f6, cell_below hb h10 f7⟩, fun k hk => Nat.lt_of_lt_of_le (h2 k hk) hg.size, Nat.le_trans h3 hg.size, h4.trans hb, h5, h6, h7, h8, h9, h10⟩
theorem R12s.grown {ix : Nat} {u : Value} (hj : ix ≠ 21) (h : R12s vT lst Bb Bp b2 off2 n2 cap2 b3 off3 cap3 s v bx ox L cx by' oy cy nv pv B ix u W) (hg : W.grownBy W' vT.ownBlock) (h22 : ix ≠ 22) : R12s vT lst Bb Bp b2 off2 n2 cap2 b3 off3 cap3 s v bx ox L cx by' oy cy nv pv B ix u W' := by
  unfold R12s at *
  split at h
  all_goals first | exact h | exact absurd rfl hj | exact absurd rfl h22 | skip
  obtain ⟨z, h1, h2, h3⟩ := h
  exact ⟨z, h1, (hg.block z (Array.getElem?_eq_some_iff.1 h2).1 (fun e => h3 z e.symm rfl)).trans h2, h3⟩
end

def SuccOut (l : List Pl) (w : World) (e : Ending) (w' : World) : Prop := ∃ v', e = .returned v' ∧ OP w' w.heap.size v' l ∧ Below w.heap.size w w'

set_option maxRecDepth 100000 in
set_option maxHeartbeats 8000000 in
theorem Succ_c (w : World) (vl va : Value) (l : List Sig) (a : Au) (x : Pl) (hl : IsSigs w vl l) (ha : IsAuto w va a) (hv : validS l = true) (hA : AuOK a (joinT l)) (hx : PlOK a (joinT l) x) :
    Calls Tryd.prog 27 #[vl, va, plV x] w (SuccOut (succPl a (joinT l) x) w) := by
  have HIN : Hid (∀ W, Below w.heap.size w W → Calls Tryd.prog 26 #[vl] W (Calm (.int .i64 (inputsI l)) W)) := fun W h => RInputs_c W vl l (hl.below h)
  have HOU : Hid (∀ W, Below w.heap.size w W → Calls Tryd.prog 50 #[vl] W (Calm (.int .i64 (outputsI l)) W)) := fun W h => ROutputs_c W vl l (hl.below h)
  have HJO : Hid (∀ W i o, Below w.heap.size w W → I64 i → I64 o → Calls Tryd.prog 51 #[vl, .int .i64 i, .int .i64 o] W (Calm (.int .i64 (joinI l i o)) W)) := fun W i o h hi ho => RJoin_c W vl l i o hi ho (hl.below h)
  obtain ⟨⟨hi0, hi1⟩, ⟨ho0, ho1⟩⟩ := sides_bd hv
  obtain ⟨ni, hni⟩ : ∃ n : Nat, inputsI l = (n : Int) := Int.eq_ofNat_of_zero_le (by omega)
  obtain ⟨no, hno⟩ : ∃ n : Nat, outputsI l = (n : Int) := Int.eq_ofNat_of_zero_le (by omega)
  have hT := joinT_len l
  have hTr := fun i hi => joinT_row (l := l) (i := i) hi
  rw [hni] at HIN hi0 hi1 hT hTr
  rw [hno] at HOU ho0 ho1 hTr
  simp only [Int.toNat_natCast] at hT hTr
  obtain ⟨v2, v3, rfl, -, ⟨V2, ⟨ao2, cap2, b2, off2, rfl, g2⟩, r2⟩, ⟨V3, ⟨ao3, cap3, b3, off3, rfl, g3⟩, r3⟩⟩ := ha
  generalize a.letters = Lt at *
  generalize a.start = St at *
  obtain ⟨ao, cap, b, off, rfl, -⟩ := hl
  obtain ⟨vl, hvl⟩ : ∃ vl, vl = Value.slice ao l.length cap := ⟨_, rfl⟩
  rw [← hvl] at HIN HOU HJO ⊢
  have hmx : Tryd.prog.follows .mixedOrders = true := by kernel_rfl
  have hpl := hA.pl
  rw [hpl] at g3 r3
  have HPX := Lib.hid hpl
  rw [hpl]
  clear hpl hvl
  generalize hn2 : a.next.length = n2 at *
  have HN2 := Lib.hid hn2
  clear hn2
  obtain ⟨st, inn, pr⟩ := x
  unfold plV
  by_cases hi : inn < 0
  · have HS : Hid (succPl a (joinT l) ⟨st, inn, pr⟩ = (List.range ni).map fun (i : Nat) => ⟨st, (i : Int), -1⟩) := by
      show _ = _
      unfold succPl
      rw [if_pos hi, hT]
    have e3 : decide (inn < 0) = true := by simpa using hi
    clear HOU HJO hTr hT
    go_enter Tryd.func27, Tryd.ntmps27
    go_upto_region 1 with (fail)
    have hB2 : Below w.heap.size w ((w.alloc (.cells #[.int .i64 Lt, .int .i64 St, .slice ao2 n2 cap2, .slice ao3 n2 cap3] 25)).alloc (.cells #[.int .i64 st, .int .i64 inn, .int .i64 pr] 48)) := (by repeat (first | exact Below.refl _ _ | assumption | (refine belA ?_ _) | (refine belD ?_ _)))
    have hx1 : ((w.alloc (.cells #[.int .i64 Lt, .int .i64 St, .slice ao2 n2 cap2, .slice ao3 n2 cap3] 25)).alloc (.cells #[.int .i64 st, .int .i64 inn, .int .i64 pr] 48)).heap[w.heap.size]? = some (.cells #[.int .i64 Lt, .int .i64 St, .slice ao2 n2 cap2, .slice ao3 n2 cap3] 25 (0, 0)) := (by (repeat (rw [alloc_get]; first | rw [if_pos (by first | (simp; done) | (simp; omega))] | rw [if_neg (by first | (simp; done) | (simp; omega))])); (try rfl))
    have hx2 : ((w.alloc (.cells #[.int .i64 Lt, .int .i64 St, .slice ao2 n2 cap2, .slice ao3 n2 cap3] 25)).alloc (.cells #[.int .i64 st, .int .i64 inn, .int .i64 pr] 48)).heap[w.heap.size + 1]? = some (.cells #[.int .i64 st, .int .i64 inn, .int .i64 pr] 48 (0, 0)) := (by (repeat (rw [alloc_get]; first | rw [if_pos (by first | (simp; done) | (simp; omega))] | rw [if_neg (by first | (simp; done) | (simp; omega))])); (try rfl))
    have hz2 : ((w.alloc (.cells #[.int .i64 Lt, .int .i64 St, .slice ao2 n2 cap2, .slice ao3 n2 cap3] 25)).alloc (.cells #[.int .i64 st, .int .i64 inn, .int .i64 pr] 48)).heap.size = w.heap.size + 2 := by simp
    generalize ((w.alloc (.cells #[.int .i64 Lt, .int .i64 St, .slice ao2 n2 cap2, .slice ao3 n2 cap3] 25)).alloc (.cells #[.int .i64 st, .int .i64 inn, .int .i64 pr] 48)) = w2 at *
    have HB2 := Lib.hid hB2
    clear hB2
    have d0 := cell_of_row _ _ 0 _ _ _ hx2
    have d1 := cell_of_row _ _ 1 _ _ _ hx2
    have d2 := cell_of_row _ _ 2 _ _ _ hx2
    go_wp2_with fail
    go_loopg [7, 8] ni (fun gh vT i wr => ∃ k : Nat, gh = ni - k ∧ i = .int .i64 k ∧ k ≤ ni ∧ OP wr (w.heap.size + 2) vT ((List.range k).map fun (i : Nat) => ⟨st, (i : Int), -1⟩) ∧ Below w2.heap.size w2 wr)
    case atStart => exact ⟨0, by omega, rfl, by omega, OP_nil _ _, Below.refl _ _⟩
    case round =>
      obtain ⟨k, rfl, rfl, hk, hO, hb⟩ := hrel
      have hbw : Below w.heap.size w wr := HB2.out.trans (hb.mono HB2.out.size)
      obtain ⟨aT, cT, rfl⟩ := hO.slice
      rw [List.length_map, List.length_range] at hO ⊢
      go_wp2_with fail
      refine (HIN.out wr hbw).mono ?_
      rintro e w4 ⟨rfl, hb4⟩
      have hb24 := hb.trans (hb4.mono hb.size)
      have hx4 := (hb24.block (w.heap.size + 1) (by omega)).trans hx2
      have hO4 := hO.below hb4
      clear hO hb4
      have e0 := cell_of_row _ _ 0 _ _ _ hx4
      have hs4 : w.heap.size + 2 ≤ w4.heap.size := by have := hb24.size; omega
      by_cases hlt : k < ni
      · have hln : ((List.range k).map fun (i : Nat) => (⟨st, (i : Int), -1⟩ : Pl)).length < 5864062014000 := by simp; omega
        go_wp2_with (at_builtin; refine app_place rfl _ _ ⟨st, (k : Int), -1⟩ rfl (w.heap.size + 2) _ _ hO4 rfl _ rfl rfl hln hs4 ?_; intro v' w' hown' hg hmv; obtain ⟨ao', cap', hv'⟩ := hown'.slice; rw [List.length_append, List.length_singleton, List.length_map, List.length_range] at hv'; subst hv'; have HO := Lib.hid hown'; have HG := Lib.hid hg; clear hown' hg hmv)
        go_roundg (ni - (k + 1))
        case rel => exact ⟨k + 1, rfl, by go_num, by omega, by rw [List.range_succ, List.map_append]; exact HO.out, hb24.grown HG.out (by omega) (fun j hj => by have := (World.ownsRow.lt hO4 j hj).1; omega)⟩
        case measure => omega
      · obtain rfl : k = ni := by omega
        go_wp2
        go_ret
        refine ⟨_, rfl, ?_, HB2.out.trans (hb24.mono HB2.out.size)⟩
        rw [HS.out]
        exact hO4.base (by omega)
  · have hin := hx.inn
    have hst := hx.st
    obtain ⟨i, hi2⟩ := Int.eq_ofNat_of_zero_le (show 0 ≤ inn by omega)
    obtain ⟨s, hs⟩ := Int.eq_ofNat_of_zero_le (show 0 ≤ st from hst.1)
    have hRN : (a.next.getD st.toNat []).length = (a.prio.getD st.toNat []).length := hx.rows
    have hLT := hx.lets
    rw [hs] at hRN hLT hst
    rw [hi2] at hin
    simp only [Int.toNat_natCast] at hRN hLT
    have hiT : i < (joinT l).length := by simp only at hin; omega
    have hsN : s < n2 := by have := hst.2; rw [HN2.out] at this; simp only at this; omega
    have hrow := hTr i (by omega)
    have hLTi := hLT i hiT
    have HS : Hid (succPl a (joinT l) ⟨st, inn, pr⟩ = (List.range no).map fun (o : Nat) => ⟨(a.next.getD s []).getD (joinI l (i : Int) (o : Int)).toNat 0, -1, (a.prio.getD s []).getD (joinI l (i : Int) (o : Int)).toNat 0⟩) := by
      show _ = _
      unfold succPl
      rw [if_neg hi, hs, hi2]
      simp only [Int.toNat_natCast]
      rw [hrow, List.map_map]
      rfl
    have HLT : Hid (∀ o : Nat, o < no → 0 ≤ joinI l (i : Int) (o : Int) ∧ joinI l (i : Int) (o : Int) < (a.next.getD s []).length) := fun o ho => hLTi _ (by
      rw [hrow]
      exact List.mem_map.2 ⟨o, List.mem_range.2 ho, rfl⟩)
    have e3 : decide (inn < 0) = false := by simpa using hi
    subst hs hi2
    obtain rfl := g2.ad (by omega)
    obtain rfl := g3.ad (by omega)
    have k2 := g2.el s hsN
    have k3 := g3.el s hsN
    obtain ⟨⟨aox, cx, bx, ox, hvx, gx⟩, -⟩ := r2 s hsN
    obtain ⟨⟨aoy, cy, by', oy, hvy, gy⟩, -⟩ := r3 s hsN
    rw [hvx] at k2
    rw [hvy] at k3
    have HHI : Hid (I64 (i : Int)) := by show I64 _; unfold I64; omega
    rw [← hRN] at k3 gy
    clear HIN hTr hRN hLT hLTi hin hst r2 r3 hvx hvy hrow hi
    generalize hrx : a.next.getD s [] = rx at *
    generalize hry : a.prio.getD s [] = ry at *
    clear hrx hry
    generalize rx.length = L at *
    go_enter Tryd.func27, Tryd.ntmps27
    go_upto_region 1 with (fail)
    have hB2 : Below w.heap.size w ((w.alloc (.cells #[.int .i64 Lt, .int .i64 St, .slice (some ⟨b2, off2, none⟩) n2 cap2, .slice (some ⟨b3, off3, none⟩) n2 cap3] 25)).alloc (.cells #[.int .i64 (s : Int), .int .i64 (i : Int), .int .i64 pr] 48)) := (by repeat (first | exact Below.refl _ _ | assumption | (refine belA ?_ _) | (refine belD ?_ _)))
    have hx1 : ((w.alloc (.cells #[.int .i64 Lt, .int .i64 St, .slice (some ⟨b2, off2, none⟩) n2 cap2, .slice (some ⟨b3, off3, none⟩) n2 cap3] 25)).alloc (.cells #[.int .i64 (s : Int), .int .i64 (i : Int), .int .i64 pr] 48)).heap[w.heap.size]? = some (.cells #[.int .i64 Lt, .int .i64 St, .slice (some ⟨b2, off2, none⟩) n2 cap2, .slice (some ⟨b3, off3, none⟩) n2 cap3] 25 (0, 0)) := (by (repeat (rw [alloc_get]; first | rw [if_pos (by first | (simp; done) | (simp; omega))] | rw [if_neg (by first | (simp; done) | (simp; omega))])); (try rfl))
    have hx2 : ((w.alloc (.cells #[.int .i64 Lt, .int .i64 St, .slice (some ⟨b2, off2, none⟩) n2 cap2, .slice (some ⟨b3, off3, none⟩) n2 cap3] 25)).alloc (.cells #[.int .i64 (s : Int), .int .i64 (i : Int), .int .i64 pr] 48)).heap[w.heap.size + 1]? = some (.cells #[.int .i64 (s : Int), .int .i64 (i : Int), .int .i64 pr] 48 (0, 0)) := (by (repeat (rw [alloc_get]; first | rw [if_pos (by first | (simp; done) | (simp; omega))] | rw [if_neg (by first | (simp; done) | (simp; omega))])); (try rfl))
    have hz2 : ((w.alloc (.cells #[.int .i64 Lt, .int .i64 St, .slice (some ⟨b2, off2, none⟩) n2 cap2, .slice (some ⟨b3, off3, none⟩) n2 cap3] 25)).alloc (.cells #[.int .i64 (s : Int), .int .i64 (i : Int), .int .i64 pr] 48)).heap.size = w.heap.size + 2 := by simp
    generalize ((w.alloc (.cells #[.int .i64 Lt, .int .i64 St, .slice (some ⟨b2, off2, none⟩) n2 cap2, .slice (some ⟨b3, off3, none⟩) n2 cap3] 25)).alloc (.cells #[.int .i64 (s : Int), .int .i64 (i : Int), .int .i64 pr] 48)) = w2 at *
    have HB2 := Lib.hid hB2
    clear hB2
    have d0 := cell_of_row _ _ 0 _ _ _ hx2
    have d1 := cell_of_row _ _ 1 _ _ _ hx2
    have d2 := cell_of_row _ _ 2 _ _ _ hx2
    have hsw : w.heap.size + 2 ≤ w2.heap.size := by omega
    go_wp2_with fail
    go_loopg [7, 9] no (fun gh vT ix wr => ∃ k : Nat, gh = no - k ∧ ix = .int .i64 k ∧ k ≤ no ∧ OP wr (w.heap.size + 2) vT ((List.range k).map fun (o : Nat) => ⟨rx.getD (joinI l (i : Int) (o : Int)).toNat 0, -1, ry.getD (joinI l (i : Int) (o : Int)).toNat 0⟩) ∧ Below w2.heap.size w2 wr)
    case atStart => exact ⟨0, by omega, rfl, by omega, OP_nil _ _, Below.refl _ _⟩
    case round =>
      obtain ⟨k, rfl, rfl, hk, hO, hb⟩ := hrel
      obtain ⟨vT, hvT⟩ : ∃ vT, vT = u7 := ⟨_, rfl⟩
      subst hvT
      have hbw : Below w.heap.size w wr := HB2.out.trans (hb.mono HB2.out.size)
      go_wp2_with fail
      refine (HOU.out wr hbw).mono ?_
      rintro e w4 ⟨rfl, hb4⟩
      have hb24 := hb.trans (hb4.mono hb.size)
      have hO4 := hO.below hb4
      clear hO hb4
      by_cases hlt : k < no
      · have hx4 := (hb24.block (w.heap.size + 1) (by omega)).trans hx2
        have e1 := cell_of_row _ _ 1 _ _ _ hx4
        have hbw4 : Below w.heap.size w w4 := HB2.out.trans (hb24.mono HB2.out.size)
        go_wp2_with fail
        refine (HJO.out w4 _ _ hbw4 HHI.out (by unfold I64; omega)).mono ?_
        rintro e w5 ⟨rfl, hb5⟩
        have hb25 := hb24.trans (hb5.mono hb24.size)
        have hO5 := hO4.below hb5
        have hbw5 : Below w.heap.size w w5 := HB2.out.trans (hb25.mono HB2.out.size)
        have hb24x := Lib.hid hb25
        clear hO4 hb5 hx4 e1 hbw4
        obtain ⟨v, hvv⟩ := Int.eq_ofNat_of_zero_le (HLT.out k hlt).1
        have hvL : v < L := by have := (HLT.out k hlt).2; omega
        have HLST : Hid ((List.range (k + 1)).map (fun (o : Nat) => (⟨rx.getD (joinI l (i : Int) (o : Int)).toNat 0, -1, ry.getD (joinI l (i : Int) (o : Int)).toNat 0⟩ : Pl)) = (List.range k).map (fun (o : Nat) => ⟨rx.getD (joinI l (i : Int) (o : Int)).toNat 0, -1, ry.getD (joinI l (i : Int) (o : Int)).toNat 0⟩) ++ [⟨rx.getD v 0, -1, ry.getD v 0⟩]) := by
          show _ = _
          rw [List.range_succ, List.map_append]
          simp only [List.map_cons, List.map_nil, hvv, Int.toNat_natCast]
        rw [hvv]
        have HVV := Lib.hid hvv
        clear hvv
        obtain rfl := gx.ad (by omega)
        obtain rfl := gy.ad (by omega)
        have hrow1 := cellB hbw5 k2
        have hrow2 := cellB hbw5 k3
        have hnv := cellB hbw5 (gx.el v hvL)
        have hpv := cellB hbw5 (gy.el v hvL)
        unfold ivF at hnv hpv
        have hy1 := (hb25.block w.heap.size (by omega)).trans hx1
        have hy2 := (hb25.block (w.heap.size + 1) (by omega)).trans hx2
        have hF : F9 (w.heap.size + 1) w.heap.size b2 off2 n2 cap2 b3 off3 cap3 s v bx ox L cx by' oy cy (rx.getD v 0) (ry.getD v 0) w5 := ⟨cell_of_row _ _ 2 _ _ _ hy1, cell_of_row _ _ 3 _ _ _ hy1, cell_of_row _ _ 0 _ _ _ hy2, hrow1, hrow2, hnv, hpv⟩
        have hbd : w.heap.size < w.heap.size + 2 ∧ w.heap.size + 1 < w.heap.size + 2 ∧ b2 < w.heap.size + 2 ∧ b3 < w.heap.size + 2 ∧ bx < w.heap.size + 2 ∧ by' < w.heap.size + 2 := by
          have q1 := World.block_lt_of_cell? w _ k2
          have q2 := World.block_lt_of_cell? w _ k3
          have q3 := World.block_lt_of_cell? w _ (gx.el v hvL)
          have q4 := World.block_lt_of_cell? w _ (gy.el v hvL)
          simp only at q1 q2 q3 q4
          omega
        have hln : ((List.range k).map fun (o : Nat) => (⟨rx.getD (joinI l (i : Int) (o : Int)).toNat 0, -1, ry.getD (joinI l (i : Int) (o : Int)).toNat 0⟩ : Pl)).length = k := by simp
        have hB5 : w.heap.size + 2 ≤ w5.heap.size := by have := hb25.size; omega
        generalize hlst : ((List.range k).map fun (o : Nat) => (⟨rx.getD (joinI l (i : Int) (o : Int)).toNat 0, -1, ry.getD (joinI l (i : Int) (o : Int)).toNat 0⟩ : Pl)) = lst at *
        clear hlst hrow1 hrow2 hnv hpv hy1 hy2
        have hlnn : lst.length ≤ 64 := by omega
        have HLN := Lib.hid hln
        clear hln
        generalize rx.getD v 0 = nv at *
        generalize ry.getD v 0 = pv at *
        go_upto_region 12 with (fail)
        refine wpIn_wide.1 (region_freeE (F := Fence.wide) (n := 0) hmx (R12s vT lst w.heap.size (w.heap.size + 1) b2 off2 n2 cap2 b3 off3 cap3 s v bx ox L cx by' oy cy nv pv (w.heap.size + 2)) (B12s w.heap.size (w.heap.size + 1) b2 off2 n2 cap2 b3 off3 cap3 s v bx ox L cx by' oy cy nv pv (w.heap.size + 2) vT w5) (fun W => OP W (w.heap.size + 2) vT lst) 21 [(22, 0), (21, 0), (22, 21)] (fun vs => { tmps := (_ :: _ :: _ :: _ :: _ :: _ :: _ :: vs 22 :: _ :: _ :: _ :: _ :: _ :: _ :: _ :: _ :: _ :: _ :: _ :: _ :: _ :: _ :: _ :: _ :: _ :: _ :: _ :: _ :: _ :: _ :: _ :: _ :: _ :: _ :: _ :: _ :: _ :: _ :: _ :: vs 0 :: vs 1 :: vs 2 :: vs 3 :: vs 4 :: vs 5 :: vs 6 :: vs 7 :: vs 8 :: vs 9 :: vs 10 :: vs 11 :: vs 12 :: vs 13 :: vs 14 :: vs 15 :: vs 16 :: vs 17 :: vs 18 :: vs 19 :: vs 20 :: vs 21 :: _ :: []).toArray, defers := _ }) (fun ix => [u39, u40, u41, u42, u43, u44, u45, u46, u47, u48, u49, u50, u51, u52, u53, u54, u55, u56, u57, u58, u59, u60, vT].getD ix undef) rfl (by kernel_rfl) (by kernel_rfl) ⟨hF.below (Below.drew (Below.refl _ _)), fun j hj => (World.ownsRow.lt hO5 j hj).2, hB5, Below.drew (Below.refl _ _), hbd⟩ (hO5.below (Below.drew (Below.refl _ _))) ?step ?fin)
        case step =>
          clear hO5 hF hb25
          intro ix o ho
          match ix, ho with
        | 0, ho =>
            obtain rfl := Option.some.inj ho
            intro vs W K hB hE hD hO hK
            have HK := Lib.hid hK
            have e22 : vs 22 = vT := hO 22 (by decide)
            have HB := Lib.hid hB
            clear hK hD ho hO hE hB
            dsimp only
            go_simp
            have h := HK.out _ W HB.out (fun _ h => h) (fun _ _ _ _ h => h) rfl
            simp only [upd, Nat.reduceEqDiff, reduceIte, e22] at h
            exact h
        | 1, ho =>
            obtain rfl := Option.some.inj ho
            intro vs W K hB hE hD hO hK
            have HK := Lib.hid hK
            have HB := Lib.hid hB
            clear hK hD ho hO hE hB
            dsimp only
            go_simp
            have h := HK.out _ W HB.out (fun _ h => h) (fun _ _ _ _ h => h) rfl
            simp only [upd, Nat.reduceEqDiff, reduceIte] at h
            exact h
        | 2, ho =>
            obtain rfl := Option.some.inj ho
            intro vs W K hB hE hD hO hK
            have HK := Lib.hid hK
            have e1 : vs 1 = .pointer (some ⟨w.heap.size, 2, none⟩) := dep_of hD 1 (by rfl)
            have c1 := (hB.1).c2
            have HB := Lib.hid hB
            clear hK hD ho hO hE hB
            dsimp only
            go_simp
            have h := HK.out _ W HB.out (fun _ h => h) (fun _ _ _ _ h => h) rfl
            simp only [upd, Nat.reduceEqDiff, reduceIte, e1] at h
            exact h
        | 3, ho =>
            obtain rfl := Option.some.inj ho
            intro vs W K hB hE hD hO hK
            have HK := Lib.hid hK
            have HB := Lib.hid hB
            clear hK hD ho hO hE hB
            dsimp only
            go_simp
            have h := HK.out _ W HB.out (fun _ h => h) (fun _ _ _ _ h => h) rfl
            simp only [upd, Nat.reduceEqDiff, reduceIte] at h
            exact h
        | 4, ho =>
            obtain rfl := Option.some.inj ho
            intro vs W K hB hE hD hO hK
            have HK := Lib.hid hK
            have e3 : vs 3 = .pointer (some ⟨(w.heap.size + 1), 0, none⟩) := dep_of hD 3 (by rfl)
            have c1 := (hB.1).c0
            have HB := Lib.hid hB
            clear hK hD ho hO hE hB
            dsimp only
            go_simp
            have h := HK.out _ W HB.out (fun _ h => h) (fun _ _ _ _ h => h) rfl
            simp only [upd, Nat.reduceEqDiff, reduceIte, e3] at h
            exact h
        | 5, ho =>
            obtain rfl := Option.some.inj ho
            intro vs W K hB hE hD hO hK
            have HK := Lib.hid hK
            have e2 : vs 2 = .slice (some ⟨b2, off2, none⟩) n2 cap2 := dep_of hD 2 (by rfl)
            have e4 : vs 4 = .int .i64 (s : Int) := dep_of hD 4 (by rfl)
            have HB := Lib.hid hB
            clear hK hD ho hO hE hB
            dsimp only
            go_simp
            have h := HK.out _ W HB.out (fun _ h => h) (fun _ _ _ _ h => h) rfl
            simp only [upd, Nat.reduceEqDiff, reduceIte, e2, e4] at h
            exact h
        | 6, ho =>
            obtain rfl := Option.some.inj ho
            intro vs W K hB hE hD hO hK
            have HK := Lib.hid hK
            have e5 : vs 5 = .pointer (some ⟨b2, off2 + s, none⟩) := dep_of hD 5 (by rfl)
            have c1 := (hB.1).cx
            have HB := Lib.hid hB
            clear hK hD ho hO hE hB
            dsimp only
            go_simp
            have h := HK.out _ W HB.out (fun _ h => h) (fun _ _ _ _ h => h) rfl
            simp only [upd, Nat.reduceEqDiff, reduceIte, e5] at h
            exact h
        | 7, ho =>
            obtain rfl := Option.some.inj ho
            intro vs W K hB hE hD hO hK
            have HK := Lib.hid hK
            have HB := Lib.hid hB
            clear hK hD ho hO hE hB
            dsimp only
            go_simp
            have h := HK.out _ W HB.out (fun _ h => h) (fun _ _ _ _ h => h) rfl
            simp only [upd, Nat.reduceEqDiff, reduceIte] at h
            exact h
        | 8, ho =>
            obtain rfl := Option.some.inj ho
            intro vs W K hB hE hD hO hK
            have HK := Lib.hid hK
            have e6 : vs 6 = .slice (some ⟨bx, ox, none⟩) L cx := dep_of hD 6 (by rfl)
            have e7 : vs 7 = .int .i64 (v : Int) := dep_of hD 7 (by rfl)
            have HB := Lib.hid hB
            clear hK hD ho hO hE hB
            dsimp only
            go_simp
            have h := HK.out _ W HB.out (fun _ h => h) (fun _ _ _ _ h => h) rfl
            simp only [upd, Nat.reduceEqDiff, reduceIte, e6, e7] at h
            exact h
        | 9, ho =>
            obtain rfl := Option.some.inj ho
            intro vs W K hB hE hD hO hK
            have HK := Lib.hid hK
            have e8 : vs 8 = .pointer (some ⟨bx, ox + v, none⟩) := dep_of hD 8 (by rfl)
            have c1 := (hB.1).cn
            have HB := Lib.hid hB
            clear hK hD ho hO hE hB
            dsimp only
            go_simp
            have h := HK.out _ W HB.out (fun _ h => h) (fun _ _ _ _ h => h) rfl
            simp only [upd, Nat.reduceEqDiff, reduceIte, e8] at h
            exact h
        | 10, ho =>
            obtain rfl := Option.some.inj ho
            intro vs W K hB hE hD hO hK
            have HK := Lib.hid hK
            have HB := Lib.hid hB
            clear hK hD ho hO hE hB
            dsimp only
            go_simp
            have h := HK.out _ W HB.out (fun _ h => h) (fun _ _ _ _ h => h) rfl
            simp only [upd, Nat.reduceEqDiff, reduceIte] at h
            exact h
        | 11, ho =>
            obtain rfl := Option.some.inj ho
            intro vs W K hB hE hD hO hK
            have HK := Lib.hid hK
            have e10 : vs 10 = .pointer (some ⟨w.heap.size, 3, none⟩) := dep_of hD 10 (by rfl)
            have c1 := (hB.1).c3
            have HB := Lib.hid hB
            clear hK hD ho hO hE hB
            dsimp only
            go_simp
            have h := HK.out _ W HB.out (fun _ h => h) (fun _ _ _ _ h => h) rfl
            simp only [upd, Nat.reduceEqDiff, reduceIte, e10] at h
            exact h
        | 12, ho =>
            obtain rfl := Option.some.inj ho
            intro vs W K hB hE hD hO hK
            have HK := Lib.hid hK
            have HB := Lib.hid hB
            clear hK hD ho hO hE hB
            dsimp only
            go_simp
            have h := HK.out _ W HB.out (fun _ h => h) (fun _ _ _ _ h => h) rfl
            simp only [upd, Nat.reduceEqDiff, reduceIte] at h
            exact h
        | 13, ho =>
            obtain rfl := Option.some.inj ho
            intro vs W K hB hE hD hO hK
            have HK := Lib.hid hK
            have e12 : vs 12 = .pointer (some ⟨(w.heap.size + 1), 0, none⟩) := dep_of hD 12 (by rfl)
            have c1 := (hB.1).c0
            have HB := Lib.hid hB
            clear hK hD ho hO hE hB
            dsimp only
            go_simp
            have h := HK.out _ W HB.out (fun _ h => h) (fun _ _ _ _ h => h) rfl
            simp only [upd, Nat.reduceEqDiff, reduceIte, e12] at h
            exact h
        | 14, ho =>
            obtain rfl := Option.some.inj ho
            intro vs W K hB hE hD hO hK
            have HK := Lib.hid hK
            have e11 : vs 11 = .slice (some ⟨b3, off3, none⟩) n2 cap3 := dep_of hD 11 (by rfl)
            have e13 : vs 13 = .int .i64 (s : Int) := dep_of hD 13 (by rfl)
            have HB := Lib.hid hB
            clear hK hD ho hO hE hB
            dsimp only
            go_simp
            have h := HK.out _ W HB.out (fun _ h => h) (fun _ _ _ _ h => h) rfl
            simp only [upd, Nat.reduceEqDiff, reduceIte, e11, e13] at h
            exact h
        | 15, ho =>
            obtain rfl := Option.some.inj ho
            intro vs W K hB hE hD hO hK
            have HK := Lib.hid hK
            have e14 : vs 14 = .pointer (some ⟨b3, off3 + s, none⟩) := dep_of hD 14 (by rfl)
            have c1 := (hB.1).cy
            have HB := Lib.hid hB
            clear hK hD ho hO hE hB
            dsimp only
            go_simp
            have h := HK.out _ W HB.out (fun _ h => h) (fun _ _ _ _ h => h) rfl
            simp only [upd, Nat.reduceEqDiff, reduceIte, e14] at h
            exact h
        | 16, ho =>
            obtain rfl := Option.some.inj ho
            intro vs W K hB hE hD hO hK
            have HK := Lib.hid hK
            have HB := Lib.hid hB
            clear hK hD ho hO hE hB
            dsimp only
            go_simp
            have h := HK.out _ W HB.out (fun _ h => h) (fun _ _ _ _ h => h) rfl
            simp only [upd, Nat.reduceEqDiff, reduceIte] at h
            exact h
        | 17, ho =>
            obtain rfl := Option.some.inj ho
            intro vs W K hB hE hD hO hK
            have HK := Lib.hid hK
            have e15 : vs 15 = .slice (some ⟨by', oy, none⟩) L cy := dep_of hD 15 (by rfl)
            have e16 : vs 16 = .int .i64 (v : Int) := dep_of hD 16 (by rfl)
            have HB := Lib.hid hB
            clear hK hD ho hO hE hB
            dsimp only
            go_simp
            have h := HK.out _ W HB.out (fun _ h => h) (fun _ _ _ _ h => h) rfl
            simp only [upd, Nat.reduceEqDiff, reduceIte, e15, e16] at h
            exact h
        | 18, ho =>
            obtain rfl := Option.some.inj ho
            intro vs W K hB hE hD hO hK
            have HK := Lib.hid hK
            have e17 : vs 17 = .pointer (some ⟨by', oy + v, none⟩) := dep_of hD 17 (by rfl)
            have c1 := (hB.1).cp
            have HB := Lib.hid hB
            clear hK hD ho hO hE hB
            dsimp only
            go_simp
            have h := HK.out _ W HB.out (fun _ h => h) (fun _ _ _ _ h => h) rfl
            simp only [upd, Nat.reduceEqDiff, reduceIte, e17] at h
            exact h
        | 19, ho =>
            obtain rfl := Option.some.inj ho
            intro vs W K hB hE hD hO hK
            have HK := Lib.hid hK
            have e9 : vs 9 = .int .i64 nv := dep_of hD 9 (by rfl)
            have e18 : vs 18 = .int .i64 pv := dep_of hD 18 (by rfl)
            have HB := Lib.hid hB
            clear hK hD ho hO hE hB
            dsimp only
            go_simp
            have h := HK.out _ W HB.out (fun _ h => h) (fun _ _ _ _ h => h) rfl
            simp only [upd, Nat.reduceEqDiff, reduceIte, e9, e18] at h
            exact h
        | 20, ho =>
            obtain rfl := Option.some.inj ho
            intro vs W K hB hE hD hO hK
            have HK := Lib.hid hK
            have e19 : vs 19 = .agg #[.int .i64 nv, .int .i64 (-1), .int .i64 pv] := dep_of hD 19 (by rfl)
            have HB := Lib.hid hB
            clear hK hD ho hO hE hB
            dsimp only
            go_simp
            have h := HK.out _ _ (HB.out.below (bel_box (.cells #[.int .i64 nv, .int .i64 (-1), .int .i64 pv] 48))) (fun _ hE => ownsRow_blk hE fun k hk => (bel_box _).block k (World.ownsRow.lt hE k hk).2) (fun j x hj _ hr => R12s.below hr (bel_box _)) ⟨W.heap.size, rfl, heap_alloc_new _ _, fun k hk => by have := HB.out.2.1 k hk; omega⟩
            simp only [upd, Nat.reduceEqDiff, reduceIte, e19] at h
            exact h
        | 21, ho =>
            obtain rfl := Option.some.inj ho
            intro vs W K hB hE hD hO hK
            have HK := Lib.hid hK
            have e0 : vs 0 = vT := dep_of hD 0 (by rfl)
            obtain ⟨z, e20, hz, hzn⟩ := dep_of (R := R12s vT lst w.heap.size (w.heap.size + 1) b2 off2 n2 cap2 b3 off3 cap3 s v bx ox L cx by' oy cy nv pv (w.heap.size + 2)) hD 20 (by rfl)
            have hO21 := hE rfl
            have HB := Lib.hid hB
            clear hK hD ho hO hE hB
            rw [if_pos (by rfl)]
            refine operIn_place W _ _ ⟨nv, -1, pv⟩ rfl (w.heap.size + 2) vT lst e0 hO21 z e20 hz (by omega) HB.out.2.2.1 ?_
            intro v' w' h1 h2 h3
            have h := HK.out v' w' (HB.out.grown h2 hO21) (fun e => absurd rfl e) (fun j x hj hL hr => R12s.grown hj hr h2 (fun e => hL (by subst e; decide))) h1
            exact h
        | 22, ho =>
            obtain rfl := Option.some.inj ho
            intro vs W K hB hE hD hO hK
            have HK := Lib.hid hK
            have e21 : R12s vT lst w.heap.size (w.heap.size + 1) b2 off2 n2 cap2 b3 off3 cap3 s v bx ox L cx by' oy cy nv pv (w.heap.size + 2) 21 (vs 21) W := dep_of hD 21 (by rfl)
            have HB := Lib.hid hB
            clear hK hD ho hO hE hB
            dsimp only
            go_simp
            have h := HK.out (vs 21) W HB.out (fun _ h => h) (fun _ _ _ _ h => h) e21
            simp only [upd, Nat.reduceEqDiff, reduceIte] at h
            exact h
        | q + 23, ho => exact absurd ho (by simp)
        case fin =>
          intro vs W hB hall
          have h22 : OP W (w.heap.size + 2) (vs 22) (lst ++ [⟨nv, -1, pv⟩]) := hall 22 (by decide)
          have hB4 := hB.2.2.2.1
          clear hall hB
          generalize vs 0 = u39
          generalize vs 1 = u40
          generalize vs 2 = u41
          generalize vs 3 = u42
          generalize vs 4 = u43
          generalize vs 5 = u44
          generalize vs 6 = u45
          generalize vs 7 = u46
          generalize vs 8 = u47
          generalize vs 9 = u48
          generalize vs 10 = u49
          generalize vs 11 = u50
          generalize vs 12 = u51
          generalize vs 13 = u52
          generalize vs 14 = u53
          generalize vs 15 = u54
          generalize vs 16 = u55
          generalize vs 17 = u56
          generalize vs 18 = u57
          generalize vs 19 = u58
          generalize vs 20 = u59
          generalize vs 21 = u60
          generalize vs 22 = v7 at *
          clear vs
          go_wp2_with fail
          go_roundg (no - (k + 1))
          case rel => exact ⟨k + 1, rfl, by go_num, by omega, by rw [HLST.out]; exact h22, hb24x.out.trans (hB4.mono (by omega))⟩
          case measure => omega
      · obtain rfl : k = no := by omega
        go_wp2
        go_ret
        refine ⟨_, rfl, ?_, HB2.out.trans (hb24.mono HB2.out.size)⟩
        rw [HS.out]
        exact hO4.base (by omega)

end Go.Proofs.YtjadeffdcbchnaaDoor
