/- The helpers of RankStrategies: member, moves. The memory of bad's search. -/
import Derived.Test.YtijkjhcigdfdgaaQRkA3
namespace Go.Proofs.Ytijkjhcigdfdgaa
open Go.RowKit

set_option maxRecDepth 100000 in
set_option maxHeartbeats 4000000 in
theorem member_c (w : World) (vl : Value) (l : List Int) (x : Int) (h : IsInts w vl l) :
    Calls Try.prog 25 #[vl, .int .i64 x] w (Calm (.bool (decide (x ∈ l))) w) := by
  obtain ⟨a, c, rfl⟩ := h.shape
  obtain ⟨b, o, hd, hn, hf⟩ := h.data
  have HF := Lib.hid hf
  clear hf h
  go_enter Try.func25, Try.ntmps25
  go_wp2
  go_loopg [5] l.length (fun gh i wr => ∃ k : Nat, gh = l.length - k ∧ i = .int .i64 (k : Int) ∧ k ≤ l.length ∧ w = wr ∧ Hid (x ∉ l.take k))
  case atStart => exact ⟨0, rfl, rfl, by omega, rfl, by show _ ∉ _; simp⟩
  case round =>
    obtain ⟨k, hgk, rfl, hk, rfl, HN⟩ := hrel
    have HGK := Lib.hid hgk
    clear hgk
    by_cases hlt : k < l.length
    · obtain rfl := hd (by omega)
      have i1 : (k : Int) < (l.length : Int) := by omega
      have hi0 : (0 : Int) ≤ (k : Int) := by omega
      have c1 := HF.out k hlt
      have HT : Hid (l.take (k + 1) = l.take k ++ [l.getD k 0]) := by
        show _ = _
        rw [List.take_succ_eq_append_getElem hlt, getD_lt _ _ _ hlt]
      have HM : Hid (l.getD k 0 ∈ l) := by
        show _ ∈ _
        rw [getD_lt _ _ _ hlt]; exact List.getElem_mem _
      generalize l.getD k 0 = y at *
      by_cases hy : y = x
      · subst hy
        have HE : Hid (decide (y ∈ l) = true) := decide_eq_true HM.out
        clear HM HT HN
        go_wp2
        go_ret
        exact ⟨ret_bool HE.out.symm, Below.refl _ _⟩
      · have t1 : (y == x) = false := by simpa using hy
        have HN2 : Hid (x ∉ l.take (k + 1)) := by
          show _ ∉ _
          rw [HT.out, List.mem_append, List.mem_singleton]
          rintro (h | h)
          · exact HN.out h
          · exact hy h.symm
        clear HM HT HN hy
        go_wp2
        go_roundg (l.length - (k + 1))
        case measure => have := HGK.out; omega
        case rel => exact ⟨k + 1, rfl, by go_num, by omega, rfl, HN2⟩
    · have i1 : ¬ (k : Int) < (l.length : Int) := by omega
      have HE : Hid (decide (x ∈ l) = false) := by
        show _ = _
        have := HN.out
        rw [List.take_of_length_le (by omega)] at this
        exact decide_eq_false this
      go_wp2
      go_ret
      exact ⟨ret_bool HE.out.symm, Below.refl _ _⟩
/-- The moves that a choice leaves. -/
def mvL (g : Gm) (p : Int) (s : List Int) (v : Nat) : List Int := if g.owner.getD v 0 = p then [s.getD v 0] else g.succ.getD v []
theorem IsGame.three {w : World} {a b c : Value} {g : Gm} (h : IsGame w (.agg #[a, b, c]) g) : IsInts w a g.owner ∧ IsInts w b g.prio ∧ IsRows w c g.succ := by
  obtain ⟨v0, v1, v2, hv, i0, i1, i2⟩ := h
  simp only [Value.agg.injEq, Array.mk.injEq, List.cons.injEq] at hv
  obtain ⟨rfl, rfl, rfl, -⟩ := hv
  exact ⟨i0, i1, i2⟩
theorem OI_one' {w : World} {g : Nat} {x : Int} (h : w.heap[g]? = some (.cells #[.int .i64 x] 3 (0, 0))) (hx : I64 x) : IsInts w (.slice (some ⟨g, 0, none⟩) 1 1) [x] :=
  (OI_one h (Nat.zero_le _)).is (by simp [maxN]) (by simpa using hx)

theorem cell_lt {w : World} {b o : Nat} {v : Value} (h : w.cell? ⟨b, o, none⟩ = some v) : b < w.heap.size := by
  rcases Nat.lt_or_ge b w.heap.size with h1 | h1
  · exact h1
  · have h2 : w.heap[b]? = none := Array.getElem?_eq_none h1
    simp [World.cell?, h2] at h
/-- A list that lies in old memory (below B) or in new. -/
def NewIB (B : Nat) (l : List Int) (w : World) (e : Ending) (w' : World) : Prop := ∃ v, e = .returned v ∧ IsInts w' v l ∧ Below w.heap.size w w' ∧ (0 < l.length → ∀ k, v.ownBlock = some k → k < B ∨ w.heap.size ≤ k)
theorem row_lt {w : World} {a : Option Addr} {n c : Nat} {l : List Int} (h : IsInts w (.slice a n c) l) (hn : 0 < n) : ∀ k, (Value.slice a n c).ownBlock = some k → k < w.heap.size := by
  obtain ⟨b, o, hd, -, hf⟩ := h.data
  obtain rfl := hd hn
  intro k hk
  obtain rfl : b = k := by simpa [Value.ownBlock] using hk
  exact cell_lt (hf 0 hn)

set_option maxRecDepth 100000 in
set_option maxHeartbeats 4000000 in
theorem moves_c (w0 w : World) (vg vs : Value) (g : Gm) (p : Int) (s : List Int) (v : Nat) (hw : Below w0.heap.size w0 w) (hg : IsGame w0 vg g) (hs : IsInts w0 vs s) (hl0 : g.owner.length ≤ 3000) (hl : s.length = g.owner.length) (hl2 : g.succ.length = g.owner.length) (hv : v < g.owner.length)
    (hr : g.owner.getD v 0 = p → 0 ≤ s.getD v 0 ∧ s.getD v 0 < g.owner.length) :
    Calls Try.prog 26 #[vg, .int .i64 p, vs, .int .i64 (v : Int)] w (NewIB w0.heap.size (mvL g p s v) w) := by
  obtain ⟨a0, c0, a1, c1, a2, c2, rfl⟩ := hg.shape
  obtain ⟨aS, cS, rfl⟩ := hs.shape
  obtain ⟨i0, -, i2⟩ := hg.three
  obtain ⟨b0, o0, d0, n0, f0⟩ := i0.data
  obtain ⟨b2, o2, d2, n2, f2⟩ := i2.dat2
  obtain ⟨bS, oS, dS, nS, fS⟩ := hs.data
  have q0 := f0 v hv
  have qS := fS v (by omega)
  obtain ⟨aR, cR, q2, hrow⟩ := f2 v (by omega)
  rw [hl2, hl] at *
  obtain rfl := d0 (by omega)
  obtain rfl := d2 (by omega)
  obtain rfl := dS (by omega)
  clear f0 f2 fS d0 d2 dS i0 i2 hg hs n0 n2 nS
  have HROW := Lib.hid (hrow.below hw)
  have HLT : Hid (0 < (g.succ.getD v []).length → ∀ k, (Value.slice aR (g.succ.getD v []).length cR).ownBlock = some k → k < w0.heap.size) := fun h => row_lt hrow h
  replace q0 := cellB hw q0
  replace q2 := cellB hw q2
  replace qS := cellB hw qS
  clear hrow hw
  have hi0 : (0 : Int) ≤ (v : Int) := by omega
  have hi1 : (v : Int) < (g.owner.length : Int) := by omega
  have HMV : Hid (mvL g p s v = if g.owner.getD v 0 = p then [s.getD v 0] else g.succ.getD v []) := rfl
  generalize mvL g p s v = R at *
  generalize g.owner.getD v 0 = ow at *
  generalize s.getD v 0 = sv at *
  generalize g.succ.getD v [] = row at *
  generalize g.owner.length = n at *
  generalize g.prio.length = n1 at *
  have hrl : row.length = row.length := rfl
  generalize hrlx : row.length = rl at *
  have HRL := Lib.hid hrlx
  clear hrl hrlx
  go_enter Try.func26, Try.ntmps26
  go_upto_region 1 with (fail)
  obtain ⟨hx, hb, hB⟩ := box_new (w0 := w) (Below.refl _ _) (Nat.le_refl _) #[.slice (some ⟨b0, o0, none⟩) n c0, .slice a1 n1 c1, .slice (some ⟨b2, o2, none⟩) n c2] 25
  replace q0 := cellB hb q0
  replace qS := cellB hb qS
  replace q2 := cellB hb q2
  have HRW := Lib.hid (HROW.out.below hb)
  generalize w.alloc (.cells #[.slice (some ⟨b0, o0, none⟩) n c0, .slice a1 n1 c1, .slice (some ⟨b2, o2, none⟩) n c2] 25) = w1 at *
  have k0 := cell_of_row _ _ 0 _ _ _ hx
  have k2 := cell_of_row _ _ 2 _ _ _ hx
  have HB := Lib.hid hB
  clear hb hB hx HROW
  by_cases ho : ow = p
  · obtain ⟨r0, r1⟩ := hr ho
    have HE : Hid (R = [sv]) := by show _ = _; rw [HMV.out, if_pos ho]
    subst ho
    clear hr HMV
    have HI : Hid (I64 sv) := by show I64 _; simp only [I64]; omega
    go_quiet (fail)
    go_upto_region 2 with (fail)
    generalize hwz : w1.drewN _ = wz at *
    have HBZ : Hid (Below w.heap.size w wz) := by show Below _ _ _; rw [← hwz]; exact HB.out.trans (below_draws _ _ _)
    have qz : wz.cell? ⟨bS, oS + v, none⟩ = some (.int .i64 sv) := by rw [← hwz]; exact cellB (below_draws w1 _ _) qS
    clear hwz qS
    go_wp2
    go_ret
    exact ⟨_, rfl, by rw [HE.out]; exact OI_one' (heap_alloc_new _ _) HI.out, HBZ.out.trans ((bel_box _).mono HBZ.out.size), fun _ k hk => .inr (by
      obtain rfl : wz.heap.size = k := by simpa [Value.ownBlock] using hk
      exact HBZ.out.size)⟩
  · have t1 : (ow == p) = false := by simpa using ho
    have HE : Hid (R = row) := by show _ = _; rw [HMV.out, if_neg ho]
    clear hr HMV
    go_quiet (fail)
    go_wp2
    go_ret
    exact ⟨_, rfl, by rw [HE.out]; exact HRW.out.below (below_draws _ _ _), HB.out.trans (below_draws _ _ _), fun h k hk => .inl (HLT.out (by rw [HE.out, HRL.out] at h; exact h) k hk)⟩

end Go.Proofs.Ytijkjhcigdfdgaa

namespace Go.Proofs.Ytijkjhcigdfdgaa
open Go.RowKit

theorem IsInts.grownN {w w' : World} {v : Value} {l : List Int} {o : Option Nat} (h : IsInts w v l) (hg : w.grownBy w' o) (hne : 0 < l.length → ∀ k, v.ownBlock = some k → some k ≠ o ∧ k < w.heap.size) : IsInts w' v l := by
  obtain ⟨⟨a, c, b, of, rfl, ha⟩, hi⟩ := h
  refine ⟨⟨a, c, b, of, rfl, { ha with el := fun j hj => ?_ }⟩, hi⟩
  have h0 := ha.ad (by omega)
  have h1 := hne (by omega) b (by rw [h0]; rfl)
  have hb := hg.block b h1.2 h1.1
  have e := ha.el j hj
  rw [← e]
  simp only [World.cell?]
  rw [hb]
/-- The search: what is seen, and the list. -/
structure BD (n : Nat) (Q : Nat → Prop) (B zs : Nat) (w1 wr : World) (ul : Value) (S : List Bool) (L : List Int) : Prop where
  so : OB wr B (.slice (some ⟨zs, 0, none⟩) n n) S
  lo : OI wr B ul L
  ne : ul.ownBlock ≠ some zs
  bl : Below B w1 wr
  sz : B ≤ wr.heap.size
  sl : S.length = n
  cn : L.length = 1 + S.count true
  al : ∀ x ∈ L, ∃ y : Nat, x = (y : Int) ∧ y < n ∧ Q y
section
variable {n B zs : Nat} {Q : Nat → Prop} {w1 wr w' : World} {ul ul' : Value} {S : List Bool} {L : List Int}
theorem BD.most (h : BD n Q B zs w1 wr ul S L) : L.length ≤ n + 1 := by
  have := h.cn
  have h2 : S.count true ≤ S.length := List.count_le_length
  have := h.sl
  omega
theorem BD.below (h : BD n Q B zs w1 wr ul S L) (hb : Below wr.heap.size wr w') : BD n Q B zs w1 w' ul S L :=
  { h with so := h.so.below hb, lo := h.lo.below hb, bl := h.bl.trans (hb.mono h.sz), sz := Nat.le_trans h.sz hb.size }
theorem BD.push {y : Nat} (h : BD n Q B zs w1 wr ul S L) (hy : y < n) (hs : S.getD y false = false) (hq : Q y) (ho : OI w' B ul' (L ++ [(y : Int)])) (hg : (wr.setCell ⟨zs, y, none⟩ (.bool true)).grownBy w' ul.ownBlock) (hm : Moved (wr.setCell ⟨zs, y, none⟩ (.bool true)) ul ul') : BD n Q B zs w1 w' ul' (S.set y true) (L ++ [(y : Int)]) := by
  have hzlt : zs < wr.heap.size := h.so.lt' zs rfl
  have hzge : B ≤ zs := h.so.ge zs rfl
  have hsz : (wr.setCell ⟨zs, y, none⟩ (.bool true)).heap.size = wr.heap.size := by simp
  have hb1 : Below B w1 (wr.setCell ⟨zs, y, none⟩ (.bool true)) := h.bl.grown (grown_set wr zs y (.bool true)) h.sz (fun k hk => by
    obtain rfl : zs = k := by simpa using hk
    exact hzge)
  have hb2 : Below B w1 w' := hb1.grown hg (by rw [hsz]; exact h.sz) (fun k hk => h.lo.ge k hk)
  refine ⟨(h.so.set h.sl.symm y true).grown hg (.inr fun e => h.ne e.symm), ho, fun e => ?_, hb2, ?_, by rw [List.length_set]; exact h.sl, ?_, fun x hx => ?_⟩
  · rcases hm zs e with h1 | h1
    · exact h.ne h1
    · rw [hsz] at h1; omega
  · have := hg.size
    rw [hsz] at this
    exact Nat.le_trans h.sz this
  · have hyl : y < S.length := by rw [h.sl]; exact hy
    rw [List.length_append, List.length_singleton, h.cn, List.count_set hyl]
    have : S[y] = false := by rw [getD_lt _ _ _ hyl] at hs; exact hs
    simp [this]; omega
  · rcases List.mem_append.1 hx with h1 | h1
    · exact h.al x h1
    · obtain rfl : x = (y : Int) := by simpa using h1
      exact ⟨y, rfl, hy, hq⟩
end

end Go.Proofs.Ytijkjhcigdfdgaa
