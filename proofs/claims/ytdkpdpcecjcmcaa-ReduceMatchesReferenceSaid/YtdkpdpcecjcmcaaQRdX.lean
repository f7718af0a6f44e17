/- A matrix of truth values that is built by 'append', row after row, and then written to. What empty returns: no moves. -/
import Derived.Test.YtdkpdpcecjcmcaaQRegG
import Derived.Test.YtdkpdpcecjcmcaaQRd18
import Derived.Test.YtdkpdpcecjcmcaaQRdA
namespace Go.Proofs.Ytdkpdpcecjcmcaa
open Go.RowKit

theorem info_bools : (Try.prog.info? 55).map (fun i => (i.zero, i.size, i.bytes)) = some (some (.slice none 0 0), 1, 24) := by kernel_rfl
/-- The first i rows, of c truth values each. -/
structure MW (w : World) (B : Nat) (vo : Value) (vals : List Value) (i c : Nat) (M : Nat → Nat → Bool) : Prop where
  o : w.ownsRow B 55 1 vo i vals
  ln : vals.length = i
  e : ∀ j, j < i → OB w B (vals.getD j undef) (mrow c (M j))
  ap : ∀ j, j < i → Apart vo (vals.getD j undef)
  inj : ∀ j k, j < i → k < i → j ≠ k → Apart (vals.getD j undef) (vals.getD k undef)
/-- What a write to the matrix changes. -/
def hotM (vo : Value) (vals : List Value) (i q : Nat) : Prop := vo.ownBlock = some q ∨ ∃ j, j < i ∧ (vals.getD j undef).ownBlock = some q
section
variable {w w' : World} {B B' i c : Nat} {vo v' y : Value} {vals : List Value} {M : Nat → Nat → Bool}
theorem MW.nil (w : World) (B c : Nat) (M : Nat → Nat → Bool) {vo : Value} (h : w.ownsRow B 55 1 vo 0 []) : MW w B vo [] 0 c M :=
  ⟨h, rfl, fun j h => absurd h (Nat.not_lt_zero _), fun j h => absurd h (Nat.not_lt_zero _), fun j k h => absurd h (Nat.not_lt_zero _)⟩
theorem MW.lt (h : MW w B vo vals i c M) : ∀ q, hotM vo vals i q → B ≤ q ∧ q < w.heap.size := by
  rintro q (e | ⟨j, hj, e⟩)
  · exact World.ownsRow.lt h.o q e
  · exact ⟨(h.e j hj).ge q e, (h.e j hj).lt' q e⟩
theorem MW.only {S : Nat → Prop} (h : MW w B vo vals i c M) (ho : Only S w w') (hS : ∀ q, S q → ¬ hotM vo vals i q) : MW w' B vo vals i c M :=
  ⟨ownsRow_only h.o ho fun q e k => hS q k (.inl e), h.ln, fun j hj => (h.e j hj).only ho fun q e k => hS q k (.inr ⟨j, hj, e⟩), h.ap, h.inj⟩
theorem MW.below (h : MW w B vo vals i c M) (hb : Below w.heap.size w w') : MW w' B vo vals i c M := h.only (S := fun _ => False) (Only.of_below hb) fun _ e => e.elim
theorem MW.base (h : MW w B vo vals i c M) (hb : B' ≤ B) : MW w B' vo vals i c M := by
  refine ⟨⟨h.o.1, ?_⟩, h.ln, fun j hj => (h.e j hj).base hb, h.ap, h.inj⟩
  rcases h.o.2 with h0 | ⟨g, cap, cur, hv, hg, r⟩
  · exact .inl h0
  · exact .inr ⟨g, cap, cur, hv, Nat.le_trans hb hg, r⟩
theorem MW.congr {M' : Nat → Nat → Bool} (h : MW w B vo vals i c M) (he : ∀ j x, j < i → x < c → M j x = M' j x) : MW w B vo vals i c M' := by
  refine ⟨h.o, h.ln, fun j hj => ?_, h.ap, h.inj⟩
  have e : mrow c (M j) = mrow c (M' j) := List.map_congr_left fun x hx => he j x hj (List.mem_range.1 hx)
  rw [← e]; exact h.e j hj
theorem MW.slice (h : MW w B vo vals i c M) : ∃ a k, vo = .slice a i k := ownsRow_slice h.o
/-- A row is appended. -/
theorem MW.add (h : MW w B vo vals i c M) (ho : w'.ownsRow B 55 1 v' (i + 1) (vals ++ [y])) (hg : w.grownBy w' vo.ownBlock) (hm : Moved w vo v') (hy : OB w B y (mrow c (M i))) (hay : ∀ q, y.ownBlock = some q → ¬ hotM vo vals i q) : MW w' B v' (vals ++ [y]) (i + 1) c M := by
  have hl := h.ln
  have e1 : ∀ j, j < i → (vals ++ [y]).getD j undef = vals.getD j undef := fun j hj => by simp [List.getD, List.getElem?_append_left (show j < vals.length by omega)]
  have e2 : (vals ++ [y]).getD i undef = y := by rw [← hl]; simp [List.getD]
  have hG := Only.of_grown hg
  refine ⟨ho, by simp [hl], fun j hj => ?_, fun j hj => ?_, fun j k hj hk hne => ?_⟩
  · by_cases e : j = i
    · subst e; rw [e2]
      exact hy.only hG fun q e k => hay q e (.inl k)
    · rw [e1 j (by omega)]
      exact (h.e j (by omega)).only hG fun q e' k => h.ap j (by omega) q k e'
  · by_cases e : j = i
    · subst e; rw [e2]
      exact fun q k1 k2 => (hm q k1).elim (fun k => hay q k2 (.inl k)) fun k => by have := hy.lt' q k2; omega
    · rw [e1 j (by omega)]
      exact fun q k1 k2 => (hm q k1).elim (fun k => h.ap j (by omega) q k k2) fun k => by have := (h.e j (by omega)).lt' q k2; omega
  · by_cases e : j = i
    · subst e
      rw [e2, e1 k (by omega)]
      exact fun q k1 k2 => hay q k1 (.inr ⟨k, by omega, k2⟩)
    · by_cases e' : k = i
      · subst e'
        rw [e2, e1 j (by omega)]
        exact fun q k1 k2 => hay q k2 (.inr ⟨j, by omega, k1⟩)
      · rw [e1 j (by omega), e1 k (by omega)]
        exact h.inj j k (by omega) (by omega) hne
/-- Reading. -/
theorem MW.at' {gO n k : Nat} (h : MW w B (.slice (some ⟨gO, 0, none⟩) n k) vals i c M) {j x : Nat} (hj : j < i) (hx : x < c) :
    ∃ gJ kJ, vals.getD j undef = .slice (some ⟨gJ, 0, none⟩) c kJ ∧ w.cell? ⟨gO, j, none⟩ = some (.slice (some ⟨gJ, 0, none⟩) c kJ) ∧ w.cell? ⟨gJ, x, none⟩ = some (.bool (M j x)) ∧ w.frozen? ⟨gJ, x, none⟩ = false := by
  have ho := h.o
  obtain ⟨a1, k1, he⟩ := ownsRow_slice ho
  injection he with e1 e2 e3
  subst e2
  obtain ⟨gJ, kJ, hv, -, -⟩ := (h.e j hj).row (by rw [mrow_len]; omega)
  rw [mrow_len] at hv
  refine ⟨gJ, kJ, hv, ?_, ?_, ?_⟩
  · rw [World.ownsRow.cellAt ho j (by omega), ← hv]
    have : j < vals.length := by rw [h.ln]; exact hj
    rw [getD_lt _ _ _ this]; simp [this]
  · have h2 := h.e j hj
    rw [hv] at h2
    have hl : x < (mrow c (M j)).length := by rw [mrow_len]; exact hx
    rw [OB.at' h2 (mrow_len _ _).symm x hl, ← getD_lt _ false _ hl, mrow_at _ _ _ hx]
  · have h2 := h.e j hj
    rw [hv] at h2
    unfold OB at h2
    rw [mrow_len] at h2
    exact World.ownsRow.frozenAt h2 x
/-- Writing. -/
theorem MW.set {gJ kJ : Nat} (h : MW w B vo vals i c M) {j x : Nat} (hj : j < i) (hv : vals.getD j undef = .slice (some ⟨gJ, 0, none⟩) c kJ) (b : Bool) : MW (w.setCell ⟨gJ, x, none⟩ (.bool b)) B vo vals i c (upM M j x b) := by
  have hS : Only (fun q => q = gJ) w (w.setCell ⟨gJ, x, none⟩ (.bool b)) := Only.set _ _ _ rfl
  have hown : (vals.getD j undef).ownBlock = some gJ := by rw [hv]; rfl
  refine ⟨ownsRow_only h.o hS fun q e k => h.ap j hj q e (by rw [k]; exact hown), h.ln, fun a ha => ?_, h.ap, h.inj⟩
  by_cases e : a = j
  · subst e
    rw [← mrow_set]
    have h2 := h.e a ha
    rw [hv] at h2 ⊢
    exact OB.set h2 (mrow_len _ _).symm x b
  · rw [mrow_other _ _ _ _ _ _ e]
    exact (h.e a ha).only hS fun q e1 k => h.inj a j ha hj e q e1 (by rw [k]; exact hown)
end
theorem upM_at (M : Nat → Nat → Bool) (i j a c : Nat) (b : Bool) : upM M i j b a c = if a = i ∧ c = j then b else M a c := rfl
theorem mrow_snoc (c : Nat) (f : Nat → Bool) : mrow (c + 1) f = mrow c f ++ [f c] := by unfold mrow; rw [List.range_succ, List.map_append]; rfl

/-- The element that 'append' of a truth value is handed. -/
def ElB (b : Bool) (v : Value) (W : World) : Prop := ∃ u, v = .slice (some ⟨u, 0, none⟩) 1 1 ∧ W.heap[u]? = some (.cells #[.bool b] 4 (0, 0))
theorem ElB.below {b : Bool} {v : Value} {W W' : World} (h : ElB b v W) (hb : Below W.heap.size W W') : ElB b v W' := by
  obtain ⟨u, h1, h2⟩ := h
  exact ⟨u, h1, (hb.block u (Array.getElem?_eq_some_iff.1 h2).1).trans h2⟩
theorem ElB.made (b : Bool) (W : World) : ElB b (.slice (some ⟨W.heap.size, 0, none⟩) 1 1) (W.alloc (.cells #[.bool b] 4)) := ⟨_, rfl, heap_alloc_new _ _⟩
def AppB (B : Nat) (b : Bool) (v : Value) (l : List Bool) (v' : Value) (W9 W : World) : Prop := OB W B v' (l ++ [b]) ∧ W9.grownBy W v.ownBlock ∧ Moved W9 v v'
theorem wp_app_boolU {b : Bool} {o : Oper} {a : Act} {K : Act → World → Prop} {Q : Exit → Act → World → Prop} (w : World) (s x : Operand)
    (ho : o.op = .call { callee := .builtin .append, args := #[s, x], argTypes := #[55, 55] })
    (base : Nat) (v : Value) (l : List Bool) (hs : a.eval s = v) (hown : OB w base v l) (u : Value) (hx : a.eval x = u)
    (hnew : ElB b u w) (hn : l.length < 140737488355327) (hbase : base ≤ w.heap.size)
    (h : ∀ v' w', AppB base b v l v' w w' → K (a.put o.dst v') w') : Oper.wp Try.prog o a w K Q := by
  obtain ⟨g, rfl, hb⟩ := hnew
  obtain ⟨i0, hi0, hz0, hz1, hz2⟩ := info_parts info_bool
  have hnews : ∀ j u', ([.bool b] : List Value)[j]? = some u' → w.cell? ((⟨g, 0, none⟩ : Addr).add j) = some u' := fun j u' hu => by
    rw [show (⟨g, 0, none⟩ : Addr).add j = ⟨g, j, none⟩ by simp [Addr.add]; omega, cell_of_row w _ j _ _ _ hb]
    simpa using hu
  have h1 : ∀ u ∈ ([.bool b] : List Value), u.oneCell' = true := by intro u hu; rw [List.mem_singleton.1 hu]; rfl
  obtain ⟨v', w', hr, h2, h3, h4⟩ := run_append_own (P := Try.prog) w base 55 o.type 4 i0 _ 1 1 Try.underlying55 hi0 hz0 hz1 hz2 rfl (by decide) v l.length _ hown ⟨g, 0, none⟩ 1 1 [.bool b] rfl hnews h1 (by simp only [maxLen]; omega) (by omega) hbase
  have h5 := run_append_fresh (P := Try.prog) w base 55 o.type 4 i0 _ 1 1 Try.underlying55 hi0 hz0 hz1 hz2 v l.length _ hown ⟨g, 0, none⟩ 1 1 [.bool b] rfl hnews h1 (by simp only [maxLen]; omega) (by omega) v' w' hr
  unfold Oper.wp execOp
  simp only [ho, resolve, invoke, builtin, Sem.run_bind, Sem.run_pure, Result.andThen_ok, List.map_toArray, List.map_cons, List.map_nil, hs, hx, hr]
  refine h v' w' ⟨?_, h3, fun g hg => (h5 g hg).imp id (fun e => by omega)⟩
  unfold OB
  rw [List.map_append, List.length_append]
  exact h2
/-- 'append' of a row of truth values. -/
theorem app_browB {ops : Array Oper} {rest : List Oper} {o : Oper} {a : Act} {Q : Exit → Act → World → Prop} {w : World} (hgd : o.guard = none) (s x : Operand) (u : Value)
    (ho : o.op = .call { callee := .builtin .append, args := #[s, x], argTypes := #[52, 52] })
    (base : Nat) (v : Value) (n : Nat) (l : List Value) (hown : w.ownsRow base 55 1 v n l) (hs : a.eval s = v) (m : Nat) (hm : m = w.heap.size) (hx : a.eval x = .slice (some ⟨m, 0, none⟩) 1 1) (hu : u.oneCell' = true)
    (hn : n < 5864062014000) (hbase : base ≤ w.heap.size)
    (h : ∀ v' w', w'.ownsRow base 55 1 v' (n + 1) (l ++ [u]) → w.grownBy w' v.ownBlock → Moved w v v' → wpList Try.prog ops Q rest (a.put o.dst v') w') :
    wpList Try.prog ops Q (o :: rest) a (w.alloc (.cells #[u] 55)) :=
  wpList_app1 hgd s x _ _ 24 _ u ho Try.underlying52 info_bools rfl base v n _ hs hown m hm hx hu (by omega) (by decide) hbase h

end Go.Proofs.Ytdkpdpcecjcmcaa

namespace Go.Proofs.Ytdkpdpcecjcmcaa
open Go.RowKit

theorem app_browM {ops : Array Oper} {rest : List Oper} {o : Oper} {a : Act} {Q : Exit → Act → World → Prop} {w : World} (hgd : o.guard = none) (s x : Operand) (u : Value)
    (ho : o.op = .call { callee := .builtin .append, args := #[s, x], argTypes := #[53, 53] })
    (base : Nat) (v : Value) (n : Nat) (l : List Value) (hown : w.ownsRow base 55 1 v n l) (hs : a.eval s = v) (m : Nat) (hm : m = w.heap.size) (hx : a.eval x = .slice (some ⟨m, 0, none⟩) 1 1) (hu : u.oneCell' = true)
    (hn : n < 5864062014000) (hbase : base ≤ w.heap.size)
    (h : ∀ v' w', w'.ownsRow base 55 1 v' (n + 1) (l ++ [u]) → w.grownBy w' v.ownBlock → Moved w v v' → wpList Try.prog ops Q rest (a.put o.dst v') w') :
    wpList Try.prog ops Q (o :: rest) a (w.alloc (.cells #[u] 55)) :=
  wpList_app1 hgd s x _ _ 24 _ u ho Try.underlying53 info_bools rfl base v n _ hs hown m hm hx hu (by omega) (by decide) hbase h
def noM : Nat → Nat → Bool := fun _ _ => false
theorem mrow_no (k i : Nat) : mrow k (noM i) = List.replicate k false := by
  apply List.ext_getElem (by simp [mrow])
  intro j h1 h2
  simp [mrow, noM]
/-- The call hands a new matrix back. -/
def NewM (n k : Nat) (M : Nat → Nat → Bool) (w : World) (e : Ending) (w' : World) : Prop := ∃ vo vals, e = .returned vo ∧ MW w' w.heap.size vo vals n k M ∧ Below w.heap.size w w'

set_option maxRecDepth 100000 in
set_option maxHeartbeats 4000000 in
theorem empty_c (w : World) (v : Value) (a : Au) (k : Nat) (ha : IsAuto w v a) (hA : AuV a k) : Calls Try.prog 39 #[v] w (NewM a.next.length k noM w) := by
  obtain ⟨vN, vP, rfl, hI, hN, hP⟩ := ha
  have HLk := Lib.hid hA.L
  have hk1 : 1 ≤ k ∧ k ≤ 64 := hA.k1
  have hn3 : a.next.length ≤ 3000 := hA.n1.2
  obtain ⟨aN, cN, bN, oN, V, hvN, hdN, hmN, hVN⟩ := hN.data
  subst hvN
  have bx := heap_alloc_new w (.cells #[.int .i64 a.letters, .int .i64 a.start, .slice aN a.next.length cN, vP] 24)
  have hb1 : Below w.heap.size w (w.alloc (.cells #[.int .i64 a.letters, .int .i64 a.start, .slice aN a.next.length cN, vP] 24)) := bel_box _
  have HBX := Lib.hid bx
  have HB1 := Lib.hid hb1
  clear hI hN hP hVN hdN hA bx hb1
  go_enter Try.func39, Try.ntmps39
  go_upto_region 1 with (fail)
  generalize w.alloc (.cells #[.int .i64 a.letters, .int .i64 a.start, .slice aN a.next.length cN, vP] 24) = w1 at *
  obtain ⟨zw, hzw⟩ : ∃ zw, zw = w.heap.size := ⟨_, rfl⟩
  rw [← hzw] at HBX
  rw [← hzw]
  have HZW := Lib.hid hzw
  have hz1 : zw < w1.heap.size := (Array.getElem?_eq_some_iff.1 HBX.out).1
  clear hzw
  go_upto_region 2 with (fail)
  have HO0 : Hid ((w1.alloc (.cells #[] 55)).ownsRow w1.heap.size 55 1 (.slice (some ⟨w1.heap.size, 0, none⟩) 0 0) 0 []) := by
    show World.ownsRow _ _ _ _ _ _ _
    have h := World.ownsRow_lit (base := w1.heap.size) (e := 55) (size := 1) w1 #[] 0 (Nat.le_refl _) (by simp [maxLen]) (by simp)
    simpa using h
  have HB2 : Hid (Below w1.heap.size w1 (w1.alloc (.cells #[] 55))) := bel_box _
  have HM0 := Lib.hid (MW.nil (w1.alloc (.cells #[] 55)) w1.heap.size k noM HO0.out)
  generalize w1.alloc (.cells #[] 55) = w2 at *
  obtain ⟨B, hB⟩ : ∃ B, B = w1.heap.size := ⟨_, rfl⟩
  rw [← hB] at HM0 HB2 hz1
  rw [← hB]
  have HBe := Lib.hid hB
  clear hB HO0
  go_wp2
  go_loopg [3, 4] a.next.length (fun gh c3 c4 wx => ∃ (i : Nat) (vals : List Value), gh = a.next.length - i ∧ c4 = .int .i64 (i : Int) ∧ i ≤ a.next.length ∧ Hid (MW wx B c3 vals i k noM) ∧ Hid (Below B w1 wx))
  case atStart => exact ⟨0, [], rfl, rfl, by omega, HM0, HB2⟩
  case round =>
    clear HM0 HB2
    obtain ⟨i, vals, hgi, rfl, hin, HMo, HBo⟩ := hrel
    have HGI := Lib.hid hgi
    clear hgi
    obtain ⟨aO, cO, hv3⟩ := HMo.out.slice
    subst hv3
    have hBr : B ≤ wr.heap.size := by have h1 := HBo.out.size; have h2 := HBe.out; omega
    have HBX2 := Lib.hid ((HBo.out.block zw hz1).trans HBX.out)
    have c2 := cell_of_row _ _ 2 _ _ _ HBX2.out
    have c0 := cell_of_row _ _ 0 _ _ _ HBX2.out
    by_cases hi : i < a.next.length
    · as_aux_lemma =>
      have hi2 : (i : Int) < a.next.length := by omega
      go_wp2_with (first
        | (at_make; refine mk_bool rfl _ _ _ Try.underlying55 rfl wr.heap.size _ k rfl rfl HLk.out (by omega) (Nat.le_refl _) ?_; intro w6 hown hg1; have HO6 := Lib.hid hown; have HG6 := Lib.hid hg1; have hb6 : Below wr.heap.size wr w6 := below_of_grown hg1 (fun q e => (nomatch e)) (Nat.le_refl _); have HM6 := Lib.hid (HMo.out.below hb6); have HB6 := Lib.hid (HBo.out.trans (hb6.mono hBr)); have hB6 : B ≤ w6.heap.size := Nat.le_trans hBr hb6.size; have hoM := HM6.out.o; clear hown hg1)
        | (at_builtin; refine app_browM rfl _ _ (.slice (some ⟨wr.heap.size, 0, none⟩) k k) rfl B _ _ _ hoM rfl _ (by simp) rfl rfl (by omega) hB6 ?_; intro v' w' hown' hg hmv; have HG := Lib.hid hg; have HO' := Lib.hid hown'; have HMV := Lib.hid hmv; clear hown' hg hmv hoM))
      have HAy : Hid (∀ q, (.slice (some ⟨wr.heap.size, 0, none⟩) k k : Value).ownBlock = some q → ¬ hotM (.slice aO i cO) vals i q) := fun q e1 e2 => by
        have e1 : wr.heap.size = q := Option.some.inj e1
        have h2 := (HMo.out.lt q e2).2
        omega
      have HMn := Lib.hid (HM6.out.add HO'.out HG.out HMV.out (by rw [mrow_no]; exact HO6.out.base hBr) HAy.out)
      have HBn := Lib.hid (HB6.out.trans ((Only.of_grown HG.out).below B (fun q e => (HMo.out.lt q (.inl e)).1) hB6))
      go_roundg (a.next.length - (i + 1))
      case measure => have := HGI.out; omega
      case rel => exact ⟨i + 1, _, rfl, by go_num, by omega, HMn, HBn⟩
    · as_aux_lemma =>
      obtain rfl : i = a.next.length := by omega
      go_wp2
      go_ret
      exact ⟨_, vals, rfl, HMo.out.base (by have h1 := HB1.out.size; have h2 := HBe.out; omega), HB1.out.trans (HBo.out.mono (by have h1 := HB1.out.size; have h2 := HBe.out; omega))⟩

end Go.Proofs.Ytdkpdpcecjcmcaa
