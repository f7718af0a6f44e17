/- A copy of numbers by 'append' to an empty row, in a region that draws its order. A matrix of whole numbers in memory (built by 'append', then written to), as XRdX's of truth values. lower's loops, plain. -/
import Derived.Test.YtdkpdpcecjcmcaaQRegG
import Derived.Test.YtdkpdpcecjcmcaaQRdX
import Derived.Test.YtdkpdpcecjcmcaaQRd41
namespace Go.Proofs.Ytdkpdpcecjcmcaa
open Go.RowKit

theorem OI_up {W : World} {base c : Nat} {v : Value} {l : List Int} (h : OI W base v l) (hc : ∀ g, v.ownBlock = some g → c ≤ g) : OI W c v l := by
  refine ⟨h.1, ?_⟩
  rcases h.2 with h0 | ⟨g, cap, cur, hv, hg, r⟩
  · exact .inl h0
  · exact .inr ⟨g, cap, cur, hv, hc g (by rw [hv]; rfl), r⟩

theorem wp_app_emptyI {o : Oper} {a : Act} {K : Act → World → Prop} {Q : Exit → Act → World → Prop} (w : World) (s x : Operand)
    (ho : o.op = .call { callee := .builtin .append, args := #[s, x], argTypes := #[29, 29] })
    (b : Nat) (hs : a.eval s = .slice (some ⟨b, 0, none⟩) 0 0) (hb : w.heap[b]? = some (.cells #[] 3 (0, 0))) (v2 : Value) (l2 : List Int) (hx : a.eval x = v2) (hsrc : IsInts w v2 l2)
    (h0 : 0 < l2.length) (hn : l2.length ≤ 1000000)
    (h : ∀ v' w', OI w' w.heap.size v' l2 → Below w.heap.size w w' → K (a.put o.dst v') w') : Oper.wp Try.prog o a w K Q := by
  obtain ⟨i, hi, hz0, hz1, hz2⟩ := info_parts info_int
  obtain ⟨⟨ao, cap, b2, off, rfl, g⟩, -⟩ := hsrc
  have e : (List.range l2.length).map (ivF l2) = l2.map (Value.int .i64) := by
    apply List.ext_getElem (by simp)
    intro j h1 h2
    have : j < l2.length := by simpa using h1
    simp [ivF, this]
  obtain rfl := g.ad h0
  have hown : w.ownsRow b 3 1 (.slice (some ⟨b, 0, none⟩) 0 0) 0 [] := ⟨by simp, .inr ⟨b, 0, #[], rfl, Nat.le_refl _, hb, Nat.le_refl _, by simp [maxLen], by simp, by simp⟩⟩
  have hnews : ∀ j u, ((List.range l2.length).map (ivF l2))[j]? = some u → w.cell? ((⟨b2, off, none⟩ : Addr).add j) = some u := by
    intro j u hj
    have hjm : j < l2.length := by
      rcases Nat.lt_or_ge j l2.length with h | h
      · exact h
      · simp [Nat.not_lt.2 h] at hj
    have : ivF l2 j = u := by simpa [hjm] using hj
    subst this
    have h2 := g.el j hjm
    unfold Addr.add
    split
    · subst j; exact h2
    · exact h2
  have h1 : ∀ u ∈ (List.range l2.length).map (ivF l2), u.oneCell' = true := by
    intro u hu
    obtain ⟨j, _, rfl⟩ := List.mem_map.1 hu
    rfl
  obtain ⟨v', w', hr, h2, h3, h4, h5⟩ := run_append_own_at (P := Try.prog) (w := w) b 29 o.type 3 i _ 1 8 Try.underlying29 hi hz0 hz1 hz2 rfl (by decide) (.slice (some ⟨b, 0, none⟩) 0 0) 0 [] hown ⟨b2, off, none⟩ l2.length cap ((List.range l2.length).map (ivF l2)) (by simp) hnews h1 (by simp only [maxLen]; omega) (by omega) (Nat.le_of_lt (Array.getElem?_eq_some_iff.1 hb).1)
  have hfit : Builtin.nextslicecap (0 + l2.length) 0 * i.bytes ≤ 281474976710656 := by
    rw [Nat.zero_add, nextslicecap_zero h0, hz2]; omega
  have hg := run_append_grow (P := Try.prog) (w := w) 29 o.type 3 i _ Try.underlying29 hi hz0 ⟨b, 0, none⟩ 0 0 [] (by simp) (by simp) ⟨b2, off, none⟩ l2.length cap ((List.range l2.length).map (ivF l2)) (by rw [hz1]; simp) hnews (by omega) (by omega) hfit
  rw [hr] at hg
  injection hg with hv hw
  have hO : OI w' b v' l2 := by
    unfold OI
    rw [e] at h2
    simpa using h2
  unfold Oper.wp execOp
  simp only [ho, resolve, invoke, builtin, Sem.run_bind, Sem.run_pure, Result.andThen_ok, List.map_toArray, List.map_cons, List.map_nil, hs, hx, hr]
  refine h _ _ (OI_up hO fun q hq => ?_) ?_
  · rw [hv] at hq
    have : w.heap.size = q := Option.some.inj hq
    omega
  · rw [hw]
    exact (Below.drew (Below.refl _ _)).trans (bel_box (w := w.drew) _)

end Go.Proofs.Ytdkpdpcecjcmcaa

namespace Go.Proofs.Ytdkpdpcecjcmcaa
open Go.RowKit

def irow (n : Nat) (f : Nat → Int) : List Int := (List.range n).map f

theorem irow_len (n : Nat) (f : Nat → Int) : (irow n f).length = n := by simp [irow]

theorem irow_at (n : Nat) (f : Nat → Int) (k : Nat) (h : k < n) : (irow n f).getD k 0 = f k := by simp [irow, List.getD, h]

def upI (M : Nat → Nat → Int) (i j : Nat) (b : Int) : Nat → Nat → Int := fun a c => if a = i ∧ c = j then b else M a c

theorem irow_set (n : Nat) (M : Nat → Nat → Int) (i j : Nat) (b : Int) : (irow n (M i)).set j b = irow n (upI M i j b i) := by
  apply List.ext_getElem (by simp [irow])
  intro c h1 h2
  rw [List.getElem_set]
  simp only [irow, List.getElem_map, List.getElem_range, upI]
  by_cases e : j = c
  · subst e; simp
  · rw [if_neg e, if_neg (fun h => e h.2.symm)]

theorem irow_other (n : Nat) (M : Nat → Nat → Int) (i j a : Nat) (b : Int) (h : a ≠ i) : irow n (upI M i j b a) = irow n (M a) := by
  unfold irow upI
  congr 1
  funext c
  rw [if_neg (fun e => h e.1)]
/-- The first i rows, of c whole numbers each. -/
structure MI (w : World) (B : Nat) (vo : Value) (vals : List Value) (i c : Nat) (M : Nat → Nat → Int) : Prop where
  o : w.ownsRow B 29 1 vo i vals
  ln : vals.length = i
  e : ∀ j, j < i → OI w B (vals.getD j undef) (irow c (M j))
  ap : ∀ j, j < i → Apart vo (vals.getD j undef)
  inj : ∀ j k, j < i → k < i → j ≠ k → Apart (vals.getD j undef) (vals.getD k undef)
/-- What a write to the matrix changes. -/
def hotI (vo : Value) (vals : List Value) (i q : Nat) : Prop := vo.ownBlock = some q ∨ ∃ j, j < i ∧ (vals.getD j undef).ownBlock = some q
section
variable {w w' : World} {B B' i c : Nat} {vo v' y : Value} {vals : List Value} {M : Nat → Nat → Int}
theorem MI.nil (w : World) (B c : Nat) (M : Nat → Nat → Int) {vo : Value} (h : w.ownsRow B 29 1 vo 0 []) : MI w B vo [] 0 c M :=
  ⟨h, rfl, fun j h => absurd h (Nat.not_lt_zero _), fun j h => absurd h (Nat.not_lt_zero _), fun j k h => absurd h (Nat.not_lt_zero _)⟩
theorem MI.lt (h : MI w B vo vals i c M) : ∀ q, hotI vo vals i q → B ≤ q ∧ q < w.heap.size := by
  rintro q (e | ⟨j, hj, e⟩)
  · exact World.ownsRow.lt h.o q e
  · exact ⟨(h.e j hj).ge q e, (h.e j hj).lt' q e⟩
theorem MI.only {S : Nat → Prop} (h : MI w B vo vals i c M) (ho : Only S w w') (hS : ∀ q, S q → ¬ hotI vo vals i q) : MI w' B vo vals i c M :=
  ⟨ownsRow_only h.o ho fun q e k => hS q k (.inl e), h.ln, fun j hj => (h.e j hj).only ho fun q e k => hS q k (.inr ⟨j, hj, e⟩), h.ap, h.inj⟩
theorem MI.below (h : MI w B vo vals i c M) (hb : Below w.heap.size w w') : MI w' B vo vals i c M := h.only (S := fun _ => False) (Only.of_below hb) fun _ e => e.elim
theorem MI.base (h : MI w B vo vals i c M) (hb : B' ≤ B) : MI w B' vo vals i c M := by
  refine ⟨⟨h.o.1, ?_⟩, h.ln, fun j hj => (h.e j hj).base hb, h.ap, h.inj⟩
  rcases h.o.2 with h0 | ⟨g, cap, cur, hv, hg, r⟩
  · exact .inl h0
  · exact .inr ⟨g, cap, cur, hv, Nat.le_trans hb hg, r⟩
theorem MI.congr {M' : Nat → Nat → Int} (h : MI w B vo vals i c M) (he : ∀ j x, j < i → x < c → M j x = M' j x) : MI w B vo vals i c M' := by
  refine ⟨h.o, h.ln, fun j hj => ?_, h.ap, h.inj⟩
  have e : irow c (M j) = irow c (M' j) := List.map_congr_left fun x hx => he j x hj (List.mem_range.1 hx)
  rw [← e]; exact h.e j hj
theorem MI.slice (h : MI w B vo vals i c M) : ∃ a k, vo = .slice a i k := ownsRow_slice h.o
/-- A row is appended. -/
theorem MI.add (h : MI w B vo vals i c M) (ho : w'.ownsRow B 29 1 v' (i + 1) (vals ++ [y])) (hg : w.grownBy w' vo.ownBlock) (hm : Moved w vo v') (hy : OI w B y (irow c (M i))) (hay : ∀ q, y.ownBlock = some q → ¬ hotI vo vals i q) : MI w' B v' (vals ++ [y]) (i + 1) c M := by
  have hl := h.ln
  have e1 : ∀ j, j < i → (vals ++ [y]).getD j undef = vals.getD j undef := fun j hj => by simp [List.getD, List.getElem?_append_left (show j < vals.length by omega)]
  have e2 : (vals ++ [y]).getD i undef = y := by rw [← hl]; simp [List.getD]
  have hG := Only.of_grown hg
  refine ⟨ho, by simp [hl], fun j hj => ?_, fun j hj => ?_, fun j k hj hk hne => ?_⟩
  · by_cases e : j = i
    · subst e; rw [e2]
      exact hy.only hG fun q e k => hay q e (.inl k)
    · rw [e1 j (by omega)]
      exact (h.e j (by omega)).only hG fun q e' k => h.ap j (by omega) q k e'
  · by_cases e : j = i
    · subst e; rw [e2]
      exact fun q k1 k2 => (hm q k1).elim (fun k => hay q k2 (.inl k)) fun k => by have := hy.lt' q k2; omega
    · rw [e1 j (by omega)]
      exact fun q k1 k2 => (hm q k1).elim (fun k => h.ap j (by omega) q k k2) fun k => by have := (h.e j (by omega)).lt' q k2; omega
  · by_cases e : j = i
    · subst e
      rw [e2, e1 k (by omega)]
      exact fun q k1 k2 => hay q k1 (.inr ⟨k, by omega, k2⟩)
    · by_cases e' : k = i
      · subst e'
        rw [e2, e1 j (by omega)]
        exact fun q k1 k2 => hay q k2 (.inr ⟨j, by omega, k1⟩)
      · rw [e1 j (by omega), e1 k (by omega)]
        exact h.inj j k (by omega) (by omega) hne
/-- Reading. -/
theorem MI.at' {gO n k : Nat} (h : MI w B (.slice (some ⟨gO, 0, none⟩) n k) vals i c M) {j x : Nat} (hj : j < i) (hx : x < c) :
    ∃ gJ kJ, vals.getD j undef = .slice (some ⟨gJ, 0, none⟩) c kJ ∧ w.cell? ⟨gO, j, none⟩ = some (.slice (some ⟨gJ, 0, none⟩) c kJ) ∧ w.cell? ⟨gJ, x, none⟩ = some (.int .i64 (M j x)) ∧ w.frozen? ⟨gJ, x, none⟩ = false := by
  have ho := h.o
  obtain ⟨a1, k1, he⟩ := ownsRow_slice ho
  injection he with e1 e2 e3
  subst e2
  obtain ⟨gJ, kJ, hv, -, -⟩ := (h.e j hj).row (by rw [irow_len]; omega)
  rw [irow_len] at hv
  refine ⟨gJ, kJ, hv, ?_, ?_, ?_⟩
  · rw [World.ownsRow.cellAt ho j (by omega), ← hv]
    have : j < vals.length := by rw [h.ln]; exact hj
    rw [getD_lt _ _ _ this]; simp [this]
  · have h2 := h.e j hj
    rw [hv] at h2
    have hl : x < (irow c (M j)).length := by rw [irow_len]; exact hx
    rw [OI.at' h2 (irow_len _ _).symm x hl, ← getD_lt _ 0 _ hl, irow_at _ _ _ hx]
  · have h2 := h.e j hj
    rw [hv] at h2
    unfold OI at h2
    rw [irow_len] at h2
    exact World.ownsRow.frozenAt h2 x
/-- Writing. -/
theorem MI.set {gJ kJ : Nat} (h : MI w B vo vals i c M) {j x : Nat} (hj : j < i) (hv : vals.getD j undef = .slice (some ⟨gJ, 0, none⟩) c kJ) (b : Int) : MI (w.setCell ⟨gJ, x, none⟩ (.int .i64 b)) B vo vals i c (upI M j x b) := by
  have hS : Only (fun q => q = gJ) w (w.setCell ⟨gJ, x, none⟩ (.int .i64 b)) := Only.set _ _ _ rfl
  have hown : (vals.getD j undef).ownBlock = some gJ := by rw [hv]; rfl
  refine ⟨ownsRow_only h.o hS fun q e k => h.ap j hj q e (by rw [k]; exact hown), h.ln, fun a ha => ?_, h.ap, h.inj⟩
  by_cases e : a = j
  · subst e
    rw [← irow_set]
    have h2 := h.e a ha
    rw [hv] at h2 ⊢
    exact OI.set h2 (irow_len _ _).symm x b
  · rw [irow_other _ _ _ _ _ _ e]
    exact (h.e a ha).only hS fun q e1 k => h.inj a j ha hj e q e1 (by rw [k]; exact hown)
end
theorem upI_at (M : Nat → Nat → Int) (i j a c : Nat) (b : Int) : upI M i j b a c = if a = i ∧ c = j then b else M a c := rfl

end Go.Proofs.Ytdkpdpcecjcmcaa

namespace Go.Proofs.Ytdkpdpcecjcmcaa

/-- The moves ahead of (i, x). -/
def Bef (i x a c : Nat) : Prop := a < i ∨ (a = i ∧ c < x)
theorem Bef.next {i x a c : Nat} : Bef i (x + 1) a c ↔ Bef i x a c ∨ (a = i ∧ c = x) := by unfold Bef; omega
theorem Bef.row {k i a c : Nat} (hc : c < k) : Bef i k a c ↔ Bef (i + 1) 0 a c := by unfold Bef; omega
theorem Bef.all {n a c : Nat} (ha : a < n) : Bef n 0 a c := .inl ha
theorem Bef.no {a c : Nat} : ¬ Bef 0 0 a c := by unfold Bef; omega
theorem Bef.self {i x : Nat} : ¬ Bef i x i x := by unfold Bef; omega
open Classical in
/-- Ahead of (i, x) the new one, else the old one. -/
noncomputable def parI (N P : Nat → Nat → Int) (i x a c : Nat) : Int := if Bef i x a c then N a c else P a c
section
variable {N P : Nat → Nat → Int} {i x k n : Nat}
theorem parI_put (N P : Nat → Nat → Int) (i x a c : Nat) : upI (parI N P i x) i x (N i x) a c = parI N P i (x + 1) a c := by
  rw [upI_at]
  unfold parI
  by_cases h : a = i ∧ c = x
  · obtain ⟨rfl, rfl⟩ := h
    rw [if_pos ⟨rfl, rfl⟩, if_pos (Bef.next.2 (.inr ⟨rfl, rfl⟩))]
  · rw [if_neg h]
    by_cases h2 : Bef i x a c
    · rw [if_pos h2, if_pos (Bef.next.2 (.inl h2))]
    · rw [if_neg h2, if_neg (fun e => (Bef.next.1 e).elim h2 h)]
theorem parI_keep (h : N i x = P i x) (a c : Nat) : parI N P i x a c = parI N P i (x + 1) a c := by
  unfold parI
  by_cases h2 : Bef i x a c
  · rw [if_pos h2, if_pos (Bef.next.2 (.inl h2))]
  · rw [if_neg h2]
    by_cases h3 : a = i ∧ c = x
    · obtain ⟨rfl, rfl⟩ := h3
      rw [if_pos (Bef.next.2 (.inr ⟨rfl, rfl⟩)), h]
    · rw [if_neg (fun e => (Bef.next.1 e).elim h2 h3)]
theorem parI_row (a c : Nat) (hc : c < k) : parI N P i k a c = parI N P (i + 1) 0 a c := by
  unfold parI
  by_cases h2 : Bef i k a c
  · rw [if_pos h2, if_pos ((Bef.row hc).1 h2)]
  · rw [if_neg h2, if_neg (fun e => h2 ((Bef.row hc).2 e))]
theorem parI_zero (a c : Nat) : P a c = parI N P 0 0 a c := by unfold parI; rw [if_neg Bef.no]
theorem parI_all (a c : Nat) (ha : a < n) : parI N P n 0 a c = N a c := by unfold parI; rw [if_pos (Bef.all ha)]
end
/-- The bound for all moves of the set. -/
def bndM (S : Nat → Nat → Bool) (b : Int) (P : Nat → Nat → Int) (i x : Nat) : Int := if S i x = true then b else P i x
/-- The least priority ahead of (i, x): -1 if there is no move. -/
def MinP (a : Au) (F : Nat → Nat → Bool) (k i x : Nat) (K : Int) : Prop :=
  (K = -1 ∧ ∀ i' x', Bef i x i' x' → x' < k → F i' x' = false) ∨ ((∃ i' x', Bef i x i' x' ∧ x' < k ∧ F i' x' = true ∧ prA a (i', x') = K) ∧ ∀ i' x', Bef i x i' x' → x' < k → F i' x' = true → K ≤ prA a (i', x'))
section
variable {a : Au} {F : Nat → Nat → Bool} {k i x n : Nat} {K : Int}
theorem MinP.start (a : Au) (F : Nat → Nat → Bool) (k : Nat) : MinP a F k 0 0 (-1) := .inl ⟨rfl, fun _ _ h => absurd h Bef.no⟩
theorem MinP.skip (h : MinP a F k i x K) (hF : F i x = false) : MinP a F k i (x + 1) K := by
  rcases h with ⟨h1, h2⟩ | ⟨⟨i', x', h1, h2⟩, h3⟩
  · refine .inl ⟨h1, fun i' x' hb hk => ?_⟩
    rcases Bef.next.1 hb with q | ⟨rfl, rfl⟩
    · exact h2 i' x' q hk
    · exact hF
  · refine .inr ⟨⟨i', x', Bef.next.2 (.inl h1), h2⟩, fun i' x' hb hk hf => ?_⟩
    rcases Bef.next.1 hb with q | ⟨rfl, rfl⟩
    · exact h3 i' x' q hk hf
    · rw [hF] at hf; cases hf
theorem MinP.keep (h : MinP a F k i x K) (hK : 0 ≤ K) (hle : K ≤ prA a (i, x)) : MinP a F k i (x + 1) K := by
  rcases h with ⟨h1, h2⟩ | ⟨⟨i', x', h1, h2⟩, h3⟩
  · omega
  · refine .inr ⟨⟨i', x', Bef.next.2 (.inl h1), h2⟩, fun i' x' hb hk hf => ?_⟩
    rcases Bef.next.1 hb with q | ⟨rfl, rfl⟩
    · exact h3 i' x' q hk hf
    · exact hle
theorem MinP.put (h : MinP a F k i x K) (hx : x < k) (hF : F i x = true) (hlt : K < 0 ∨ prA a (i, x) < K) (hp : ∀ i' x', Bef i x i' x' → x' < k → 0 ≤ prA a (i', x')) : MinP a F k i (x + 1) (prA a (i, x)) := by
  refine .inr ⟨⟨i, x, Bef.next.2 (.inr ⟨rfl, rfl⟩), hx, hF, rfl⟩, fun i' x' hb hk hf => ?_⟩
  rcases Bef.next.1 hb with q | ⟨rfl, rfl⟩
  · rcases h with ⟨h1, h2⟩ | ⟨⟨i2, x2, q1, q2, q3, q4⟩, h3⟩
    · rw [h2 i' x' q hk] at hf; cases hf
    · have h4 := h3 i' x' q hk hf
      have h5 := hp i2 x2 q1 q2
      omega
  · exact Int.le_refl _
theorem MinP.row (h : MinP a F k i k K) : MinP a F k (i + 1) 0 K := by
  rcases h with ⟨h1, h2⟩ | ⟨⟨i', x', h1, h2, h4⟩, h3⟩
  · exact .inl ⟨h1, fun i' x' hb hk => h2 i' x' ((Bef.row hk).2 hb) hk⟩
  · exact .inr ⟨⟨i', x', (Bef.row h2).1 h1, h2, h4⟩, fun i' x' hb hk hf => h3 i' x' ((Bef.row hk).2 hb) hk hf⟩
theorem MinP.done (h : MinP a F k a.next.length 0 K) (he : ∃ i x, i < a.next.length ∧ x < k ∧ F i x = true) : LeastM a k F K := by
  obtain ⟨i, x, hi, hx, hf⟩ := he
  rcases h with ⟨h1, h2⟩ | ⟨⟨i', x', h1, h2, h4⟩, h3⟩
  · rw [h2 i x (Bef.all hi) hx] at hf; cases hf
  · refine ⟨⟨i', x', ?_, h2, h4⟩, fun i x hi hx hf => h3 i x (Bef.all hi) hx hf⟩
    unfold Bef at h1; omega
end

end Go.Proofs.Ytdkpdpcecjcmcaa
