/- What the reference's Winner returns. -/
import Derived.Test.YtkbiopjinegckaaSt15
import Derived.Test.YtkbiopjinegckaaRegJ
import Derived.Maps.AppendAt
namespace Go.Proofs.Ytkbiopjinegckaa
open Go.RowKit

/-- 'append' of numbers in a region that draws its order; it tells where the new row lies. -/
theorem wp_app_intsM {o : Oper} {a : Act} {K : Act → World → Prop} {Q : Exit → Act → World → Prop} (w : World) (s x : Operand)
    (ho : o.op = .call { callee := .builtin .append, args := #[s, x], argTypes := #[22, 22] })
    (base : Nat) (v v2 : Value) (l l2 : List Int) (hs : a.eval s = v) (hown : OI w base v l) (hx : a.eval x = v2) (hsrc : IsInts w v2 l2)
    (hn : l.length + l2.length ≤ 17592186043904) (hbase : base ≤ w.heap.size)
    (h : ∀ v' w', OI w' base v' (l ++ l2) → w.grownBy w' v.ownBlock → Moved w v v' → K (a.put o.dst v') w') : Oper.wp Try.prog o a w K Q := by
  obtain ⟨i, hi, hz0, hz1, hz2⟩ := info_parts info_int
  obtain ⟨⟨ao, cap, b, off, rfl, g⟩, -⟩ := hsrc
  have e : (List.range l2.length).map (ivF l2) = l2.map (Value.int .i64) := by
    apply List.ext_getElem (by simp)
    intro j h1 h2
    have : j < l2.length := by simpa using h1
    simp [ivF, this]
  cases ao with
  | none =>
    have hm0 : l2.length = 0 := by rcases Nat.eq_zero_or_pos l2.length with h0 | h0; exact h0; have := g.ad h0; cases this
    have hl2 := List.eq_nil_of_length_eq_zero hm0
    subst hl2
    obtain rfl := g.nc rfl
    have hrun := run_append_owned_none (P := Try.prog) (w := w) base 22 o.type 3 i 1 Try.underlying22 hi v l.length _ hown
    unfold Oper.wp execOp
    simp only [ho, resolve, invoke, builtin, Sem.run_bind, Sem.run_pure, Result.andThen_ok, List.map_toArray, List.map_cons, List.map_nil, hs, hx]
    simp only [List.length_nil, hrun]
    exact h _ _ (by simpa using hown) (grown_refl _ _) (Moved.refl _ _)
  | some ad =>
    obtain ⟨v', w', hr, h2, h3, h4, h5⟩ := run_append_own_at (P := Try.prog) (w := w) base 22 o.type 3 i _ 1 8 Try.underlying22 hi hz0 hz1 hz2 rfl (by decide) v l.length _ hown ad l2.length cap ((List.range l2.length).map (ivF l2)) (by simp) (by
      intro j u hj
      have hjm : j < l2.length := by
        rcases Nat.lt_or_ge j l2.length with h | h
        · exact h
        · simp [Nat.not_lt.2 h] at hj
      have hadd := g.ad (by omega)
      simp only [Option.some.injEq] at hadd
      subst hadd
      have : ivF l2 j = u := by simpa [hjm] using hj
      subst this
      have h2 := g.el j hjm
      unfold Addr.add
      split
      · subst j; exact h2
      · exact h2) (by
      intro u hu
      obtain ⟨j, _, rfl⟩ := List.mem_map.1 hu
      rfl) (by simp only [maxLen]; omega) (by omega) hbase
    unfold Oper.wp execOp
    simp only [ho, resolve, invoke, builtin, Sem.run_bind, Sem.run_pure, Result.andThen_ok, List.map_toArray, List.map_cons, List.map_nil, hs, hx, hr]
    refine h _ _ ?_ h3 fun q hq => ?_
    · unfold OI
      rw [e] at h2
      simpa using h2
    · rcases h5 with k | k
      · left; rw [← k]; exact hq
      · right; rw [k] at hq; injection hq with hq; omega

theorem Cl.no {ops : Array Oper} {S : Nat → Bool} (h : Cl ops S) {i : Nat} (hi : S i = false) (j : Nat) (hw : waitsB ops i j = true) : S j = false := by
  cases hj : S j
  · rfl
  · have := h i j hw hj
    rw [hi] at this; cases this

/-- A row is not in block g. -/
def Off (v : Value) (g : Nat) : Prop := v.ownBlock ≠ some g
/-- A row to which two lists and one number are appended, in whatever order the number is laid out. -/
structure J3 (B : Nat) (st lp : List Int) (x0 : Int) (S : Nat → Bool) (vs : Nat → Value) (W : World) : Prop where
  r0 : S 0 = true → S 3 = false → OI W B (vs 0) []
  r3 : S 3 = true → S 6 = false → OI W B (vs 3) st
  r6 : S 6 = true → S 12 = false → OI W B (vs 6) (st ++ lp)
  r12 : S 12 = true → OI W B (vs 12) (st ++ lp ++ [x0])
  b11 : S 11 = true → S 12 = false → ∃ g, vs 11 = .slice (some ⟨g, 0, none⟩) 1 1 ∧ W.heap[g]? = some (.cells #[.int .i64 x0] 3 (0, 0)) ∧ (S 0 = true → S 3 = false → Off (vs 0) g) ∧ (S 3 = true → S 6 = false → Off (vs 3) g) ∧ (S 6 = true → Off (vs 6) g)
  r13 : S 13 = true → vs 13 = vs 12
def T3 (i : Nat) : Bool := i == 0 || i == 3 || i == 6 || i == 11 || i == 12 || i == 13
def R3 (pb ns cS nl cL bL oL : Nat) (aS : Option Addr) (x0 : Int) (ix : Nat) (u : Value) (_ : World) : Prop :=
  match ix with
  | 1 => u = .pointer (some ⟨pb, 0, none⟩)
  | 2 => u = .slice aS ns cS
  | 4 => u = .pointer (some ⟨pb, 1, none⟩)
  | 5 => u = .slice (some ⟨bL, oL, none⟩) nl cL
  | 7 => u = .pointer (some ⟨pb, 1, none⟩)
  | 8 => u = .slice (some ⟨bL, oL, none⟩) nl cL
  | 9 => u = .pointer (some ⟨bL, oL, none⟩)
  | 10 => u = .int .i64 x0
  | _ => True
section
variable {B : Nat} {st lp : List Int} {x0 : Int} {S S' : Nat → Bool} {vs vs' : Nat → Value} {W W' : World}
theorem Off.lt {v : Value} {l : List Int} (h : OI W B v l) {g : Nat} (hg : W.heap.size ≤ g) : Off v g := fun e => by have := h.lt' g e; omega
theorem J3.stay (h : J3 B st lp x0 S vs W) (he : ∀ j, T3 j = true → S j = S' j ∧ vs j = vs' j) (hb : Below W.heap.size W W') : J3 B st lp x0 S' vs' W' := by
  obtain ⟨s0, e0⟩ := he 0 rfl
  obtain ⟨s3, e3⟩ := he 3 rfl
  obtain ⟨s6, e6⟩ := he 6 rfl
  obtain ⟨s11, e11⟩ := he 11 rfl
  obtain ⟨s12, e12⟩ := he 12 rfl
  obtain ⟨s13, e13⟩ := he 13 rfl
  refine ⟨fun a b => ?_, fun a b => ?_, fun a b => ?_, fun a => ?_, fun a b => ?_, fun a => ?_⟩
  · rw [← e0]; exact (h.r0 (by rw [s0]; exact a) (by rw [s3]; exact b)).below hb
  · rw [← e3]; exact (h.r3 (by rw [s3]; exact a) (by rw [s6]; exact b)).below hb
  · rw [← e6]; exact (h.r6 (by rw [s6]; exact a) (by rw [s12]; exact b)).below hb
  · rw [← e12]; exact (h.r12 (by rw [s12]; exact a)).below hb
  · obtain ⟨g, g1, g2, g3, g4, g5⟩ := h.b11 (by rw [s11]; exact a) (by rw [s12]; exact b)
    exact ⟨g, by rw [← e11]; exact g1, (hb.block _ (Array.getElem?_eq_some_iff.1 g2).1).trans g2, fun p q => by rw [← e0]; exact g3 (by rw [s0]; exact p) (by rw [s3]; exact q), fun p q => by rw [← e3]; exact g4 (by rw [s3]; exact p) (by rw [s6]; exact q), fun p => by rw [← e6]; exact g5 (by rw [s6]; exact p)⟩
  · rw [← e13, ← e12]; exact h.r13 (by rw [s13]; exact a)
/-- The empty row is made. -/
theorem J3.start (h : J3 B st lp x0 S vs W) {v : Value} (hv : OI W' B v []) (hb : Below W.heap.size W W') (hn : ∀ g, v.ownBlock = some g → W.heap.size ≤ g) (h3 : S 3 = false) (h6 : S 6 = false) (h12 : S 12 = false) (h13 : S 13 = false) : J3 B st lp x0 (upS S 0) (upd vs 0 v) W' := by
  refine ⟨fun _ _ => hv, fun a => ?_, fun a => ?_, fun a => ?_, fun a b => ?_, fun a => ?_⟩
  · have : S 3 = true := a
    rw [h3] at this; cases this
  · have : S 6 = true := a
    rw [h6] at this; cases this
  · have : S 12 = true := a
    rw [h12] at this; cases this
  · obtain ⟨g, g1, g2, -, -, -⟩ := h.b11 a h12
    have hg := (Array.getElem?_eq_some_iff.1 g2).1
    exact ⟨g, g1, (hb.block _ hg).trans g2, fun _ _ e => by have := hn g e; omega, fun p _ => absurd (show S 3 = true from p) (by rw [h3]; simp), fun p => absurd (show S 6 = true from p) (by rw [h6]; simp)⟩
  · have : S 13 = true := a
    rw [h13] at this; cases this
/-- The number is laid out. -/
theorem J3.lay (h : J3 B st lp x0 S vs W) {g : Nat} (hg : W.heap.size = g) (hh : W'.heap[g]? = some (.cells #[.int .i64 x0] 3 (0, 0))) (hb : Below W.heap.size W W') (h12 : S 12 = false) (h13 : S 13 = false) : J3 B st lp x0 (upS S 11) (upd vs 11 (.slice (some ⟨g, 0, none⟩) 1 1)) W' := by
  subst hg
  refine ⟨fun a b => (h.r0 a b).below hb, fun a b => (h.r3 a b).below hb, fun a b => (h.r6 a b).below hb, fun a => ?_, fun a b => ⟨_, rfl, hh, fun p q => Off.lt (h.r0 p q) (Nat.le_refl _), fun p q => Off.lt (h.r3 p q) (Nat.le_refl _), fun p => Off.lt (h.r6 p b) (Nat.le_refl _)⟩, fun a => ?_⟩
  · have : S 12 = true := a
    rw [h12] at this; cases this
  · have : S 13 = true := a
    rw [h13] at this; cases this
theorem J3.app3 (h : J3 B st lp x0 S vs W) {v : Value} (s0 : S 0 = true) (hv : OI W' B v st) (hg : W.grownBy W' (vs 0).ownBlock) (hm : Moved W (vs 0) v) (h3 : S 3 = false) (h6 : S 6 = false) (h12 : S 12 = false) (h13 : S 13 = false) : J3 B st lp x0 (upS S 3) (upd vs 3 v) W' := by
  refine ⟨fun _ a => absurd (show (true : Bool) = false from a) (by simp), fun _ _ => hv, fun a => ?_, fun a => ?_, fun a b => ?_, fun a => ?_⟩
  · have : S 6 = true := a
    rw [h6] at this; cases this
  · have : S 12 = true := a
    rw [h12] at this; cases this
  · obtain ⟨g, g1, g2, g3, -, -⟩ := h.b11 a h12
    have hlt := (Array.getElem?_eq_some_iff.1 g2).1
    have hne := g3 s0 h3
    refine ⟨g, g1, (hg.block _ hlt (Ne.symm hne)).trans g2, fun _ p => absurd (show (true : Bool) = false from p) (by simp), fun _ _ e => ?_, fun p => ?_⟩
    · rcases hm g e with k | k
      · exact hne k
      · omega
    · have : S 6 = true := p
      rw [h6] at this; cases this
  · have : S 13 = true := a
    rw [h13] at this; cases this
theorem J3.app6 (h : J3 B st lp x0 S vs W) {v : Value} (s3 : S 3 = true) (hv : OI W' B v (st ++ lp)) (hg : W.grownBy W' (vs 3).ownBlock) (hm : Moved W (vs 3) v) (h6 : S 6 = false) (h12 : S 12 = false) (h13 : S 13 = false) : J3 B st lp x0 (upS S 6) (upd vs 6 v) W' := by
  refine ⟨fun a b => ?_, fun _ a => absurd (show (true : Bool) = false from a) (by simp), fun _ _ => hv, fun a => ?_, fun a b => ?_, fun a => ?_⟩
  · have : S 3 = false := b
    rw [s3] at this; cases this
  · have : S 12 = true := a
    rw [h12] at this; cases this
  · obtain ⟨g, g1, g2, -, g4, -⟩ := h.b11 a h12
    have hlt := (Array.getElem?_eq_some_iff.1 g2).1
    have hne := g4 s3 h6
    refine ⟨g, g1, (hg.block _ hlt (Ne.symm hne)).trans g2, fun _ p => ?_, fun _ p => absurd (show (true : Bool) = false from p) (by simp), fun _ e => ?_⟩
    · have : S 3 = false := p
      rw [s3] at this; cases this
    · rcases hm g e with k | k
      · exact hne k
      · omega
  · have : S 13 = true := a
    rw [h13] at this; cases this
theorem J3.app12 {v : Value} (s3 : S 3 = true) (s6 : S 6 = true) (hv : OI W' B v (st ++ lp ++ [x0])) (h13 : S 13 = false) : J3 B st lp x0 (upS S 12) (upd vs 12 v) W' := by
  refine ⟨fun a b => ?_, fun a b => ?_, fun _ a => absurd (show (true : Bool) = false from a) (by simp), fun _ => hv, fun _ a => absurd (show (true : Bool) = false from a) (by simp), fun a => ?_⟩
  · have : S 3 = false := b
    rw [s3] at this; cases this
  · have : S 6 = false := b
    rw [s6] at this; cases this
  · have : S 13 = true := a
    rw [h13] at this; cases this
theorem J3.fin (h : J3 B st lp x0 S vs W) : J3 B st lp x0 (upS S 13) (upd vs 13 (vs 12)) W :=
  ⟨h.r0, h.r3, h.r6, h.r12, h.b11, fun _ => rfl⟩
end

end Go.Proofs.Ytkbiopjinegckaa
