/- A region that draws its order, of which each operation leaves a value that does not depend on the order, and a few write: one invariant on what is listed and the world. A map that numbers numbers. -/
import Derived.Test.YtdkpdpcecjcmcaaQRdCb
namespace Go.Proofs.Ytdkpdpcecjcmcaa
open Go Go.RowKit

section
variable {P : Program} {ops : Array Oper} {Q : Exit → Act → World → Prop}
def PStep (P : Program) (Q : Exit → Act → World → Prop) (ops : Array Oper) (R : Nat → Value → Prop) (I : (Nat → Bool) → World → Prop) (A : (Nat → Value) → Act) (i : Nat) (o : Oper) : Prop :=
  ∀ (S : Nat → Bool) (vs : Nat → Value) (W : World) (K : Act → World → Prop), S i = false → (∀ j, waitsB ops j i = true → R j (vs j)) → (∀ j, waitsB ops j i = true → S j = true) → I S W →
    (∀ v W', R i v → I (upS S i) W' → K (A (upd vs i v)) W') →
    if Region.wanted o (yielded ops (A vs).tmps) = true then Oper.wp P o (A vs) W K Q else K ((A vs).put o.dst undef) W
theorem region_pure {id : Nat} {a : Act} {w : World} (hm : P.follows .mixedOrders = true) (R : Nat → Value → Prop) (I : (Nat → Bool) → World → Prop) (A : (Nat → Value) → Act) (vs : Nat → Value) (ha : a = A vs) (hb : backB .any ops = true)
    (h0 : I (fun _ => false) w.drew)
    (hstep : ∀ i o, ops[i]? = some o → PStep P Q ops R I A i o)
    (hfin : ∀ S vs W, (∀ i, i < ops.size → S i = true) → (∀ i, i < ops.size → R i (vs i)) → I S W → Q .normal (A vs) W) : (Code.region id ops true).wp P Q a w := by
  refine region_inv hm (fun S vs W => (∀ i, S i = true → R i (vs i)) ∧ I S W) A vs ha hb ⟨fun _ h => absurd h (by simp), h0⟩ (fun i o ho => ?_) fun S vs W hS hI => hfin S vs W hS (fun i hi => hI.1 i (hS i hi)) hI.2
  intro S vs W K hSi hd _ ⟨hR, hI⟩ hK
  refine hstep i o ho S vs W K hSi (fun j hj => hR j (hd j hj)) hd hI fun v W' hr hi => hK v W' ⟨fun j hj => ?_, hi⟩
  by_cases e : j = i
  · subst e; simpa [upd] using hr
  · have : S j = true := by simpa [upS, e] using hj
    simp only [upd, if_neg e]
    exact hR j this
theorem upS_ne {S : Nat → Bool} {i j : Nat} (h : j ≠ i) : upS S i j = S j := if_neg h
theorem upS_same {S : Nat → Bool} {i : Nat} : upS S i i = true := if_pos rfl
end

end Go.Proofs.Ytdkpdpcecjcmcaa

namespace Go.Proofs.Ytdkpdpcecjcmcaa
open Go.RowKit Go.Maps Go.WideMaps

theorem zero_int (w : World) : (zeroValue 3).run Try.prog w = .ok (.int .i64 0) w := by kernel_rfl
theorem idxI_lt {l : List Int} {y : Int} (h : y ∈ l) : l.idxOf y < l.length := List.idxOf_lt_length_iff.2 h
set_option maxRecDepth 100000 in
theorem NumI.get {w : World} {b : Nat} {l : List Int} (h : NumI w b l) {y : Int} (hy : I64 y) :
    (y ∈ l → (Instr.lookup 42 (.map (some b)) (.int .i64 y) true).run Try.prog w = .ok (.tuple #[.int .i64 (l.idxOf y : Int), .bool true]) w) ∧
    (y ∉ l → ∃ c, (Instr.lookup 42 (.map (some b)) (.int .i64 y) true).run Try.prog w = .ok (.tuple #[.int .i64 c, .bool false]) w) := by
  obtain ⟨D, h1, h2, h3, h4⟩ := h
  obtain ⟨v, ps, hrun, hv⟩ := h1.look_ok intKeyed Try.underlying42 (zero_int w) (plainElem_int Try.underlying3 (q := .i64) (a := 0) rfl) (intKey hy)
  obtain ⟨c, rfl, hc, hwc⟩ := plainElem_int_inv Try.underlying3 hv
  rw [h3 y hy] at hrun
  simp only [Prod.mk.injEq] at hc
  refine ⟨fun hm => ?_, fun hm => ⟨c, by rw [hrun, decide_eq_false hm]⟩⟩
  have h5 := h4 y hy hm
  rw [hc.1] at h5
  simp only [DataW.lit.injEq, Lit.int.injEq, true_and] at h5
  rw [hrun, decide_eq_true hm, h5]
set_option maxRecDepth 100000 in
theorem NumI.upd {w : World} {b : Nat} {l : List Int} (h : NumI w b l) {y : Int} (hy : I64 y) (hn : y ∉ l) (hl : l.length ≤ 3000) :
    ∃ w', (Instr.mapUpdate 42 (.map (some b)) (.int .i64 y) (.int .i64 (l.length : Int))).run Try.prog w = .ok () w' ∧ NumI w' b (l ++ [y]) ∧ w.grownBy w' (some b) := by
  obtain ⟨D, h1, h2, h3, h4⟩ := h
  obtain ⟨w', hrun, r1, r2⟩ := h1.update intKeyed Try.underlying42 (by simp only [maxLen]; omega) (intKey hy) (plainElem_int Try.underlying3 (q := .i64) (a := (l.length : Int)) (lit_wf (by unfold I64; omega)))
  exact ⟨w', hrun, NumI.put h2 hy hn h3 h4 r1, r2⟩
theorem NumL.len {w : World} {b : Nat} {l : List Int} (h : NumL w b l) (ty : TypeId) : (Builtin.len_ #[42] ty #[.map (some b)]).run Try.prog w = .ok (.int .i64 (l.length : Int)) w := by
  obtain ⟨D, h1, -, -, h4⟩ := h
  rw [← h4]
  exact h1.len Try.underlying42 ty
set_option maxRecDepth 100000 in
theorem NumL.upd {w : World} {b : Nat} {l : List Int} (h : NumL w b l) {y : Int} (hy : I64 y) (hn : y ∉ l) (hl : l.length ≤ 3000) :
    ∃ w', (Instr.mapUpdate 42 (.map (some b)) (.int .i64 y) (.int .i64 (l.length : Int))).run Try.prog w = .ok () w' ∧ NumL w' b (l ++ [y]) ∧ w.grownBy w' (some b) := by
  obtain ⟨D, h1, h2, h3, h4⟩ := h
  obtain ⟨w', hrun, r1, r2⟩ := h1.update intKeyed Try.underlying42 (by simp only [maxLen]; omega) (intKey hy) (plainElem_int Try.underlying3 (q := .i64) (a := (l.length : Int)) (lit_wf (by unfold I64; omega)))
  refine ⟨w', hrun, ?_, r2⟩
  refine ⟨_, by rw [List.length_append, List.length_singleton]; exact r1, h2.put _ _, ⟨fun z hz => ?_, fun z hz hzl => ?_⟩, ?_⟩
  · by_cases e : z = y
    · subst e
      rw [has_put_same h2 (intIsKey hz)]; simp
    · rw [has_put_other (fun k => e (by injection k)), h3.1 z hz]
      simp [e]
  · by_cases e : z = y
    · subst e
      rw [idxI_new hn, atKey_put_same h2 (intIsKey hz)]
    · have hzl' : z ∈ l := by
        rcases List.mem_append.1 hzl with h | h
        · exact h
        · exact absurd (List.mem_singleton.1 h) e
      rw [atKey_put_other (fun k => e (by injection k)), h3.2 z hz hzl', idxI_pre hzl']
  · rw [Maps.size_put (h1.tidy intKeyed), h3.1 y hy, decide_eq_false hn, h4]; simp

end Go.Proofs.Ytdkpdpcecjcmcaa
