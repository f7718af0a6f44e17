/- A region that draws its order, of which each operation leaves a value that does not depend on the order, and a few write: one invariant on what is listed and the world. -/
import Derived.Test.YtdkpdpcecjcmcaaRdCb
namespace Go.Proofs.Ytdkpdpcecjcmcaa
open Go Go.RowKit

section
variable {P : Program} {ops : Array Oper} {Q : Exit → Act → World → Prop}
def PStep (P : Program) (Q : Exit → Act → World → Prop) (ops : Array Oper) (R : Nat → Value → Prop) (I : (Nat → Bool) → World → Prop) (A : (Nat → Value) → Act) (i : Nat) (o : Oper) : Prop :=
  ∀ (S : Nat → Bool) (vs : Nat → Value) (W : World) (K : Act → World → Prop), S i = false → (∀ j, waitsB ops j i = true → R j (vs j)) → (∀ j, waitsB ops j i = true → S j = true) → I S W →
    (∀ v W', R i v → I (upS S i) W' → K (A (upd vs i v)) W') →
    if Region.wanted o (yielded ops (A vs).tmps) = true then Oper.wp P o (A vs) W K Q else K ((A vs).put o.dst undef) W
theorem region_pure {id : Nat} {a : Act} {w : World} (hm : P.follows .mixedOrders = true) (R : Nat → Value → Prop) (I : (Nat → Bool) → World → Prop) (A : (Nat → Value) → Act) (vs : Nat → Value) (ha : a = A vs) (hb : backB .any ops = true)
    (h0 : I (fun _ => false) w.drew)
    (hstep : ∀ i o, ops[i]? = some o → PStep P Q ops R I A i o)
    (hfin : ∀ S vs W, (∀ i, i < ops.size → S i = true) → (∀ i, i < ops.size → R i (vs i)) → I S W → Q .normal (A vs) W) : (Code.region id ops true).wp P Q a w := by
  refine region_inv hm (fun S vs W => (∀ i, S i = true → R i (vs i)) ∧ I S W) A vs ha hb ⟨fun _ h => absurd h (by simp), h0⟩ (fun i o ho => ?_) fun S vs W hS hI => hfin S vs W hS (fun i hi => hI.1 i (hS i hi)) hI.2
  intro S vs W K hSi hd _ ⟨hR, hI⟩ hK
  refine hstep i o ho S vs W K hSi (fun j hj => hR j (hd j hj)) hd hI fun v W' hr hi => hK v W' ⟨fun j hj => ?_, hi⟩
  by_cases e : j = i
  · subst e; simpa [upd] using hr
  · have : S j = true := by simpa [upS, e] using hj
    simp only [upd, if_neg e]
    exact hR j this
theorem upS_ne {S : Nat → Bool} {i j : Nat} (h : j ≠ i) : upS S i j = S j := if_neg h
theorem upS_same {S : Nat → Bool} {i : Nat} : upS S i i = true := if_pos rfl
end

end Go.Proofs.Ytdkpdpcecjcmcaa
