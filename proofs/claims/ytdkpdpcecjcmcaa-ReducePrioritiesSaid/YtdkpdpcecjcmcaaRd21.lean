/- What Trim's closure does: it numbers states. -/
import Derived.Test.YtdkpdpcecjcmcaaRd20
import Derived.Test.YtdkpdpcecjcmcaaRdM
namespace Go.Proofs.Ytdkpdpcecjcmcaa
open Go.RowKit

/-- The numbers: the map mb in the box zm, the states in the box zs. -/
structure TS (W : World) (C zm zs mb : Nat) (vs : Value) (l : List Int) : Prop where
  m : W.heap[zm]? = some (.cells #[.map (some mb)] 42 (0, 0))
  s : W.heap[zs]? = some (.cells #[vs] 29 (0, 0))
  k : NumI W mb l
  o : OI W C vs l
  c : C ≤ W.heap.size ∧ zm < C ∧ zs < C ∧ mb < C
  ne : zm ≠ zs ∧ zm ≠ mb ∧ zs ≠ mb
def hotTS (zs mb : Nat) (vs : Value) (q : Nat) : Prop := q = mb ∨ q = zs ∨ vs.ownBlock = some q
section
variable {W W1 : World} {C zm zs mb : Nat} {vs : Value} {l : List Int}
theorem TS.only {S : Nat → Prop} (h : TS W C zm zs mb vs l) (ho : Only S W W1) (hS : ∀ q, S q → q ≠ zm ∧ q ≠ zs ∧ q ≠ mb ∧ vs.ownBlock ≠ some q) : TS W1 C zm zs mb vs l := by
  have h1 := h.c
  refine ⟨(ho.block zm (by omega) fun e => (hS _ e).1 rfl).trans h.m, (ho.block zs (by omega) fun e => (hS _ e).2.1 rfl).trans h.s, ?_, h.o.only ho fun q e k => (hS q k).2.2.2 e, ⟨Nat.le_trans h1.1 ho.size, h1.2⟩, h.ne⟩
  obtain ⟨D, ⟨es, c, k1, k2⟩, k3⟩ := h.k
  exact ⟨D, ⟨es, c, (ho.block mb (by omega) fun e => (hS _ e).2.2.1 rfl).trans k1, k2⟩, k3⟩
theorem TS.below (h : TS W C zm zs mb vs l) (hb : Below W.heap.size W W1) : TS W1 C zm zs mb vs l := h.only (S := fun _ => False) (Only.of_below hb) fun _ e => e.elim
end
def NumOut (W : World) (C zm zs mb : Nat) (vs : Value) (l : List Int) (y : Int) (e : Ending) (W' : World) : Prop :=
  e = .returned (.int .i64 ((addI l y).idxOf y : Int)) ∧ ∃ vs', TS W' C zm zs mb vs' (addI l y) ∧ Only (hotTS zs mb vs) W W' ∧ Moved W vs vs'

set_option maxRecDepth 100000 in
set_option maxHeartbeats 8000000 in
theorem trimNum_c (W : World) (C zm zs mb : Nat) (vs : Value) (l : List Int) (y : Int) (hT : TS W C zm zs mb vs l) (hy : I64 y) (hl : l.length ≤ 3000) :
    Calls Try.prog 33 #[.int .i64 y, .pointer (some ⟨zm, 0, none⟩), .pointer (some ⟨zs, 0, none⟩)] W (NumOut W C zm zs mb vs l y) := by
  have HT := Lib.hid hT
  obtain ⟨hg1, hg2⟩ := hT.k.get hy
  have c0 := cell_of_row _ _ 0 _ _ _ hT.m
  have c1 := cell_of_row _ _ 0 _ _ _ hT.s
  clear hT
  by_cases hm : y ∈ l
  · have hrun := hg1 hm
    have HF : Hid (addI l y = l) := by show _ = _; unfold addI; rw [if_pos hm]
    clear hg1 hg2 hm
    go_enter Try.func33, Try.ntmps33
    go_wp2
    go_ret
    exact ⟨by rw [HF.out]; rfl, vs, by rw [HF.out]; exact HT.out, Only.refl _ _, Moved.refl _ _⟩
  · obtain ⟨c, hrun⟩ := hg2 hm
    have HF : Hid (addI l y = l ++ [y]) := by show _ = _; unfold addI; rw [if_neg hm]
    have HIx : Hid (((addI l y).idxOf y : Int) = l.length) := by show _ = _; rw [HF.out, idxI_new hm]
    obtain ⟨a1, cs, hvs⟩ := HT.out.o.slice
    subst hvs
    obtain ⟨W2, hup, hK2, hG2⟩ := HT.out.k.upd hy hm hl
    have hc := HT.out.c
    have hO2 : OI W2 C (.slice a1 l.length cs) l := HT.out.o.only (Only.of_grown hG2) fun q e k => by
      have h1 := HT.out.o.ge q e
      have h2 : mb = q := Option.some.inj k
      omega
    have hs2 : W2.heap[zs]? = some (.cells #[.slice a1 l.length cs] 29 (0, 0)) := ((Only.of_grown hG2).block zs (by omega) fun e => HT.out.ne.2.2 (Option.some.inj e).symm).trans HT.out.s
    have hm2 : W2.heap[zm]? = some (.cells #[.map (some mb)] 42 (0, 0)) := ((Only.of_grown hG2).block zm (by omega) fun e => HT.out.ne.2.1 (Option.some.inj e).symm).trans HT.out.m
    have d1 := cell_of_row _ _ 0 _ _ _ hs2
    have hCW : C ≤ W2.heap.size := Nat.le_trans hc.1 hG2.size
    have HK2 := Lib.hid hK2
    have HG2 := Lib.hid hG2
    have HS2 := Lib.hid hs2
    have HM2 := Lib.hid hm2
    clear hg1 hg2 hm hK2 hG2 hs2 hm2
    go_enter Try.func33, Try.ntmps33
    go_wp2_with (at_builtin; refine app_int rfl _ _ y rfl C _ _ hO2 rfl _ (by simp) rfl (by omega) hCW ?_; intro v' w' hown' hg hmv; obtain ⟨ao', cap', hv'⟩ := hown'.slice; rw [List.length_append, List.length_singleton] at hv'; subst hv'; have HO' := Lib.hid hown'; have HG := Lib.hid hg; have HMV := Lib.hid hmv; have hr' := ((Only.of_grown hg).block zs (by have := HG2.out.size; omega) (fun e => by have h1 := hO2.ge zs e; omega)).trans HS2.out; have HR' := Lib.hid hr'; have k2 := cell_of_row _ _ 0 _ _ _ hr'; have f2 := frozen_of_row _ _ 0 _ _ hr'; clear hown' hg hmv hr')
    have HE := HIx.out
    clear d1 k2 f2 hup hrun c0 c1
    go_ret
    have hs0 := HG2.out.size
    have h1 : Only (fun q => q = zs ∨ (Value.slice a1 l.length cs).ownBlock = some q) W2 (w'.setCell ⟨zs, 0, none⟩ (.slice ao' (l.length + 1) cap')) := ((Only.of_grown HG.out).mono fun q _ e => .inr e).trans (Only.set _ _ _ (.inl rfl))
    refine ⟨by rw [HE]; rfl, .slice ao' (l.length + 1) cap', ⟨?_, ?_, ?_, ?_, ⟨Nat.le_trans hCW h1.size, hc.2⟩, HT.out.ne⟩, ?_, ?_⟩
    · refine (h1.block zm (by omega) fun e => ?_).trans HM2.out
      rcases e with e | e
      · exact HT.out.ne.1 e
      · have := hO2.ge zm e; omega
    · exact one_set HR'.out
    · rw [HF.out]
      refine HK2.out.blk (h1.block mb (by omega) fun e => ?_)
      rcases e with e | e
      · exact HT.out.ne.2.2 e.symm
      · have := hO2.ge mb e; omega
    · rw [HF.out]
      exact HO'.out.only (Only.set (S := fun q => q = zs) _ _ _ rfl) fun q e k => by have h3 := HO'.out.ge q e; omega
    · refine ((Only.of_grown HG2.out).mono fun q _ e => .inl (Option.some.inj e).symm).trans (h1.mono fun q _ e => ?_)
      exact e.elim (fun e => .inr (.inl e)) fun e => .inr (.inr e)
    · intro g e
      rcases HMV.out g e with k | k
      · exact .inl k
      · exact .inr (by omega)

end Go.Proofs.Ytdkpdpcecjcmcaa
