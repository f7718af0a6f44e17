/- What Zip computes: what its rounds keep. -/
import Derived.Test.YtgjpdnaeldpdeaaWd25
import Derived.Test.YtgjpdnaeldpdeaaWd30
import Derived.Test.YtgjpdnaeldpdeaaWd26
import Derived.Test.YtgjpdnaeldpdeaaWd33
import Derived.Test.YtgjpdnaeldpdeaaRegOrd
namespace Go.Proofs.Ytgjpdnaeldpdeaa
open Go.RowKit Go.Shelf

/-- From W to W' the blocks bs alone may have changed, and there may be new ones. -/
structure OnlyIn (bs : List Nat) (W W' : World) : Prop where
  os : W'.os = W.os
  tape : W'.tape = W.tape
  output : W'.output = W.output
  size : W.heap.size ≤ W'.heap.size
  block : ∀ k, k < W.heap.size → k ∉ bs → W'.heap[k]? = W.heap[k]?
theorem OnlyIn.refl (bs : List Nat) (W : World) : OnlyIn bs W W := ⟨rfl, rfl, rfl, Nat.le_refl _, fun _ _ _ => rfl⟩
theorem OnlyIn.trans {bs : List Nat} {A B C : World} (h : OnlyIn bs A B) (k : OnlyIn bs B C) : OnlyIn bs A C :=
  ⟨k.os.trans h.os, k.tape.trans h.tape, k.output.trans h.output, Nat.le_trans h.size k.size, fun i hi h1 => (k.block i (Nat.lt_of_lt_of_le hi h.size) h1).trans (h.block i hi h1)⟩
theorem OnlyIn.of_grown {bs : List Nat} {W W' : World} {g : Nat} (h : W.grownBy W' (some g)) (hg : g ∈ bs) : OnlyIn bs W W' := ⟨h.os, h.tape, h.output, h.size, fun k hk h1 => h.block k hk (by intro e; cases e; exact h1 hg)⟩
theorem OnlyIn.of_below {bs : List Nat} {W W' : World} (h : Below W.heap.size W W') : OnlyIn bs W W' := ⟨h.os, h.tape, h.output, h.size, fun k hk _ => h.block k hk⟩
theorem OnlyIn.set {bs : List Nat} (W : World) {b : Nat} (j : Nat) (u : Value) (hb : b ∈ bs) : OnlyIn bs W (W.setCell ⟨b, j, none⟩ u) := ⟨rfl, rfl, rfl, by simp, fun k _ h2 => heap_setCell_other W ⟨b, j, none⟩ k u (by intro e; cases e; exact h2 hb)⟩
theorem OnlyIn.below {bs : List Nat} {n₀ : Nat} {W W' : World} (h : OnlyIn bs W W') (hn : n₀ ≤ W.heap.size) (h1 : ∀ b ∈ bs, n₀ ≤ b) : Below n₀ W W' :=
  ⟨h.os, h.tape, h.output, h.size, fun k hk => h.block k (by omega) (fun hm => by have := h1 k hm; omega)⟩
theorem OnlyIn.keepsFrom {bs : List Nat} {B : Nat} {W W' : World} (h : OnlyIn bs W W') (h1 : ∀ b ∈ bs, ∃ o : Obj, W.heap[b]? = some o ∧ o.isCells = true) : KeepsFrom B W W' := by
  refine ⟨h.size, fun i o _ hi ho => (h.block i (Array.getElem?_eq_some_iff.1 hi).1 fun hm => ?_).trans hi⟩
  obtain ⟨o', h2, h3⟩ := h1 i hm
  rw [hi] at h2; cases h2; rw [ho] at h3; cases h3
theorem OnlyIn.kpL {bs : List Nat} {n₀ z : Nat} {W W' : World} (h : OnlyIn bs W W') (hn : n₀ ≤ W.heap.size) (h1 : ∀ b ∈ bs, n₀ ≤ b ∧ b < z) (hz : z + 2 ≤ W.heap.size) : KpL n₀ z W W' :=
  ⟨h.below hn (fun b hb => (h1 b hb).1), h.block z (by omega) (fun hm => by have := (h1 z hm).2; omega), h.block (z + 1) (by omega) (fun hm => by have := (h1 _ hm).2; omega)⟩
theorem OnlyIn.mono {bs bs' : List Nat} {W W' : World} (h : OnlyIn bs W W') (hs : ∀ b ∈ bs, b ∈ bs') : OnlyIn bs' W W' := ⟨h.os, h.tape, h.output, h.size, fun k hk h1 => h.block k hk (fun hm => h1 (hs k hm))⟩

/-- The blocks of Zip: the stem's length, the loop's length, the box of out, its row, the function's box, the reader's two. -/
structure ZBlk where
  sb : Nat
  lb : Nat
  ob : Nat
  g : Nat
  gb : Nat
  gp : Nat
  fb : Nat

/-- They are told apart. -/
structure ZOk (p : ZBlk) (h z : Nat) : Prop where
  s0 : h + 4 ≤ p.sb
  s1 : p.sb < p.lb
  s2 : p.lb < p.g
  s3 : p.g < p.ob
  s4 : p.ob < p.gb
  s5 : p.gb < p.gp
  s6 : p.gp < p.fb
  s7 : p.fb < z

/-- What the rounds of Zip keep. -/
structure ZI (p : ZBlk) (w : World) (vt : Value) (a2 a3 : Option Addr) (c2 c3 S n : Nat) (b : Ls) (l : List Int) (k kr : Nat) (W : World) : Prop where
  tb : W.heap[w.heap.size + 2]? = some (.cells #[vt] 25 (0, 0))
  rs : W.heap[w.heap.size + 3]? = some (.cells #[.slice none 0 0, .slice none 0 0] 24 (0, 0))
  sx : W.heap[p.sb]? = some (.cells #[.int .i64 (S : Nat)] 3 (0, 0))
  lx : W.heap[p.lb]? = some (.cells #[.int .i64 (n : Nat)] 3 (0, 0))
  ox : W.heap[p.ob]? = some (.cells #[.slice (some ⟨p.g, 0, none⟩) k (S + n)] 22 (0, 0))
  row : OI W w.heap.size (.slice (some ⟨p.g, 0, none⟩) k (S + n)) l
  len : l.length = k
  fx : W.heap[p.fb]? = some (.cells #[.func (.func 53) #[] #[.pointer (some ⟨p.gb, 0, none⟩), .pointer (some ⟨p.gp, 0, none⟩)]] 52 (0, 0))
  rd : RdX w W p.gb p.gp a2 a3 c2 c3 b (posL b kr : Nat)

variable {p : ZBlk} {w W W' : World} {vt : Value} {a2 a3 : Option Addr} {c2 c3 S n k kr z : Nat} {b : Ls} {l : List Int}

theorem ZI.bl (h : ZI p w vt a2 a3 c2 c3 S n b l k kr W) : Below w.heap.size w W := h.rd.bl

theorem ZI.keep (h : ZI p w vt a2 a3 c2 c3 S n b l k kr W) (hb : Below w.heap.size W W') (hk : ∀ i ∈ [w.heap.size + 2, w.heap.size + 3, p.sb, p.lb, p.ob, p.g, p.fb, p.gb, p.gp], W'.heap[i]? = W.heap[i]?) : ZI p w vt a2 a3 c2 c3 S n b l k kr W' := by
  simp only [List.mem_cons, List.not_mem_nil, or_false, forall_eq_or_imp, forall_eq] at hk
  obtain ⟨k1, k2, k3, k4, k5, k6, k7, k8, k9⟩ := hk
  refine ⟨k1.trans h.tb, k2.trans h.rs, k3.trans h.sx, k4.trans h.lx, k5.trans h.ox, ⟨h.row.1, ?_⟩, h.len, k7.trans h.fx, h.rd.keep hb k8 k9⟩
  rcases h.row.2 with h0 | ⟨g, cap, cur, hv, hbg, hg, r⟩
  · exact .inl h0
  · refine .inr ⟨g, cap, cur, hv, hbg, ?_, r⟩
    have : p.g = g := by simp only [Value.slice.injEq, Option.some.injEq, Addr.mk.injEq, and_true] at hv; exact hv.1
    subst this
    exact k6.trans hg

theorem ZI.lts (h : ZI p w vt a2 a3 c2 c3 S n b l k kr W) : ∀ i ∈ [w.heap.size + 2, w.heap.size + 3, p.sb, p.lb, p.ob, p.g, p.fb, p.gb, p.gp], ∃ o : Obj, W.heap[i]? = some o ∧ o.isCells = true := by
  obtain ⟨cs, hg⟩ := h.row.blk
  simp only [List.mem_cons, List.not_mem_nil, or_false, forall_eq_or_imp, forall_eq]
  exact ⟨⟨_, h.tb, rfl⟩, ⟨_, h.rs, rfl⟩, ⟨_, h.sx, rfl⟩, ⟨_, h.lx, rfl⟩, ⟨_, h.ox, rfl⟩, ⟨_, hg, rfl⟩, ⟨_, h.fx, rfl⟩, ⟨_, h.rd.box, rfl⟩, ⟨_, h.rd.ptr, rfl⟩⟩

theorem ZI.grown (h : ZI p w vt a2 a3 c2 c3 S n b l k kr W) {row : Option Nat} (hg : W.grownBy W' row) (h0 : ∀ r, row = some r → w.heap.size ≤ r ∧ r ∉ [w.heap.size + 2, w.heap.size + 3, p.sb, p.lb, p.ob, p.g, p.fb, p.gb, p.gp]) : ZI p w vt a2 a3 c2 c3 S n b l k kr W' := by
  refine h.keep ((Below.refl _ W).grown hg h.bl.size (fun r e => (h0 r e).1)) fun i hi => ?_
  obtain ⟨o, ho, _⟩ := h.lts i hi
  exact hg.block i (Array.getElem?_eq_some_iff.1 ho).1 (fun e => (h0 i e.symm).2 hi)

theorem ZI.own {B : Nat} (hB : w.heap.size ≤ B) : ∀ k kr l, ∀ W W' row, ZI p w vt a2 a3 c2 c3 S n b l k kr W → W.grownBy W' row → (∀ r, row = some r → B ≤ r ∧ ∃ o : Obj, W.heap[r]? = some o ∧ o.isCells = false) → ZI p w vt a2 a3 c2 c3 S n b l k kr W' := by
  intro k kr l W W' row h hg hr
  refine h.grown hg fun r e => ?_
  obtain ⟨h1, o, ho, hc⟩ := hr r e
  refine ⟨by omega, fun hm => ?_⟩
  obtain ⟨o', h2, h3⟩ := h.lts r hm
  rw [ho] at h2; cases h2; rw [hc] at h3; cases h3

/-- The private block of the iterator is none of them. -/
theorem ZI.priv (h : ZI p w vt a2 a3 c2 c3 S n b l k kr W) (ho : ZOk p w.heap.size z) {r : Nat} (hr : z ≤ r) (hg : W.grownBy W' (some r)) : ZI p w vt a2 a3 c2 c3 S n b l k kr W' := by
  have := ho.s0; have := ho.s1; have := ho.s2; have := ho.s3; have := ho.s4; have := ho.s5; have := ho.s6; have := ho.s7
  refine h.grown hg fun r' e => ?_
  cases e
  refine ⟨by omega, ?_⟩
  simp only [List.mem_cons, List.not_mem_nil, or_false]
  omega

/-- What the rounds keep, with what is known of the letters. -/
def ZRel (p : ZBlk) (w : World) (vt : Value) (a2 a3 : Option Addr) (c2 c3 S n : Nat) (a b : Ls) (t : List (List Int)) (k : Nat) (W : World) : Prop :=
  ZI p w vt a2 a3 c2 c3 S n b (zipT a b t k) k k W ∧ ∀ i, i < k → zipIn a b t i = true
/-- How the rounds are left. -/
def ZOut (p : ZBlk) (w : World) (vt : Value) (a2 a3 : Option Addr) (c2 c3 S n : Nat) (a b : Ls) (t : List (List Int)) (c : Code) (W : World) : Prop :=
  (c = .exit 2 ∧ ZRel p w vt a2 a3 c2 c3 S n a b t (S + n) W) ∨
  (c = .ret ∧ Below w.heap.size w W ∧ W.heap[w.heap.size + 3]? = some (.cells #[.slice none 0 0, .slice none 0 0] 24 (0, 0)) ∧ ∃ i, i < S + n ∧ zipIn a b t i = false)

theorem ZRel.own {B : Nat} {a : Ls} {t : List (List Int)} (hB : w.heap.size ≤ B) : OwnFrom B (fun k W => ZRel p w vt a2 a3 c2 c3 S n a b t k W) := fun k W W' row h hg hr => ⟨ZI.own hB k k _ W W' row h.1 hg hr, h.2⟩
theorem ZOut.own {B : Nat} {a : Ls} {t : List (List Int)} {c : Code} (hB : w.heap.size ≤ B) : OwnFrom B (fun (_ : Nat) W => ZOut p w vt a2 a3 c2 c3 S n a b t c W) := fun k W W' row h hg hr => by
  rcases h with ⟨e, h⟩ | ⟨e, h1, h2, h3⟩
  · exact .inl ⟨e, ZRel.own hB _ W W' row h hg hr⟩
  · refine .inr ⟨e, h1.grown hg h1.size (fun r e => by have := (hr r e).1; omega), ?_, h3⟩
    refine (hg.block _ (Array.getElem?_eq_some_iff.1 h2).1 (fun e => ?_)).trans h2
    obtain ⟨_, o, ho, hc⟩ := hr _ e.symm
    rw [h2] at ho; cases ho; cases hc

/-- Behind the append of a round. -/
def ZPushed (p : ZBlk) (w : World) (vt : Value) (a2 a3 : Option Addr) (c2 c3 S n : Nat) (b : Ls) (l : List Int) (k : Nat) (W2 W : World) : Prop :=
  ZI p w vt a2 a3 c2 c3 S n b l k k W ∧ OnlyIn [p.g, p.ob] W2 W

/-- What a round leaves. -/
theorem round_only {h W2 : World} {bs : List Nat} (h1 : OnlyIn [p.gp] W W2) (h2 : OnlyIn [p.g, p.ob] W2.drew h) (hs : bs = [p.gp, p.g, p.ob]) : OnlyIn bs W h := by
  subst hs
  exact (h1.mono (by simp)).trans ((OnlyIn.of_below (Below.drew (Below.refl _ _))).trans (h2.mono (by simp)))

/-- The reader has gone on. -/
theorem ZI.next (h : ZI p w vt a2 a3 c2 c3 S n b l k k W) (ho : ZOk p w.heap.size z) {i : Nat} (hg : W.grownBy W' (some p.gp)) (hx : RdX w W' p.gb p.gp a2 a3 c2 c3 b (posL b i : Nat)) : ZI p w vt a2 a3 c2 c3 S n b l k i W' := by
  have := ho.s0; have := ho.s1; have := ho.s2; have := ho.s3; have := ho.s4; have := ho.s5; have := ho.s6; have := ho.s7
  have up : ∀ {j : Nat} {o : Obj}, W.heap[j]? = some o → j ≠ p.gp → W'.heap[j]? = some o := fun hj hne => (hg.block _ (Array.getElem?_eq_some_iff.1 hj).1 (by intro e; cases e; exact hne rfl)).trans hj
  exact ⟨up h.tb (by omega), up h.rs (by omega), up h.sx (by omega), up h.lx (by omega), up h.ox (by omega), h.row.grown hg (.inr (by simp [Value.ownBlock]; omega)), h.len, up h.fx (by omega), hx⟩

/-- A letter is appended, the new slice stored. -/
theorem ZI.push {x : Value} (h : ZI p w vt a2 a3 c2 c3 S n b l k kr W) (ho : ZOk p w.heap.size z) (y : Int) (hO : OI W' w.heap.size (.slice (some ⟨p.g, 0, none⟩) (k + 1) (S + n)) (l ++ [y])) (hg : (W.alloc (.cells #[x] 3)).grownBy W' (some p.g)) :
    ZI p w vt a2 a3 c2 c3 S n b (l ++ [y]) (k + 1) kr (W'.setCell ⟨p.ob, 0, none⟩ (.slice (some ⟨p.g, 0, none⟩) (k + 1) (S + n))) ∧ OnlyIn [p.g, p.ob] W (W'.setCell ⟨p.ob, 0, none⟩ (.slice (some ⟨p.g, 0, none⟩) (k + 1) (S + n))) := by
  have := ho.s0; have := ho.s1; have := ho.s2; have := ho.s3; have := ho.s4; have := ho.s5; have := ho.s6; have := ho.s7
  have o1 : OnlyIn [p.g, p.ob] W (W'.setCell ⟨p.ob, 0, none⟩ (.slice (some ⟨p.g, 0, none⟩) (k + 1) (S + n))) :=
    ((OnlyIn.of_below (bel_box _)).trans (OnlyIn.of_grown hg (by simp))).trans (OnlyIn.set W' 0 _ (by simp))
  have hlt := (Array.getElem?_eq_some_iff.1 h.ox).1
  have ob' : W'.heap[p.ob]? = some (.cells #[.slice (some ⟨p.g, 0, none⟩) k (S + n)] 22 (0, 0)) :=
    (hg.block p.ob (by simp; omega) (by simp; omega)).trans ((heap_alloc_old W _ hlt).trans h.ox)
  have up : ∀ {j : Nat} {o : Obj}, W.heap[j]? = some o → j ≠ p.g → j ≠ p.ob → (W'.setCell ⟨p.ob, 0, none⟩ (.slice (some ⟨p.g, 0, none⟩) (k + 1) (S + n))).heap[j]? = some o := fun hj h1 h2 => (o1.block _ (Array.getElem?_eq_some_iff.1 hj).1 (by simp [h1, h2])).trans hj
  have hbz := h.bl.size
  refine ⟨⟨up h.tb (by omega) (by omega), up h.rs (by omega) (by omega), up h.sx (by omega) (by omega), up h.lx (by omega) (by omega), set_one ob', hO.grown (grown_set W' p.ob 0 _) (.inr (by simp [Value.ownBlock]; omega)), by simp [h.len], up h.fx (by omega) (by omega), ?_⟩, o1⟩
  exact h.rd.keep (o1.below hbz (by simp; omega)) ((up h.rd.box (by omega) (by omega)).trans h.rd.box.symm) ((up h.rd.ptr (by omega) (by omega)).trans h.rd.ptr.symm)

end Go.Proofs.Ytgjpdnaeldpdeaa
