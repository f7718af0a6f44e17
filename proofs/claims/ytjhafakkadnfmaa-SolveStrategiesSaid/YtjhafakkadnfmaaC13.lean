/- The growth of an attractor: what one, every, add and take do. -/
import Derived.Test.YtjhafakkadnfmaaC11
import Derived.Laws.EntriesVeiled
namespace Go.Proofs.Ytjhafakkadnfmaa
open Go.RowKit

theorem add_c (w : World) (gi n cap v : Nat) (b : Bool) (hv : v < n) (hc : w.cell? ⟨gi, v, none⟩ = some (.bool b)) (hf : w.frozen? ⟨gi, v, none⟩ = false) :
    Calls Try.prog 55 #[.slice (some ⟨gi, 0, none⟩) n cap, .int .i64 v] w fun e w' => e = .returned (.tuple #[]) ∧ w' = w.setCell ⟨gi, v, none⟩ (.bool true) := by
  go_enter Try.func55, Try.ntmps55
  go_wp2
  go_end0
  exact ⟨rfl, rfl⟩

/-- An attractor that grows: its four lists, in blocks of their own. -/
structure Grow (w : World) (B n ga gi gm gl : Nat) (vq : Value) (inn : List Bool) (mv lf q : List Int) : Prop where
  box : w.heap[ga]? = some (.cells #[.slice (some ⟨gi, 0, none⟩) n n, .slice (some ⟨gm, 0, none⟩) n n, .slice (some ⟨gl, 0, none⟩) n n, vq] 68 (0, 0))
  i : OB w B (.slice (some ⟨gi, 0, none⟩) n n) inn
  m : OI w B (.slice (some ⟨gm, 0, none⟩) n n) mv
  l : OI w B (.slice (some ⟨gl, 0, none⟩) n n) lf
  q : OI w B vq q
  li : inn.length = n
  lm : mv.length = n
  ll : lf.length = n
  d : B ≤ ga ∧ gi ≠ ga ∧ gm ≠ ga ∧ gl ≠ ga ∧ gi ≠ gm ∧ gi ≠ gl ∧ gm ≠ gl
  dq : ∀ k, vq.ownBlock = some k → k ≠ ga ∧ k ≠ gi ∧ k ≠ gm ∧ k ≠ gl

/-- Only blocks with S have been written, of those that were there. -/
structure Only (S : Nat → Prop) (w w' : World) : Prop where
  os : w'.os = w.os
  tape : w'.tape = w.tape
  output : w'.output = w.output
  size : w.heap.size ≤ w'.heap.size
  block : ∀ k, k < w.heap.size → ¬ S k → w'.heap[k]? = w.heap[k]?

theorem Only.refl (S : Nat → Prop) (w : World) : Only S w w := ⟨rfl, rfl, rfl, Nat.le_refl _, fun _ _ _ => rfl⟩
theorem Only.trans {S : Nat → Prop} {a b c : World} (h : Only S a b) (k : Only S b c) : Only S a c :=
  ⟨k.os.trans h.os, k.tape.trans h.tape, k.output.trans h.output, Nat.le_trans h.size k.size, fun i hi hs => (k.block i (Nat.lt_of_lt_of_le hi h.size) hs).trans (h.block i hi hs)⟩
theorem Only.mono {S T : Nat → Prop} {a b : World} (h : Only S a b) (hs : ∀ k, k < a.heap.size → S k → T k) : Only T a b :=
  ⟨h.os, h.tape, h.output, h.size, fun i hi ht => h.block i hi (fun x => ht (hs i hi x))⟩
theorem Only.of_below {S : Nat → Prop} {a b : World} (h : Below a.heap.size a b) : Only S a b := ⟨h.os, h.tape, h.output, h.size, fun i hi _ => h.block i hi⟩
theorem Only.of_grown {a b : World} {r : Option Nat} (h : a.grownBy b r) : Only (fun k => r = some k) a b := ⟨h.os, h.tape, h.output, h.size, fun i hi hs => h.block i hi (fun e => hs e.symm)⟩
theorem Only.below {S : Nat → Prop} {a b : World} (h : Only S a b) (B : Nat) (hB : ∀ k, S k → B ≤ k) (hs : B ≤ a.heap.size) : Below B a b :=
  ⟨h.os, h.tape, h.output, h.size, fun k hk => h.block k (by omega) (fun x => by have := hB k x; omega)⟩
theorem Only.grown {S : Nat → Prop} {a b : World} (h : Only S a b) (g : Nat) (_hg : g < a.heap.size) (hs : ∀ k, S k → k = g) : a.grownBy b (some g) :=
  ⟨h.os, h.tape, h.output, h.size, fun k hk hr => h.block k hk (fun x => hr (by rw [hs k x]))⟩
theorem OB.only {S : Nat → Prop} {w w' : World} {base : Nat} {v : Value} {l : List Bool} (h : OB w base v l) (hg : Only S w w') (hne : ∀ k, v.ownBlock = some k → ¬ S k) : OB w' base v l := by
  refine ⟨h.1, ?_⟩
  rcases h.2 with hn | ⟨g, cap, cur, rfl, hb, hgg, rest⟩
  · exact .inl hn
  · exact .inr ⟨g, cap, cur, rfl, hb, by rw [hg.block g (Array.getElem?_eq_some_iff.1 hgg).1 (hne g rfl)]; exact hgg, rest⟩
theorem OI.only {S : Nat → Prop} {w w' : World} {base : Nat} {v : Value} {l : List Int} (h : OI w base v l) (hg : Only S w w') (hne : ∀ k, v.ownBlock = some k → ¬ S k) : OI w' base v l := by
  refine ⟨h.1, ?_⟩
  rcases h.2 with hn | ⟨g, cap, cur, rfl, hb, hgg, rest⟩
  · exact .inl hn
  · exact .inr ⟨g, cap, cur, rfl, hb, by rw [hg.block g (Array.getElem?_eq_some_iff.1 hgg).1 (hne g rfl)]; exact hgg, rest⟩

/-- The blocks that take writes to. -/
def GrowAt (ga gi gm gl : Nat) (vq : Value) (k : Nat) : Prop := k = ga ∨ k = gi ∨ k = gm ∨ k = gl ∨ vq.ownBlock = some k

theorem Grow.lt {w : World} {B n ga gi gm gl : Nat} {vq : Value} {inn : List Bool} {mv lf q : List Int} (h : Grow w B n ga gi gm gl vq inn mv lf q) :
    ga < w.heap.size ∧ (B ≤ gi ∧ gi < w.heap.size) ∧ (B ≤ gm ∧ gm < w.heap.size) ∧ (B ≤ gl ∧ gl < w.heap.size) :=
  ⟨(Array.getElem?_eq_some_iff.1 h.box).1, ⟨h.i.ge _ rfl, h.i.lt' _ rfl⟩, ⟨h.m.ge _ rfl, h.m.lt' _ rfl⟩, ⟨h.l.ge _ rfl, h.l.lt' _ rfl⟩⟩

theorem Grow.atB {w : World} {B n ga gi gm gl : Nat} {vq : Value} {inn : List Bool} {mv lf q : List Int} (h : Grow w B n ga gi gm gl vq inn mv lf q) {k : Nat} (hk : GrowAt ga gi gm gl vq k) : B ≤ k := by
  have hl := h.lt
  rcases hk with rfl | rfl | rfl | rfl | hk
  · exact h.d.1
  · exact hl.2.1.1
  · exact hl.2.2.1.1
  · exact hl.2.2.2.1
  · exact h.q.ge _ hk

/-- Behind a step that writes other blocks the growth is as it was. -/
theorem Grow.only {S : Nat → Prop} {w w' : World} {B n ga gi gm gl : Nat} {vq : Value} {inn : List Bool} {mv lf q : List Int} (h : Grow w B n ga gi gm gl vq inn mv lf q) (hg : Only S w w') (hS : ∀ k, S k → ¬ GrowAt ga gi gm gl vq k) :
    Grow w' B n ga gi gm gl vq inn mv lf q :=
  { h with
    box := by rw [hg.block ga h.lt.1 (fun x => hS ga x (.inl rfl))]; exact h.box
    i := h.i.only hg (fun k hk x => by cases hk; exact hS _ x (.inr (.inl rfl)))
    m := h.m.only hg (fun k hk x => by cases hk; exact hS _ x (.inr (.inr (.inl rfl))))
    l := h.l.only hg (fun k hk x => by cases hk; exact hS _ x (.inr (.inr (.inr (.inl rfl)))))
    q := h.q.only hg (fun k hk x => hS _ x (.inr (.inr (.inr (.inr hk))))) }

section
variable {w : World} {B n ga gi gm gl : Nat} {vq : Value} {inn : List Bool} {mv lf q : List Int}

theorem Grow.cell (h : Grow w B n ga gi gm gl vq inn mv lf q) (k : Nat) {v : Value} (hv : #[Value.slice (some ⟨gi, 0, none⟩) n n, .slice (some ⟨gm, 0, none⟩) n n, .slice (some ⟨gl, 0, none⟩) n n, vq][k]? = some v) : w.cell? ⟨ga, k, none⟩ = some v :=
  (cell_of_row _ _ k _ _ _ h.box).trans hv
theorem Grow.fz (h : Grow w B n ga gi gm gl vq inn mv lf q) (k : Nat) : w.frozen? ⟨ga, k, none⟩ = false := frozen_of_row w ga k _ _ h.box

theorem heap_set_ne (w : World) (g j k : Nat) (u : Value) (h : k ≠ g) : (w.setCell ⟨g, j, none⟩ u).heap[k]? = w.heap[k]? := heap_setCell_other w ⟨g, j, none⟩ k u h

theorem Grow.setI (h : Grow w B n ga gi gm gl vq inn mv lf q) (v : Nat) (b : Bool) : Grow (w.setCell ⟨gi, v, none⟩ (.bool b)) B n ga gi gm gl vq (inn.set v b) mv lf q := by
  have hD := h.d
  exact { h with
    box := by rw [heap_set_ne _ _ _ _ _ (by omega)]; exact h.box
    i := h.i.set h.li.symm v b
    m := h.m.grown (grown_set _ _ _ _) (.inr (by simp [Value.ownBlock]; omega))
    l := h.l.grown (grown_set _ _ _ _) (.inr (by simp [Value.ownBlock]; omega))
    q := h.q.grown (grown_set _ _ _ _) (Apart.ne (v' := .slice (some ⟨gi, 0, none⟩) n n) fun k h1 h2 => by cases h2; exact (h.dq _ h1).2.1 rfl)
    li := by simpa using h.li }
theorem Grow.setM (h : Grow w B n ga gi gm gl vq inn mv lf q) (v : Nat) (b : Int) : Grow (w.setCell ⟨gm, v, none⟩ (.int .i64 b)) B n ga gi gm gl vq inn (mv.set v b) lf q := by
  have hD := h.d
  exact { h with
    box := by rw [heap_set_ne _ _ _ _ _ (by omega)]; exact h.box
    m := h.m.set h.lm.symm v b
    i := h.i.grown (grown_set _ _ _ _) (.inr (by simp [Value.ownBlock]; omega))
    l := h.l.grown (grown_set _ _ _ _) (.inr (by simp [Value.ownBlock]; omega))
    q := h.q.grown (grown_set _ _ _ _) (Apart.ne (v' := .slice (some ⟨gm, 0, none⟩) n n) fun k h1 h2 => by cases h2; exact (h.dq _ h1).2.2.1 rfl)
    lm := by simpa using h.lm }
theorem Grow.setL (h : Grow w B n ga gi gm gl vq inn mv lf q) (v : Nat) (b : Int) : Grow (w.setCell ⟨gl, v, none⟩ (.int .i64 b)) B n ga gi gm gl vq inn mv (lf.set v b) q := by
  have hD := h.d
  exact { h with
    box := by rw [heap_set_ne _ _ _ _ _ (by omega)]; exact h.box
    l := h.l.set h.ll.symm v b
    i := h.i.grown (grown_set _ _ _ _) (.inr (by simp [Value.ownBlock]; omega))
    m := h.m.grown (grown_set _ _ _ _) (.inr (by simp [Value.ownBlock]; omega))
    q := h.q.grown (grown_set _ _ _ _) (Apart.ne (v' := .slice (some ⟨gl, 0, none⟩) n n) fun k h1 h2 => by cases h2; exact (h.dq _ h1).2.2.2 rfl)
    ll := by simpa using h.ll }

/-- The queue has grown, and is stored. -/
theorem Grow.setQ {w' : World} {vq' : Value} {q' : List Int} (h : Grow w B n ga gi gm gl vq inn mv lf q) (hq : OI w' B vq' q') (hg : w.grownBy w' vq.ownBlock) (hm : Moved w vq vq') :
    w'.heap[ga]? = some (.cells #[.slice (some ⟨gi, 0, none⟩) n n, .slice (some ⟨gm, 0, none⟩) n n, .slice (some ⟨gl, 0, none⟩) n n, vq] 68 (0, 0)) ∧
    Grow (w'.setCell ⟨ga, 3, none⟩ vq') B n ga gi gm gl vq' inn mv lf q' := by
  have hD := h.d
  have hL := h.lt
  have hdq : ∀ k, vq'.ownBlock = some k → k ≠ ga ∧ k ≠ gi ∧ k ≠ gm ∧ k ≠ gl := fun k hk => by
    rcases hm k hk with e | e
    · exact h.dq k e
    · omega
  have hbox : w'.heap[ga]? = some (.cells #[.slice (some ⟨gi, 0, none⟩) n n, .slice (some ⟨gm, 0, none⟩) n n, .slice (some ⟨gl, 0, none⟩) n n, vq] 68 (0, 0)) := by
    rw [hg.block ga hL.1 (fun e => (h.dq _ e.symm).1 rfl)]; exact h.box
  refine ⟨hbox, { h with
    box := heap_setCell_same w' ga 3 _ _ vq' hbox
    i := OB.grown (OB.grown h.i hg (Apart.ne fun k h1 h2 => by cases h1; exact (h.dq _ h2).2.1 rfl)) (grown_set _ _ _ _) (.inr (by simp [Value.ownBlock]; omega))
    m := OI.grown (OI.grown h.m hg (Apart.ne fun k h1 h2 => by cases h1; exact (h.dq _ h2).2.2.1 rfl)) (grown_set _ _ _ _) (.inr (by simp [Value.ownBlock]; omega))
    l := OI.grown (OI.grown h.l hg (Apart.ne fun k h1 h2 => by cases h1; exact (h.dq _ h2).2.2.2 rfl)) (grown_set _ _ _ _) (.inr (by simp [Value.ownBlock]; omega))
    q := hq.grown (grown_set _ _ _ _) (Apart.ne (v' := .slice (some ⟨ga, 0, none⟩) n n) fun k h1 h2 => by cases h2; exact (hdq _ h1).1 rfl)
    dq := hdq }⟩
end

/-- What take leaves. -/
def Took (w : World) (B n ga gi gm gl : Nat) (vq : Value) (inn : List Bool) (mv lf q : List Int) (v : Nat) (m : Int) (e : Ending) (w' : World) : Prop :=
  e = .returned (.tuple #[]) ∧ ∃ vq', Grow w' B n ga gi gm gl vq' (inn.set v true) (mv.set v m) lf (q ++ [(v : Int)]) ∧ Only (GrowAt ga gi gm gl vq) w w' ∧ Moved w vq vq'

theorem Only.set {w : World} {S : Nat → Prop} (g j : Nat) (u : Value) (h : S g) : Only S w (w.setCell ⟨g, j, none⟩ u) :=
  (Only.of_grown (grown_set w g j u)).mono (fun k _ hk => by cases hk; exact h)

set_option maxHeartbeats 1000000 in
theorem take_c (w : World) (B n ga gi gm gl : Nat) (vq : Value) (inn : List Bool) (mv lf q : List Int) (v : Nat) (m : Int) (h : Grow w B n ga gi gm gl vq inn mv lf q) (hv : v < n) (hq : q.length ≤ 3000) (hB : B ≤ w.heap.size) :
    Calls Try.prog 40 #[.pointer (some ⟨ga, 0, none⟩), .int .i64 v, .int .i64 m] w (Took w B n ga gi gm gl vq inn mv lf q v m) := by
  obtain ⟨aoq, capq, hvq⟩ := h.q.slice
  subst hvq
  have e0 : w.cell? ⟨ga, 0, none⟩ = some (.slice (some ⟨gi, 0, none⟩) n n) := h.cell 0 rfl
  have ci := h.i.at' h.li.symm v (by rw [h.li]; exact hv)
  have fi := h.i.fz h.li.symm v
  have G1 := h.setI v true
  have G2 := G1.setM v m
  have HQ := Lib.hid hq
  have HB := Lib.hid hB
  have e1 : (w.setCell ⟨gi, v, none⟩ (.bool true)).cell? ⟨ga, 1, none⟩ = some (.slice (some ⟨gm, 0, none⟩) n n) := G1.cell 1 rfl
  have cm := G1.m.at' G1.lm.symm v (by rw [G1.lm]; exact hv)
  have fm := G1.m.fz G1.lm.symm v
  have e3 : ((w.setCell ⟨gi, v, none⟩ (.bool true)).setCell ⟨gm, v, none⟩ (.int .i64 m)).cell? ⟨ga, 3, none⟩ = some (.slice aoq q.length capq) := G2.cell 3 rfl
  clear hq hB
  go_enter Try.func40, Try.ntmps40
  go_wp2_with (first | (go_at_call 55; refine (add_c _ gi n n v _ hv ci fi).mono ?_; rintro e w1 ⟨rfl, rfl⟩) | (at_builtin; refine app_int rfl _ _ (v : Int) rfl B _ _ G2.q rfl _ (by simp) rfl (by have := HQ.out; omega) (by simpa using HB.out) ?_; intro v' w' hown' hg hmv; obtain ⟨aoy, capy, hvy⟩ := hown'.slice; rw [show (q ++ [(v : Int)]).length = q.length + 1 from by simp] at hvy; subst hvy; have hb3 := (G2.setQ hown' hg hmv).1; have e4 : w'.cell? ⟨ga, 3, none⟩ = some (.slice aoq q.length capq) := cell_of_row _ _ 3 _ _ _ hb3; have f4 : w'.frozen? ⟨ga, 3, none⟩ = false := frozen_of_row _ _ 3 _ _ hb3; have HX : Hid (Grow (w'.setCell ⟨ga, 3, none⟩ (.slice aoy (q.length + 1) capy)) B n ga gi gm gl (.slice aoy (q.length + 1) capy) (inn.set v true) (mv.set v m) lf (q ++ [(v : Int)])) := (G2.setQ hown' hg hmv).2; clear hb3))
  go_end0
  refine ⟨rfl, _, HX.out, ?_, ?_⟩
  · refine (Only.set gi v _ (.inr (.inl rfl))).trans ((Only.set gm v _ (.inr (.inr (.inl rfl)))).trans (((Only.of_grown hg).mono ?_).trans (Only.set ga 3 _ (.inl rfl))))
    intro k _ hk
    exact .inr (.inr (.inr (.inr hk)))
  · intro k hk
    rcases hmv k hk with e | e
    · exact .inl e
    · simp at e; exact .inr e

end Go.Proofs.Ytjhafakkadnfmaa
