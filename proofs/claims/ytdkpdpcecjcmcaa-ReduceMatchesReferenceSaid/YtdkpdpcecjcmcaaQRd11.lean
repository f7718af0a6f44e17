/- What newFlow makes first: the flow and its rows. -/
import Derived.Test.YtdkpdpcecjcmcaaQRd9
namespace Go.Proofs.Ytdkpdpcecjcmcaa
open Go.RowKit

def isMk (i : Nat) : Bool := i == 2 || i == 4 || i == 6 || i == 8
def mkO (n i : Nat) : Obj := if i = 2 then .cells (madeCells #[.slice none 0 0] n) 29 else .cells (madeCells #[.int .i64 0] n) 3
def mkV (lt st : Int) (vN vP a b c d : Value) : Array Value := #[.int .i64 lt, .int .i64 st, vN, vP, a, b, c, d]
/-- What has been made. -/
structure JN (lt st : Int) (vN vP : Value) (n : Nat) (w1 : World) (S : Nat → Bool) (vs : Nat → Value) (W : World) : Prop where
  b : Below w1.heap.size w1 W
  p : (S 0 = true → vs 0 = .agg #[.int .i64 lt, .int .i64 st, vN, vP]) ∧ (∀ i, i = 1 ∨ i = 3 ∨ i = 5 ∨ i = 7 → S i = true → vs i = .int .i64 (n : Int))
  m : ∀ i, isMk i = true → S i = true → ∃ g, vs i = .slice (some ⟨g, 0, none⟩) n n ∧ w1.heap.size ≤ g ∧ W.heap[g]? = some (mkO n i)
  d : ∀ i j, isMk i = true → isMk j = true → i ≠ j → S i = true → S j = true → vs i ≠ vs j
  f : S 9 = true → vs 9 = .agg (mkV lt st vN vP (vs 2) (vs 4) (vs 6) (vs 8)) ∧ S 2 = true ∧ S 4 = true ∧ S 6 = true ∧ S 8 = true
  x : S 10 = true → S 9 = true ∧ ∃ g, vs 10 = .pointer (some ⟨g, 0, none⟩) ∧ w1.heap.size ≤ g ∧ W.heap[g]? = some (.cells (mkV lt st vN vP (vs 2) (vs 4) (vs 6) (vs 8)) 81 (0, 0)) ∧ ∀ i, isMk i = true → (vs i).ownBlock ≠ some g
  y : S 11 = true → vs 11 = vs 10
section
variable {lt st : Int} {vN vP : Value} {n : Nat} {w1 W : World} {S : Nat → Bool} {vs : Nat → Value}
theorem upd_ne (vs : Nat → Value) (i : Nat) (v : Value) {j : Nat} (h : j ≠ i) : upd vs i v j = vs j := if_neg h
theorem upd_same (vs : Nat → Value) (i : Nat) (v : Value) : upd vs i v i = v := if_pos rfl
theorem mk_lt {i : Nat} (h : isMk i = true) : i = 2 ∨ i = 4 ∨ i = 6 ∨ i = 8 := by simpa [isMk, or_assoc] using h
theorem JN.start (w1 : World) : JN lt st vN vP n w1 (fun _ => false) vs w1.drew :=
  ⟨Below.drew (Below.refl _ _), ⟨(fun h => nomatch h), (fun _ _ h => nomatch h)⟩, (fun _ _ h => nomatch h), (fun _ _ _ _ _ h => nomatch h), (fun h => nomatch h), (fun h => nomatch h), (fun h => nomatch h)⟩
theorem JN.plain (h : JN lt st vN vP n w1 S vs W) {i : Nat} {v : Value} (hi : i = 0 ∨ i = 1 ∨ i = 3 ∨ i = 5 ∨ i = 7) (h0 : i = 0 → v = .agg #[.int .i64 lt, .int .i64 st, vN, vP]) (h1 : i ≠ 0 → v = .int .i64 (n : Int)) : JN lt st vN vP n w1 (upS S i) (upd vs i v) W := by
  have hm : ∀ j, isMk j = true → j ≠ i := fun j hj e => by
    have := mk_lt hj
    omega
  have n2 : (2 : Nat) ≠ i := hm 2 rfl
  have n4 : (4 : Nat) ≠ i := hm 4 rfl
  have n6 : (6 : Nat) ≠ i := hm 6 rfl
  have n8 : (8 : Nat) ≠ i := hm 8 rfl
  refine ⟨h.b, ⟨fun e => ?_, fun j hj e => ?_⟩, fun j hj e => ?_, fun j k hj hk hjk e e' => ?_, fun e => ?_, fun e => ?_, fun e => ?_⟩
  · by_cases hi0 : i = 0
    · subst hi0; rw [upd_same]; exact h0 rfl
    · rw [upd_ne _ _ _ (Ne.symm hi0)]
      rw [upS_ne (Ne.symm hi0)] at e
      exact h.p.1 e
  · by_cases hij : j = i
    · subst hij; rw [upd_same]; exact h1 (by omega)
    · rw [upd_ne _ _ _ hij]
      rw [upS_ne hij] at e
      exact h.p.2 j hj e
  · rw [upd_ne _ _ _ (hm j hj)]
    rw [upS_ne (hm j hj)] at e
    exact h.m j hj e
  · rw [upd_ne _ _ _ (hm j hj), upd_ne _ _ _ (hm k hk)]
    rw [upS_ne (hm j hj)] at e
    rw [upS_ne (hm k hk)] at e'
    exact h.d j k hj hk hjk e e'
  · rw [upS_ne (by omega)] at e
    rw [upd_ne _ _ _ n2, upd_ne _ _ _ n4, upd_ne _ _ _ n6, upd_ne _ _ _ n8, upd_ne _ _ _ (show (9 : Nat) ≠ i by omega), upS_ne n2, upS_ne n4, upS_ne n6, upS_ne n8]
    exact h.f e
  · rw [upS_ne (by omega)] at e
    rw [upd_ne _ _ _ n2, upd_ne _ _ _ n4, upd_ne _ _ _ n6, upd_ne _ _ _ n8, upd_ne _ _ _ (show (10 : Nat) ≠ i by omega), upS_ne (show (9 : Nat) ≠ i by omega)]
    obtain ⟨k1, g, k2, k3, k4, k5⟩ := h.x e
    exact ⟨k1, g, k2, k3, k4, fun j hj => by rw [upd_ne _ _ _ (hm j hj)]; exact k5 j hj⟩
  · rw [upS_ne (by omega)] at e
    rw [upd_ne _ _ _ (show (11 : Nat) ≠ i by omega), upd_ne _ _ _ (show (10 : Nat) ≠ i by omega)]
    exact h.y e
theorem JN.make (h : JN lt st vN vP n w1 S vs W) {i : Nat} (hi : isMk i = true) (hS : S i = false) : JN lt st vN vP n w1 (upS S i) (upd vs i (.slice (some ⟨W.heap.size, 0, none⟩) n n)) (W.alloc (mkO n i)) := by
  have hb : Below W.heap.size W (W.alloc (mkO n i)) := bel_box _
  have hi4 := mk_lt hi
  have h9 : S 9 = false := by
    cases e : S 9
    · rfl
    · obtain ⟨-, a, b, c, d⟩ := h.f e
      rcases hi4 with rfl | rfl | rfl | rfl <;> simp_all
  have h10 : S 10 = false := by
    cases e : S 10
    · rfl
    · have := (h.x e).1
      rw [h9] at this; cases this
  have hold : ∀ j, isMk j = true → S j = true → vs j ≠ .slice (some ⟨W.heap.size, 0, none⟩) n n := fun j hj e k => by
    obtain ⟨g, k1, k2, k3⟩ := h.m j hj e
    rw [k1] at k
    have hg := (Array.getElem?_eq_some_iff.1 k3).1
    injection k with k
    injection k with k
    injection k with k
    omega
  refine ⟨h.b.trans (hb.mono h.b.size), ⟨fun e => ?_, fun j hj e => ?_⟩, fun j hj e => ?_, fun j k hj hk hjk e e' => ?_, fun e => ?_, fun e => ?_, fun e => ?_⟩
  · rw [upS_ne (by omega)] at e
    rw [upd_ne _ _ _ (by omega)]
    exact h.p.1 e
  · rw [upS_ne (by omega)] at e
    rw [upd_ne _ _ _ (by omega)]
    exact h.p.2 j hj e
  · by_cases hij : j = i
    · subst hij
      exact ⟨W.heap.size, upd_same _ _ _, h.b.size, heap_alloc_new _ _⟩
    · rw [upS_ne hij] at e
      rw [upd_ne _ _ _ hij]
      obtain ⟨g, k1, k2, k3⟩ := h.m j hj e
      exact ⟨g, k1, k2, (hb.block _ (Array.getElem?_eq_some_iff.1 k3).1).trans k3⟩
  · by_cases hij : j = i
    · subst hij
      rw [upS_ne (Ne.symm hjk)] at e'
      rw [upd_same, upd_ne _ _ _ (Ne.symm hjk)]
      exact Ne.symm (hold k hk e')
    · rw [upS_ne hij] at e
      rw [upd_ne _ _ _ hij]
      by_cases hik : k = i
      · subst hik
        rw [upd_same]
        exact hold j hj e
      · rw [upS_ne hik] at e'
        rw [upd_ne _ _ _ hik]
        exact h.d j k hj hk hjk e e'
  · rw [upS_ne (by omega), h9] at e; cases e
  · rw [upS_ne (by omega), h10] at e; cases e
  · rw [upS_ne (by omega)] at e
    rw [upd_ne _ _ _ (by omega), upd_ne _ _ _ (by omega)]
    exact h.y e
theorem JN.build (h : JN lt st vN vP n w1 S vs W) (h2 : S 2 = true) (h4 : S 4 = true) (h6 : S 6 = true) (h8 : S 8 = true) (h10 : S 10 = false) (h11 : S 11 = false) : JN lt st vN vP n w1 (upS S 9) (upd vs 9 (.agg (mkV lt st vN vP (vs 2) (vs 4) (vs 6) (vs 8)))) W := by
  refine ⟨h.b, ⟨h.p.1, fun j hj e => ?_⟩, fun j hj e => ?_, fun j k hj hk hjk e e' => ?_, fun e => ⟨rfl, h2, h4, h6, h8⟩, fun e => ?_, fun e => ?_⟩
  · rw [upS_ne (by omega)] at e
    rw [upd_ne _ _ _ (by omega)]
    exact h.p.2 j hj e
  · have := mk_lt hj
    rw [upS_ne (by omega)] at e
    rw [upd_ne _ _ _ (by omega)]
    exact h.m j hj e
  · have a := mk_lt hj
    have b := mk_lt hk
    rw [upS_ne (by omega)] at e e'
    rw [upd_ne _ _ _ (by omega), upd_ne _ _ _ (by omega)]
    exact h.d j k hj hk hjk e e'
  · rw [upS_ne (by decide), h10] at e; cases e
  · rw [upS_ne (by decide), h11] at e; cases e
theorem JN.box (h : JN lt st vN vP n w1 S vs W) (h9 : S 9 = true) (h11 : S 11 = false) : JN lt st vN vP n w1 (upS S 10) (upd vs 10 (.pointer (some ⟨W.heap.size, 0, none⟩))) (W.alloc (.cells (mkV lt st vN vP (vs 2) (vs 4) (vs 6) (vs 8)) 81)) := by
  have hb : Below W.heap.size W (W.alloc (.cells (mkV lt st vN vP (vs 2) (vs 4) (vs 6) (vs 8)) 81)) := bel_box _
  obtain ⟨k9, k2, k4, k6, k8⟩ := h.f h9
  refine ⟨h.b.trans (hb.mono h.b.size), ⟨h.p.1, fun j hj e => ?_⟩, fun j hj e => ?_, fun j k hj hk hjk e e' => ?_, fun e => ⟨k9, k2, k4, k6, k8⟩, fun e => ⟨h9, W.heap.size, rfl, h.b.size, heap_alloc_new _ _, fun j hj => ?_⟩, fun e => ?_⟩
  · rw [upS_ne (by omega)] at e
    rw [upd_ne _ _ _ (by omega)]
    exact h.p.2 j hj e
  · have := mk_lt hj
    rw [upS_ne (by omega)] at e
    rw [upd_ne _ _ _ (by omega)]
    obtain ⟨g, a, b, c⟩ := h.m j hj e
    exact ⟨g, a, b, (hb.block _ (Array.getElem?_eq_some_iff.1 c).1).trans c⟩
  · have a := mk_lt hj
    have b := mk_lt hk
    rw [upS_ne (by omega)] at e e'
    rw [upd_ne _ _ _ (by omega), upd_ne _ _ _ (by omega)]
    exact h.d j k hj hk hjk e e'
  · have hj4 := mk_lt hj
    rw [upd_ne _ _ _ (by omega)]
    have hSj : S j = true := by rcases hj4 with rfl | rfl | rfl | rfl <;> assumption
    obtain ⟨g, a, b, c⟩ := h.m j hj hSj
    rw [a]
    intro e
    have hg := (Array.getElem?_eq_some_iff.1 c).1
    have : g = W.heap.size := by simpa [Value.ownBlock] using e
    omega
  · rw [upS_ne (by decide), h11] at e; cases e
theorem JN.asg (h : JN lt st vN vP n w1 S vs W) : JN lt st vN vP n w1 (upS S 11) (upd vs 11 (vs 10)) W := by
  refine ⟨h.b, ⟨h.p.1, fun j hj e => ?_⟩, fun j hj e => ?_, fun j k hj hk hjk e e' => ?_, h.f, fun e => ?_, fun e => rfl⟩
  · rw [upS_ne (by omega)] at e
    rw [upd_ne _ _ _ (by omega)]
    exact h.p.2 j hj e
  · have := mk_lt hj
    rw [upS_ne (by omega)] at e
    rw [upd_ne _ _ _ (by omega)]
    exact h.m j hj e
  · have a := mk_lt hj
    have b := mk_lt hk
    rw [upS_ne (by omega)] at e e'
    rw [upd_ne _ _ _ (by omega), upd_ne _ _ _ (by omega)]
    exact h.d j k hj hk hjk e e'
  · rw [upS_ne (by decide)] at e
    obtain ⟨k1, g, k2, k3, k4, k5⟩ := h.x e
    exact ⟨k1, g, k2, k3, k4, fun j hj => by
      have := mk_lt hj
      rw [upd_ne _ _ _ (by omega)]
      exact k5 j hj⟩
end

/-- The flow behind the makes. -/
structure NF0 (w1 W : World) (lt st : Int) (vN vP : Value) (n fb sb pb ib lb : Nat) : Prop where
  b : Below w1.heap.size w1 W
  f : W.heap[fb]? = some (.cells (mkV lt st vN vP (.slice (some ⟨sb, 0, none⟩) n n) (.slice (some ⟨pb, 0, none⟩) n n) (.slice (some ⟨ib, 0, none⟩) n n) (.slice (some ⟨lb, 0, none⟩) n n)) 81 (0, 0))
  s : W.heap[sb]? = some (.cells (madeCells #[.slice none 0 0] n) 29 (0, 0))
  p : W.heap[pb]? = some (.cells (madeCells #[.int .i64 0] n) 3 (0, 0))
  i : W.heap[ib]? = some (.cells (madeCells #[.int .i64 0] n) 3 (0, 0))
  l : W.heap[lb]? = some (.cells (madeCells #[.int .i64 0] n) 3 (0, 0))
  g : w1.heap.size ≤ fb ∧ w1.heap.size ≤ sb ∧ w1.heap.size ≤ pb ∧ w1.heap.size ≤ ib ∧ w1.heap.size ≤ lb
  d : fb ≠ sb ∧ fb ≠ pb ∧ fb ≠ ib ∧ fb ≠ lb ∧ sb ≠ pb ∧ sb ≠ ib ∧ sb ≠ lb ∧ pb ≠ ib ∧ pb ≠ lb ∧ ib ≠ lb
theorem JN.fin {lt st : Int} {vN vP : Value} {n : Nat} {w1 W : World} {S : Nat → Bool} {vs : Nat → Value} (h : JN lt st vN vP n w1 S vs W) (hS : ∀ i, i < 12 → S i = true) : ∃ fb sb pb ib lb, vs 11 = .pointer (some ⟨fb, 0, none⟩) ∧ NF0 w1 W lt st vN vP n fb sb pb ib lb := by
  obtain ⟨sb, s1, s2, s3⟩ := h.m 2 rfl (hS 2 (by decide))
  obtain ⟨pb, p1, p2, p3⟩ := h.m 4 rfl (hS 4 (by decide))
  obtain ⟨ib, i1, i2, i3⟩ := h.m 6 rfl (hS 6 (by decide))
  obtain ⟨lb, l1, l2, l3⟩ := h.m 8 rfl (hS 8 (by decide))
  obtain ⟨-, fb, f1, f2, f3, f4⟩ := h.x (hS 10 (by decide))
  have d24 := h.d 2 4 rfl rfl (by decide) (hS 2 (by decide)) (hS 4 (by decide))
  have d26 := h.d 2 6 rfl rfl (by decide) (hS 2 (by decide)) (hS 6 (by decide))
  have d28 := h.d 2 8 rfl rfl (by decide) (hS 2 (by decide)) (hS 8 (by decide))
  have d46 := h.d 4 6 rfl rfl (by decide) (hS 4 (by decide)) (hS 6 (by decide))
  have d48 := h.d 4 8 rfl rfl (by decide) (hS 4 (by decide)) (hS 8 (by decide))
  have d68 := h.d 6 8 rfl rfl (by decide) (hS 6 (by decide)) (hS 8 (by decide))
  have g2 := f4 2 rfl
  have g4 := f4 4 rfl
  have g6 := f4 6 rfl
  have g8 := f4 8 rfl
  rw [s1] at d24 d26 d28 g2
  rw [p1] at d24 d46 d48 g4
  rw [i1] at d26 d46 d68 g6
  rw [l1] at d28 d48 d68 g8
  rw [s1, p1, i1, l1] at f3
  refine ⟨fb, sb, pb, ib, lb, by rw [h.y (hS 11 (by decide)), f1], h.b, f3, s3, p3, i3, l3, ⟨f2, s2, p2, i2, l2⟩, ?_⟩
  simp only [Value.ownBlock, ne_eq, Value.slice.injEq, Option.some.injEq, Addr.mk.injEq, and_true] at *
  exact ⟨fun e => g2 (by simp [e]), fun e => g4 (by simp [e]), fun e => g6 (by simp [e]), fun e => g8 (by simp [e]), d24, d26, d28, d46, d48, d68⟩

end Go.Proofs.Ytdkpdpcecjcmcaa
