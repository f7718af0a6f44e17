/- The walk of WordPush. -/
import Derived.Test.YtgjpdnaeldpdeaaWd45
import Derived.RegionTactic
namespace Go.Proofs.Ytgjpdnaeldpdeaa
open Go Go.RowKit

/-! A region that draws its order, where an operation may use up the value of another one and the last operation may write. -/

section
variable {P : Program} {ops : Array Oper} {Q : Exit → Act → World → Prop} {md : Region.Mode}

/-- What is known: the values of the listed operations that no listed operation has used up. u i: the operation that uses up the value of i. -/
def UsInv (R : Nat → Value → World → Prop) (u : Nat → Option Nat) (w : World) (listed : Array Bool) (vs : Nat → Value) (W : World) : Prop :=
  Below w.heap.size w W ∧ ∀ i, listed.getD i false = true → (∀ j, u i = some j → listed.getD j false = false) → R i (vs i) W

/-- L lists pairs (j, i): operation j waits, through others perhaps, for operation i. -/
def waitB (ops : Array Oper) (L : List (Nat × Nat)) : Bool := L.all fun p => match ops[p.1]? with | some o => o.after.toList.any fun e => Region.binds .any e && (e.on == p.2 || L.contains (e.on, p.2)) | none => false
theorem waitB_spec {L : List (Nat × Nat)} (h : waitB ops L = true) {j i : Nat} (hL : (j, i) ∈ L) : ∃ o, ops[j]? = some o ∧ ∃ e ∈ o.after, Region.binds .any e = true ∧ (e.on = i ∨ (e.on, i) ∈ L) := by
  have h1 := List.all_eq_true.1 h _ hL
  dsimp only at h1
  split at h1
  · rename_i o ho
    obtain ⟨e, he, h2⟩ := List.any_eq_true.1 h1
    simp only [Bool.and_eq_true, Bool.or_eq_true, beq_iff_eq, List.contains_iff_mem] at h2
    exact ⟨o, ho, e, by simpa using he, h2.1, h2.2⟩
  · cases h1
/-- What is listed holds what it waits for. -/
def Closed (ops : Array Oper) (listed : Array Bool) : Prop := ∀ j o, listed.getD j false = true → ops[j]? = some o → ∀ e ∈ o.after, Region.binds .any e = true → listed.getD e.on false = true
theorem Closed.wait {L : List (Nat × Nat)} {listed : Array Bool} (hb : backB .any ops = true) (h : waitB ops L = true) (hc : Closed ops listed) {i : Nat} : ∀ j, listed.getD j false = true → (j, i) ∈ L → listed.getD i false = true := by
  intro j
  induction j using Nat.strongRecOn with
  | _ j ih =>
    intro hj hL
    obtain ⟨o, ho, e, he, hbd, h2⟩ := waitB_spec h hL
    have h3 := hc j o hj ho e he hbd
    rcases h2 with rfl | h2
    · exact h3
    · exact ih e.on (backB_spec hb ho e he hbd) h3 h2

/-- One operation. -/
def UsStep (P : Program) (Q : Exit → Act → World → Prop) (ops : Array Oper) (R : Nat → Value → World → Prop) (u : Nat → Option Nat) (L : List (Nat × Nat)) (A : (Nat → Value) → Act) (w : World) (i : Nat) (o : Oper) : Prop :=
  ∀ (vs : Nat → Value) (W : World) (K : Act → World → Prop), Below w.heap.size w W → (∀ e ∈ o.after, Region.binds .any e = true → (u e.on = none ∨ u e.on = some i) → R e.on (vs e.on) W) →
    (∀ v W', Below w.heap.size w W' → R i v W' → (∀ j x, j ≠ i → u j ≠ some i → (∀ k, u j = some k → (i, k) ∉ L) → (j, i) ∉ L → R j x W → R j x W') → K (A (upd vs i v)) W') →
    if Region.wanted o (yielded ops (A vs).tmps) = true then Oper.wp P o (A vs) W K Q else K ((A vs).put o.dst undef) W

/-- The last operation, which may write. -/
def UsLast (P : Program) (Q : Exit → Act → World → Prop) (ops : Array Oper) (R : Nat → Value → World → Prop) (u : Nat → Option Nat) (A : (Nat → Value) → Act) (w : World) (m : Nat) (o : Oper) : Prop :=
  ∀ (vs : Nat → Value) (W : World) (K : Act → World → Prop), Below w.heap.size w W → (∀ i, i < m → u i = none → R i (vs i) W) → (∀ a' W', Q .normal a' W' → K a' W') →
    if Region.wanted o (yielded ops (A vs).tmps) = true then Oper.wp P o (A vs) W K Q else K ((A vs).put o.dst undef) W

theorem set_getD {l : Array Bool} {i j : Nat} (h : j ≠ i) : (l.setIfInBounds i true).getD j false = l.getD j false := by
  simp [Array.getD_eq_getD_getElem?, Ne.symm h]
theorem set_getD_self {l : Array Bool} {i : Nat} (h : i < l.size) : (l.setIfInBounds i true).getD i false = true := by
  simp [Array.getD, h]
theorem getD_not {l : Array Bool} {i : Nat} (h : l.getD i true = false) : l.getD i false = false := by
  rcases Nat.lt_or_ge i l.size with hi | hi
  · simp [Array.getD, hi] at h ⊢; exact h
  · simp [Array.getD, Nat.not_lt.2 hi]

theorem use_any (R : Nat → Value → World → Prop) (u : Nat → Option Nat) (L : List (Nat × Nat)) (A : (Nat → Value) → Act) {w : World} (m : Nat) (hb : backB .any ops = true) (hw : waitB ops L = true) (hl : lastB ops m = true)
    (hstep : ∀ i o, i < m → ops[i]? = some o → UsStep P Q ops R u L A w i o) (hlast : ∀ o, ops[m]? = some o → UsLast P Q ops R u A w m o) :
    ∀ (fuel : Nat) (listed : Array Bool) (vs : Nat → Value) (W : World), listed.size = ops.size → listed.toList.count false ≤ fuel → listed.getD m false = false → Closed ops listed → UsInv R u w listed vs W → wpAny P .any ops Q fuel listed (A vs) W
  | 0, listed, vs, W, hs, hc, hm, hcl, hinv => by
    simp only [lastB, Bool.and_eq_true, decide_eq_true_eq] at hl
    have h1 : listed.getD m true = false := by
      have : m < listed.size := by omega
      simp [Array.getD, this] at hm ⊢; exact hm
    obtain ⟨_, h2⟩ := getD_false h1
    have : 0 < listed.toList.count false := List.count_pos_iff.2 (List.mem_of_getElem? h2)
    omega
  | fuel + 1, listed, vs, W, hs, hc, hm, hcl, hinv => by
    have hl' := hl
    simp only [lastB, Bool.and_eq_true, decide_eq_true_eq] at hl'
    obtain ⟨hsz, hla⟩ := hl'
    refine ⟨fun hr => ?_, fun i hi => ?_⟩
    · have := all_listed hb hs hr m (by omega)
      rw [hm] at this; cases this
    · obtain ⟨hli, o, ho, hall⟩ := mem_ready.1 hi
      have hilt := (Array.getElem?_eq_some_iff.1 ho).1
      by_cases him : i = m
      · subst him
        rw [ho] at hla
        have hothers : ∀ j, j < i → listed.getD j false = true := fun j hj => by
          have := List.all_eq_true.1 hla j (List.mem_range.2 hj)
          obtain ⟨e, he, h2⟩ := List.any_eq_true.1 this
          simp only [Bool.and_eq_true, beq_iff_eq] at h2
          obtain ⟨h3, rfl⟩ := h2
          exact hall e (by simpa using he) h3
        refine wpOp_step ho fun K hK => ?_
        refine hlast o ho vs W K hinv.1 (fun j hj hu => hinv.2 j (hothers j hj) fun k hk => by rw [hu] at hk; cases hk) fun a' W' hQ => hK _ _ (wpAny_done (fun j hj => ?_) hQ fuel)
        by_cases hji : j = i
        · subst hji
          exact set_getD_self (by omega)
        · rw [set_getD hji]; exact hothers j (by omega)
      · refine wpOp_step ho fun K hK => ?_
        refine hstep i o (by omega) ho vs W K hinv.1 (fun e he hbd hu => hinv.2 _ (hall e he hbd) fun j hj => ?_) fun v W' hbl hr hkeep => hK _ _ ?_
        · rcases hu with hu | hu
          · rw [hu] at hj; cases hj
          · rw [hu] at hj; cases hj; exact getD_not hli
        refine use_any R u L A m hb hw hl hstep hlast fuel _ (upd vs i v) W' (by simpa using hs) (count_down hli hc) (by rw [set_getD (Ne.symm him)]; exact hm) (fun j o' hj ho' e he hbd => ?_) ⟨hbl, fun j hj hcons => ?_⟩
        · have h1 : listed.getD e.on false = true := by
            by_cases hji : j = i
            · subst hji; rw [ho] at ho'; cases ho'; exact hall e he hbd
            · rw [set_getD hji] at hj; exact hcl j o' hj ho' e he hbd
          by_cases hei : e.on = i
          · rw [hei]; exact set_getD_self (by omega)
          · rw [set_getD hei]; exact h1
        by_cases hji : j = i
        · subst hji
          simpa [upd] using hr
        · rw [set_getD hji] at hj
          simp only [upd, if_neg hji]
          have hne : u j ≠ some i := fun he => by
            have := hcons i he
            rw [set_getD_self (by omega)] at this; cases this
          refine hkeep j _ hji hne (fun k hk hL => ?_) (fun hL => ?_) (hinv.2 j hj fun k hk => ?_)
          · obtain ⟨o2, ho2, e, he, hbd, h2⟩ := waitB_spec hw hL
            rw [ho] at ho2; cases ho2
            have h3 := hall e he hbd
            have h4 : listed.getD k false = true := by
              rcases h2 with rfl | h2
              · exact h3
              · exact hcl.wait hb hw _ h3 h2
            have h5 := hcons k hk
            have hki : k ≠ i := fun hh => hne (hh ▸ hk)
            rw [set_getD hki, h4] at h5; cases h5
          · have h4 := hcl.wait hb hw j hj hL
            rw [getD_not hli] at h4; cases h4
          have h1 := hcons k hk
          by_cases hki : k = i
          · subst hki; exact absurd hk hne
          · rwa [set_getD hki] at h1

/-- The region whose last operation (number m) waits for all others and may write, and where u tells who uses up which value. -/
theorem region_use {id : Nat} {a : Act} {w : World} (hm : P.follows .mixedOrders = true) (R : Nat → Value → World → Prop) (u : Nat → Option Nat) (L : List (Nat × Nat)) (A : (Nat → Value) → Act) (vs : Nat → Value) (m : Nat) (ha : a = A vs) (hb : backB .any ops = true) (hw : waitB ops L = true) (hl : lastB ops m = true)
    (hstep : ∀ i o, i < m → ops[i]? = some o → UsStep P Q ops R u L A w.drew i o) (hlast : ∀ o, ops[m]? = some o → UsLast P Q ops R u A w.drew m o) : (Code.region id ops true).wp P Q a w := by
  subst ha
  have hnone : ∀ i, (Array.replicate ops.size false).getD i false = false := fun i => by
    rcases Nat.lt_or_ge i ops.size with h | h
    · simp [Array.getD, h]
    · simp [Array.getD, Nat.not_lt.2 h]
  refine wp_region_any hm (use_any R u L A m hb hw hl hstep hlast ops.size _ vs w.drew (by simp) (by simp) (hnone m) (fun j o hj => by rw [hnone j] at hj; cases hj) ⟨Below.refl _ _, fun i hi => ?_⟩)
  rw [hnone i] at hi; cases hi

/-- What is known of an operation that one waits for. -/
theorem dep_use {o : Oper} {R : Nat → Value → World → Prop} {u : Nat → Option Nat} {vs : Nat → Value} {W : World} {i : Nat} (hD : ∀ e ∈ o.after, Region.binds .any e = true → (u e.on = none ∨ u e.on = some i) → R e.on (vs e.on) W) (j : Nat) (h : (o.after.toList.any fun e => Region.binds .any e && e.on == j) = true) (hu : u j = none ∨ u j = some i) : R j (vs j) W := by
  obtain ⟨e, he, h2⟩ := List.any_eq_true.1 h
  simp only [Bool.and_eq_true, beq_iff_eq] at h2
  obtain ⟨h3, rfl⟩ := h2
  exact hD e (by simpa using he) h3 hu

/-- An operation that writes nothing that was there. -/
theorem use_plain {R : Nat → Value → World → Prop} {u : Nat → Option Nat} {L : List (Nat × Nat)} {w W : World} {i : Nat} {C : Value → World → Prop} (hR : ∀ i v W W', R i v W → Below W.heap.size W W' → R i v W') (hB : Below w.heap.size w W)
    (hK : ∀ v W', Below w.heap.size w W' → R i v W' → (∀ j x, j ≠ i → u j ≠ some i → (∀ k, u j = some k → (i, k) ∉ L) → (j, i) ∉ L → R j x W → R j x W') → C v W') : ∀ v W', Below W.heap.size W W' → R i v W' → C v W' :=
  fun v W' hb hr => hK v W' (hB.trans (hb.mono hB.size)) hr fun j x _ _ _ _ h => hR j x W W' h hb

end

/-- A list in view outlives the filling of an empty box. -/
theorem IsInts.fill {W W' : World} {v : Value} {l : List Int} {g : Nat} {t : TypeId} (h : IsInts W v l) (hg : W.heap[g]? = some (.cells #[.slice none 0 0, .slice none 0 0] t (0, 0))) (hs : ∀ b, b ≠ g → W'.heap[b]? = W.heap[b]?) : IsInts W' v l := by
  obtain ⟨⟨ao, cap, b, off, e, k⟩, r⟩ := h
  refine ⟨⟨ao, cap, b, off, e, ⟨k.lc, k.cm, k.nm, k.nc, k.ad, fun j hj => ?_⟩⟩, r⟩
  have h1 := k.el j hj
  by_cases hb : b = g
  · exfalso
    subst hb
    generalize off + j = x at h1
    have h3 := cell_of_row W b x _ _ _ hg
    rw [h3] at h1
    match x, h1 with
    | 0, h1 => simp [ivF] at h1
    | 1, h1 => simp [ivF] at h1
    | n + 2, h1 => simp at h1
  · unfold World.cell? at *
    simp only [hs b hb]
    exact h1
theorem LV.fill {W W' : World} {v : Value} {l : Ls} {g : Nat} {t : TypeId} (h : LV l v W) (hg : W.heap[g]? = some (.cells #[.slice none 0 0, .slice none 0 0] t (0, 0))) (hs : ∀ b, b ≠ g → W'.heap[b]? = W.heap[b]?) : LV l v W' := by
  obtain ⟨v0, v1, e, h0, h1⟩ := h.is
  exact LV.of ⟨v0, v1, e, h0.fill hg hs, h1.fill hg hs⟩
theorem OI.down {W : World} {base base' : Nat} {v : Value} {l : List Int} (h : OI W base v l) (hb : base' ≤ base) : OI W base' v l :=
  ⟨h.1, h.2.imp_right fun ⟨g0, cap, cur, e, h1, h2⟩ => ⟨g0, cap, cur, e, Nat.le_trans hb h1, h2⟩⟩

/-- What the operations of the statement with two appends leave. -/
def RPa (B : World) (aa ab : Option Addr) (ca cb : Nat) (a b : List Int) (l bl : Ls) (ix : Nat) (v : Value) (W : World) : Prop :=
  match ix with
  | 0 => OI W B.heap.size v []
  | 1 => v = .slice aa a.length ca
  | 2 => OI W B.heap.size v a
  | 3 => v = .slice ab b.length cb
  | 4 => OI W B.heap.size v (a ++ b)
  | 5 => ∀ W', Below B.heap.size B W' → LV l v W'
  | 6 => LV bl v W
  | 7 => ∃ g, v = .pointer (some ⟨g, 0, none⟩) ∧ B.heap.size ≤ g ∧ g < W.heap.size ∧ W.heap[g]? = some (.cells #[.slice none 0 0, .slice none 0 0] 24 (0, 0))
  | _ => True
theorem RPa.mono (B : World) (aa ab : Option Addr) (ca cb : Nat) (a b : List Int) (l bl : Ls) (ix : Nat) (v : Value) (W W' : World) (h : RPa B aa ab ca cb a b l bl ix v W) (hb : Below W.heap.size W W') : RPa B aa ab ca cb a b l bl ix v W' := by
  unfold RPa at *
  split at h
  · exact OI.below h hb
  · exact h
  · exact OI.below h hb
  · exact h
  · exact OI.below h hb
  · exact h
  · exact LV.below h hb
  · obtain ⟨g, h1, h2, h3, h4⟩ := h
    exact ⟨g, h1, h2, Nat.lt_of_lt_of_le h3 hb.size, (hb.block g h3).trans h4⟩
  · trivial
/-- Who uses up the rows. -/
def usesA (i : Nat) : Option Nat := match i with | 0 => some 2 | 2 => some 4 | _ => none

/-- A row of ints is in no box of a lasso. -/
theorem OI.unboxed {W : World} {base g : Nat} {v : Value} {l : List Int} (h : OI W base v l) (hg : W.heap[g]? = some (.cells #[.slice none 0 0, .slice none 0 0] 24 (0, 0))) : v.ownBlock ≠ some g := by
  intro e
  rcases h.2 with ⟨rfl, -⟩ | ⟨g0, cap, cur, rfl, h1, h2, -⟩
  · cases e
  · have : g0 = g := by simpa [Value.ownBlock] using e
    subst this
    rw [h2] at hg
    have h3 : (3 : TypeId) = 24 := by
      have := Option.some.inj hg
      injection this
    exact absurd h3 (by decide)
theorem RPa.app {B : World} {aa ab : Option Addr} {ca cb : Nat} {a b : List Int} {l bl : Ls} {W W' : World} {v : Value} {q : List Int} (hO : OI W B.heap.size v q) (hg : W.grownBy W' v.ownBlock)
    (k : Nat) (x : Value) (h0 : k ≠ 0) (h2 : k ≠ 2) (h4 : k ≠ 4) (h6 : k ≠ 6) (hx : RPa B aa ab ca cb a b l bl k x W) : RPa B aa ab ca cb a b l bl k x W' := by
  unfold RPa at hx ⊢
  split at hx
  · exact absurd rfl h0
  · exact hx
  · exact absurd rfl h2
  · exact hx
  · exact absurd rfl h4
  · exact hx
  · exact absurd rfl h6
  · obtain ⟨g, h1, h2, h3, h4⟩ := hx
    exact ⟨g, h1, h2, Nat.lt_of_lt_of_le h3 hg.size, (hg.block g h3 (OI.unboxed hO h4).symm).trans h4⟩
  · trivial

/-- What the operations of a drawn statement leave. -/
def RPb (a : List Int) (l xl : Ls) (bs : Nat) (aa x1 : Option Addr) (ca y1 : Nat) (ix : Nat) (v : Value) (W : World) : Prop :=
  match ix with
  | 0 => v = .pointer (some ⟨bs, 1, none⟩)
  | 1 => v = .slice x1 xl.loop.length y1
  | 2 => v = .int .i64 (xl.loop.length : Int)
  | 3 => v = .bool true
  | 4 => v = .bool true
  | 5 => LV (xl) v W
  | 6 => v = .slice aa a.length ca
  | 7 => v = .int .i64 (a.length : Int)
  | 8 => SL (a) v W
  | 9 => v = .slice aa a.length ca
  | 10 => v = .bool true
  | 11 => v = .bool false
  | 12 => v = .bool false
  | 13 => LV (xl) v W
  | 14 => v = .slice aa a.length ca
  | 15 => v = .int .i64 (a.length : Int)
  | 16 => LV (suffixI xl (a.length : Int)) v W
  | 17 => LV (l) v W
  | 18 => v = .bool true
  | 19 => v = .bool false
  | 20 => v = .bool false
  | 21 => v = .bool false
  | _ => True
theorem RPb.mono (a : List Int) (l xl : Ls) (bs : Nat) (aa x1 : Option Addr) (ca y1 : Nat) (ix : Nat) (v : Value) (W W' : World) (h : RPb a l xl bs aa x1 ca y1 ix v W) (hb : Below W.heap.size W W') : RPb a l xl bs aa x1 ca y1 ix v W' := by
  unfold RPb at *
  split at h <;> first | exact h | exact SL.below h hb | exact LV.below h hb | exact RV.below h hb

/-- What the operations of a drawn statement leave. -/
def RPc (a : List Int) (yl bl : Ls) (by2 g : Nat) (aa x3 x5 : Option Addr) (ca y3 y5 : Nat) (ix : Nat) (v : Value) (W : World) : Prop :=
  match ix with
  | 0 => v = .bool true
  | 1 => v = .bool true
  | 2 => v = .pointer (some ⟨by2, 1, none⟩)
  | 3 => v = .slice x3 yl.loop.length y3
  | 4 => v = .int .i64 (yl.loop.length : Int)
  | 5 => v = .bool false
  | 6 => v = .bool false
  | 7 => v = .slice aa a.length ca
  | 8 => LV (yl) v W
  | 9 => LV (bl) v W
  | 10 => LV (bl) v W
  | 11 => v = .bool true
  | 12 => v = .bool true
  | 13 => v = .bool true
  | 14 => v = .bool true
  | 15 => v = .pointer (some ⟨g, 1, none⟩)
  | 16 => v = .slice x5 bl.loop.length y5
  | 17 => v = .int .i64 (bl.loop.length : Int)
  | 18 => v = .bool true
  | 19 => v = .bool true
  | 20 => v = undef
  | 21 => v = undef
  | 22 => v = undef
  | 23 => v = undef
  | 24 => v = .bool true
  | 25 => v = .bool true
  | 26 => v = .bool true
  | _ => True
theorem RPc.mono (a : List Int) (yl bl : Ls) (by2 g : Nat) (aa x3 x5 : Option Addr) (ca y3 y5 : Nat) (ix : Nat) (v : Value) (W W' : World) (h : RPc a yl bl by2 g aa x3 x5 ca y3 y5 ix v W) (hb : Below W.heap.size W W') : RPc a yl bl by2 g aa x3 x5 ca y3 y5 ix v W' := by
  unfold RPc at *
  split at h <;> first | exact h | exact SL.below h hb | exact LV.below h hb | exact RV.below h hb

/-- What the operations of a drawn statement leave. -/
def RPd (a : List Int) (yl bl : Ls) (by2 g : Nat) (aa x3 x5 : Option Addr) (ca y3 y5 : Nat) (ix : Nat) (v : Value) (W : World) : Prop :=
  match ix with
  | 0 => v = .bool true
  | 1 => v = .bool true
  | 2 => v = .pointer (some ⟨by2, 1, none⟩)
  | 3 => v = .slice x3 yl.loop.length y3
  | 4 => v = .int .i64 (yl.loop.length : Int)
  | 5 => v = .bool false
  | 6 => v = .bool false
  | 7 => v = .slice aa a.length ca
  | 8 => LV (yl) v W
  | 9 => LV (bl) v W
  | 10 => LV (bl) v W
  | 11 => v = .bool true
  | 12 => v = .bool true
  | 13 => v = .bool true
  | 14 => v = .bool true
  | 15 => v = .pointer (some ⟨g, 1, none⟩)
  | 16 => v = .slice x5 bl.loop.length y5
  | 17 => v = .int .i64 (bl.loop.length : Int)
  | 18 => v = .bool false
  | 19 => v = .bool false
  | 20 => v = .pointer (some ⟨by2, 1, none⟩)
  | 21 => v = .slice x3 yl.loop.length y3
  | 22 => v = .int .i64 (yl.loop.length : Int)
  | 23 => v = .bool true
  | 24 => v = .bool true
  | 25 => v = .bool true
  | 26 => v = .bool true
  | _ => True
theorem RPd.mono (a : List Int) (yl bl : Ls) (by2 g : Nat) (aa x3 x5 : Option Addr) (ca y3 y5 : Nat) (ix : Nat) (v : Value) (W W' : World) (h : RPd a yl bl by2 g aa x3 x5 ca y3 y5 ix v W) (hb : Below W.heap.size W W') : RPd a yl bl by2 g aa x3 x5 ca y3 y5 ix v W' := by
  unfold RPd at *
  split at h <;> first | exact h | exact SL.below h hb | exact LV.below h hb | exact RV.below h hb

set_option maxRecDepth 100000 in
set_option maxHeartbeats 8000000 in
theorem Push_w (w : World) (va vb vl : Value) (a b : List Int) (l : Ls) (ha : IsInts w va a) (hb : IsInts w vb b) (hl : IsLs w vl l) :
    Calls Try.prog 8 #[va, vb, vl] w (Calm (.bool true) w) := by
  have hmx : Try.prog.follows .mixedOrders = true := by kernel_rfl
  obtain ⟨v0, v1, rfl, h0, h1⟩ := hl
  obtain ⟨b0, hB⟩ := boxOne (IsLs.mk h0 h1)
  have HL := Lib.hid b0
  obtain ⟨⟨a0, c0, -, -, rfl, -⟩, -⟩ := h0
  obtain ⟨⟨a1, c1, -, -, rfl, -⟩, -⟩ := h1
  have HRa := Lib.hid ha.2
  have HRb := Lib.hid hb.2
  have ha2 := ha.below hB
  have hb2 := hb.below hB
  obtain ⟨⟨aa, ca, -, -, rfl, -⟩, -⟩ := ha
  obtain ⟨⟨ab, cb, -, -, rfl, -⟩, -⟩ := hb
  have HB0 := Lib.hid hB
  go_enter Try.func8, Try.ntmps8
  go_upto_region 1 with (fail)
  generalize (w.alloc (Obj.cells #[Value.slice a0 l.stem.length c0, Value.slice a1 l.loop.length c1] 24)) = w2 at *
  have HSa : Hid (∀ W, Below w2.heap.size w2 W → SL a (.slice aa a.length ca) W) := fun W hW => SL.of (ha2.below hW)
  have HSb : Hid (∀ W, Below w2.heap.size w2 W → SL b (.slice ab b.length cb) W) := fun W hW => SL.of (hb2.below hW)
  clear b0 hB ha2 hb2
  go_wp2_with fail
  refine (head_c w2).mono ?_
  rintro e w3 ⟨rfl, hW⟩
  have hF := HB0.out.trans (hW.mono HB0.out.size)
  by_cases hla : a.length ≤ 80
  case neg =>
    have hd : (80 : Int) < a.length := by omega
    go_wp2
    go_ret
    exact ⟨ret_bool rfl, hF⟩
  have hd : ¬ (80 : Int) < a.length := by omega
  by_cases hlb : b.length ≤ 80
  case neg =>
    have hd : (80 : Int) < b.length := by omega
    go_wp2
    go_ret
    exact ⟨ret_bool rfl, hF⟩
  have hdb : ¬ (80 : Int) < b.length := by omega
  clear hF
  obtain ⟨k0, k1, hld⟩ := HL.out w3 hW
  go_wp2_with fail
  refine (hd_short w3 hld rfl).mono ?_
  rintro e w4 ⟨rfl, hb4⟩
  replace hW := hW.trans (hb4.mono hW.size)
  clear hb4 hld k0 k1
  cases hsh : shortB l with
  | false =>
    have hF := HB0.out.trans (hW.mono HB0.out.size)
    go_wp2
    go_ret
    exact ⟨ret_bool rfl, hF⟩
  | true =>
    clear hsh
    obtain ⟨k0, k1, hld⟩ := HL.out w4 hW
    go_wp2_with fail
    obtain ⟨xl, hxl⟩ : ∃ xl, pushI a l = xl := ⟨_, rfl⟩
    refine (hd_push w4 (HSa.out w4 hW) hld (by omega) hxl).mono ?_
    rintro e w5 ⟨v, rfl, ⟨x0, y0, x1, y1, rfl, hs⟩, hb4⟩
    replace hW := hW.trans (hb4.mono hW.size)
    clear hb4 hld k0 k1
    go_upto_region 5 with (fail)
    have hx := bel_box (w := w5) (Obj.cells #[Value.slice x0 xl.stem.length y0, Value.slice x1 xl.loop.length y1] 24)
    have HX : Hid (BoxL w5.heap.size (Value.slice x0 xl.stem.length y0) (Value.slice x1 xl.loop.length y1) xl (w5.alloc (Obj.cells #[Value.slice x0 xl.stem.length y0, Value.slice x1 xl.loop.length y1] 24))) := BoxL.of (heap_alloc_new w5 _) (hs.below hx)
    have hW6 := hW.trans (hx.mono hW.size)
    have HL6 := Lib.hid (HL.out.below hW6)
    have HSa6 : Hid (∀ W, Below (w5.alloc (Obj.cells #[Value.slice x0 xl.stem.length y0, Value.slice x1 xl.loop.length y1] 24)).heap.size (w5.alloc (Obj.cells #[Value.slice x0 xl.stem.length y0, Value.slice x1 xl.loop.length y1] 24)) W → SL a (.slice aa a.length ca) W) := fun W h => HSa.out W (hW6.trans (h.mono hW6.size))
    have HSb6 : Hid (∀ W, Below (w5.alloc (Obj.cells #[Value.slice x0 xl.stem.length y0, Value.slice x1 xl.loop.length y1] 24)).heap.size (w5.alloc (Obj.cells #[Value.slice x0 xl.stem.length y0, Value.slice x1 xl.loop.length y1] 24)) W → SL b (.slice ab b.length cb) W) := fun W h => HSb.out W (hW6.trans (h.mono hW6.size))
    have HB6 := Lib.hid (HB0.out.trans (hW6.mono HB0.out.size))
    have HPre : Hid (0 < xl.loop.length → prefixI xl (a.length : Int) = a) := fun h => by subst hxl; exact push_prefix_law h (by omega)
    have HSuf : Hid (0 < xl.loop.length → sameI (suffixI xl (a.length : Int)) l = true) := fun h => by subst hxl; exact push_suffix_law h
    have HXl := Lib.hid hxl
    clear hs hW hx hW6 HL HSa HSb HB0 hxl
    generalize (w5.alloc (Obj.cells #[Value.slice x0 xl.stem.length y0, Value.slice x1 xl.loop.length y1] 24)) = w6 at *
    generalize w5.heap.size = bs at *
    go_cut [50] (fun s wx => s = .bool false ∧ ∃ wc, wc = wx ∧ Below w6.heap.size w6 wc)
    case first =>
      by_cases hpos : 0 < xl.loop.length
      · have hposi : (0 : Int) < xl.loop.length := by omega
        have HPr := Lib.hid (HPre.out hpos)
        have HSf := Lib.hid (HSuf.out hpos)
        refine region_stable hmx (RPb a l xl bs aa x1 ca y1) (fun vs => { tmps := (_ :: _ :: _ :: _ :: _ :: _ :: _ :: _ :: _ :: _ :: _ :: _ :: _ :: _ :: _ :: _ :: _ :: _ :: _ :: _ :: _ :: _ :: _ :: _ :: _ :: _ :: _ :: _ :: _ :: vs 0 :: vs 1 :: vs 2 :: vs 3 :: vs 4 :: vs 5 :: vs 6 :: vs 7 :: vs 8 :: vs 9 :: vs 10 :: vs 11 :: vs 12 :: vs 13 :: vs 14 :: vs 15 :: vs 16 :: vs 17 :: vs 18 :: vs 19 :: vs 20 :: vs 21 :: _ :: _ :: _ :: _ :: _ :: _ :: _ :: _ :: _ :: _ :: _ :: _ :: _ :: _ :: _ :: _ :: _ :: _ :: _ :: _ :: _ :: _ :: _ :: _ :: _ :: _ :: _ :: _ :: _ :: _ :: _ :: _ :: _ :: _ :: _ :: _ :: []).toArray, defers := [] }) (fun _ => undef) rfl (by kernel_rfl) (RPb.mono a l xl bs aa x1 ca y1) ?stepA ?finA
        case stepA =>
          intro ix o ho
          match ix, ho with
          | 0, ho =>
            obtain rfl := Option.some.inj ho
            intro vs W K hB hD hK
            have HK := Lib.hid hK
            clear hK hD ho
            dsimp only
            go_simp
            have h := HK.out _ _ (Below.refl _ _) rfl
            simp only [upd, Nat.reduceEqDiff, reduceIte] at h
            exact h
          | 1, ho =>
            obtain rfl := Option.some.inj ho
            intro vs W K hB hD hK
            have HK := Lib.hid hK
            have e0 : vs 0 = .pointer (some ⟨bs, 1, none⟩) := dep_of hD 0 (by rfl)
            have hc := ((Below.drew (Below.refl _ _)).trans hB)
            have hld := (HX.out W hc).2.1
            clear hK hD ho
            dsimp only
            go_simp
            have h := HK.out _ _ (Below.refl _ _) rfl
            simp only [upd, Nat.reduceEqDiff, reduceIte, e0] at h
            exact h
          | 2, ho =>
            obtain rfl := Option.some.inj ho
            intro vs W K hB hD hK
            have HK := Lib.hid hK
            have e1 : vs 1 = .slice x1 xl.loop.length y1 := dep_of hD 1 (by rfl)
            clear hK hD ho
            dsimp only
            go_simp
            have h := HK.out _ _ (Below.refl _ _) rfl
            simp only [upd, Nat.reduceEqDiff, reduceIte, e1] at h
            exact h
          | 3, ho =>
            obtain rfl := Option.some.inj ho
            intro vs W K hB hD hK
            have HK := Lib.hid hK
            have e2 : vs 2 = .int .i64 (xl.loop.length : Int) := dep_of hD 2 (by rfl)
            clear hK hD ho
            dsimp only
            go_simp
            have h := HK.out _ _ (Below.refl _ _) rfl
            simp only [upd, Nat.reduceEqDiff, reduceIte, e2] at h
            exact h
          | 4, ho =>
            obtain rfl := Option.some.inj ho
            intro vs W K hB hD hK
            have HK := Lib.hid hK
            have e3 : vs 3 = .bool true := dep_of hD 3 (by rfl)
            clear hK hD ho
            dsimp only
            go_simp
            have h := HK.out _ _ (Below.refl _ _) rfl
            simp only [upd, Nat.reduceEqDiff, reduceIte, e3] at h
            exact h
          | 5, ho =>
            obtain rfl := Option.some.inj ho
            intro vs W K hB hD hK
            have HK := Lib.hid hK
            have e4 : vs 4 = .bool true := dep_of hD 4 (by rfl)
            have hc := ((Below.drew (Below.refl _ _)).trans hB)
            obtain ⟨k0, k1, hld⟩ := HX.out W hc
            clear hK hD ho
            dsimp only
            go_simp
            have h := HK.out _ _ (Below.refl _ _) hld
            simp only [upd, Nat.reduceEqDiff, reduceIte, e4] at h
            exact h
          | 6, ho =>
            obtain rfl := Option.some.inj ho
            intro vs W K hB hD hK
            have HK := Lib.hid hK
            have e4 : vs 4 = .bool true := dep_of hD 4 (by rfl)
            clear hK hD ho
            dsimp only
            go_simp
            have h := HK.out _ _ (Below.refl _ _) rfl
            simp only [upd, Nat.reduceEqDiff, reduceIte, e4] at h
            exact h
          | 7, ho =>
            obtain rfl := Option.some.inj ho
            intro vs W K hB hD hK
            have HK := Lib.hid hK
            have e4 : vs 4 = .bool true := dep_of hD 4 (by rfl)
            have e6 : vs 6 = .slice aa a.length ca := dep_of hD 6 (by rfl)
            clear hK hD ho
            dsimp only
            go_simp
            have h := HK.out _ _ (Below.refl _ _) rfl
            simp only [upd, Nat.reduceEqDiff, reduceIte, e4, e6] at h
            exact h
          | 8, ho =>
            obtain rfl := Option.some.inj ho
            intro vs W K hB hD hK
            have HK := Lib.hid hK
            have e4 : vs 4 = .bool true := dep_of hD 4 (by rfl)
            have d5 := dep_of hD 5 (by rfl)
            have e7 : vs 7 = .int .i64 (a.length : Int) := dep_of hD 7 (by rfl)
            clear hK hD ho
            dsimp only
            go_simp
            refine (hd_prefix W d5 HPr.out).mono ?_
            rintro e W' ⟨v, rfl, hv, hb⟩
            have h := HK.out _ _ hb hv
            simp only [upd, Nat.reduceEqDiff, reduceIte, e4, e7] at h
            exact h
          | 9, ho =>
            obtain rfl := Option.some.inj ho
            intro vs W K hB hD hK
            have HK := Lib.hid hK
            have e4 : vs 4 = .bool true := dep_of hD 4 (by rfl)
            clear hK hD ho
            dsimp only
            go_simp
            have h := HK.out _ _ (Below.refl _ _) rfl
            simp only [upd, Nat.reduceEqDiff, reduceIte, e4] at h
            exact h
          | 10, ho =>
            obtain rfl := Option.some.inj ho
            intro vs W K hB hD hK
            have HK := Lib.hid hK
            have e4 : vs 4 = .bool true := dep_of hD 4 (by rfl)
            have d8 := dep_of hD 8 (by rfl)
            have e9 : vs 9 = .slice aa a.length ca := dep_of hD 9 (by rfl)
            have hc := ((Below.drew (Below.refl _ _)).trans hB)
            clear hK hD ho
            dsimp only
            go_simp
            refine (hd_ints W d8 (HSa6.out W hc)).mono ?_
            rintro e W' ⟨rfl, hb⟩
            have h := HK.out _ _ hb rfl
            simp only [upd, Nat.reduceEqDiff, reduceIte, e4, e9] at h
            exact h
          | 11, ho =>
            obtain rfl := Option.some.inj ho
            intro vs W K hB hD hK
            have HK := Lib.hid hK
            have e4 : vs 4 = .bool true := dep_of hD 4 (by rfl)
            have e10 : vs 10 = .bool true := dep_of hD 10 (by rfl)
            clear hK hD ho
            dsimp only
            go_simp
            have h := HK.out _ _ (Below.refl _ _) rfl
            simp only [upd, Nat.reduceEqDiff, reduceIte, e4, e10] at h
            exact h
          | 12, ho =>
            obtain rfl := Option.some.inj ho
            intro vs W K hB hD hK
            have HK := Lib.hid hK
            have e4 : vs 4 = .bool true := dep_of hD 4 (by rfl)
            have e11 : vs 11 = .bool false := dep_of hD 11 (by rfl)
            clear hK hD ho
            dsimp only
            go_simp
            have h := HK.out _ _ (Below.refl _ _) rfl
            simp only [upd, Nat.reduceEqDiff, reduceIte, e4, e11] at h
            exact h
          | 13, ho =>
            obtain rfl := Option.some.inj ho
            intro vs W K hB hD hK
            have HK := Lib.hid hK
            have e12 : vs 12 = .bool false := dep_of hD 12 (by rfl)
            have hc := ((Below.drew (Below.refl _ _)).trans hB)
            obtain ⟨k0, k1, hld⟩ := HX.out W hc
            clear hK hD ho
            dsimp only
            go_simp
            have h := HK.out _ _ (Below.refl _ _) hld
            simp only [upd, Nat.reduceEqDiff, reduceIte, e12] at h
            exact h
          | 14, ho =>
            obtain rfl := Option.some.inj ho
            intro vs W K hB hD hK
            have HK := Lib.hid hK
            have e12 : vs 12 = .bool false := dep_of hD 12 (by rfl)
            clear hK hD ho
            dsimp only
            go_simp
            have h := HK.out _ _ (Below.refl _ _) rfl
            simp only [upd, Nat.reduceEqDiff, reduceIte, e12] at h
            exact h
          | 15, ho =>
            obtain rfl := Option.some.inj ho
            intro vs W K hB hD hK
            have HK := Lib.hid hK
            have e12 : vs 12 = .bool false := dep_of hD 12 (by rfl)
            have e14 : vs 14 = .slice aa a.length ca := dep_of hD 14 (by rfl)
            clear hK hD ho
            dsimp only
            go_simp
            have h := HK.out _ _ (Below.refl _ _) rfl
            simp only [upd, Nat.reduceEqDiff, reduceIte, e12, e14] at h
            exact h
          | 16, ho =>
            obtain rfl := Option.some.inj ho
            intro vs W K hB hD hK
            have HK := Lib.hid hK
            have e12 : vs 12 = .bool false := dep_of hD 12 (by rfl)
            have d13 := dep_of hD 13 (by rfl)
            have e15 : vs 15 = .int .i64 (a.length : Int) := dep_of hD 15 (by rfl)
            clear hK hD ho
            dsimp only
            go_simp
            refine (hd_suffix W d13 (by unfold I64; omega) rfl).mono ?_
            rintro e W' ⟨v, rfl, hv, hb⟩
            have h := HK.out _ _ hb hv
            simp only [upd, Nat.reduceEqDiff, reduceIte, e12, e15] at h
            exact h
          | 17, ho =>
            obtain rfl := Option.some.inj ho
            intro vs W K hB hD hK
            have HK := Lib.hid hK
            have e12 : vs 12 = .bool false := dep_of hD 12 (by rfl)
            have hc := ((Below.drew (Below.refl _ _)).trans hB)
            obtain ⟨k0, k1, hld⟩ := HL6.out W hc
            clear hK hD ho
            dsimp only
            go_simp
            have h := HK.out _ _ (Below.refl _ _) hld
            simp only [upd, Nat.reduceEqDiff, reduceIte, e12] at h
            exact h
          | 18, ho =>
            obtain rfl := Option.some.inj ho
            intro vs W K hB hD hK
            have HK := Lib.hid hK
            have e12 : vs 12 = .bool false := dep_of hD 12 (by rfl)
            have d16 := dep_of hD 16 (by rfl)
            have d17 := dep_of hD 17 (by rfl)
            clear hK hD ho
            dsimp only
            go_simp
            refine (hd_same W d16 d17 HSf.out).mono ?_
            rintro e W' ⟨rfl, hb⟩
            have h := HK.out _ _ hb rfl
            simp only [upd, Nat.reduceEqDiff, reduceIte, e12] at h
            exact h
          | 19, ho =>
            obtain rfl := Option.some.inj ho
            intro vs W K hB hD hK
            have HK := Lib.hid hK
            have e12 : vs 12 = .bool false := dep_of hD 12 (by rfl)
            have e18 : vs 18 = .bool true := dep_of hD 18 (by rfl)
            clear hK hD ho
            dsimp only
            go_simp
            have h := HK.out _ _ (Below.refl _ _) rfl
            simp only [upd, Nat.reduceEqDiff, reduceIte, e12, e18] at h
            exact h
          | 20, ho =>
            obtain rfl := Option.some.inj ho
            intro vs W K hB hD hK
            have HK := Lib.hid hK
            have e4 : vs 4 = .bool true := dep_of hD 4 (by rfl)
            have e12 : vs 12 = .bool false := dep_of hD 12 (by rfl)
            have e19 : vs 19 = .bool false := dep_of hD 19 (by rfl)
            clear hK hD ho
            dsimp only
            go_simp
            have h := HK.out _ _ (Below.refl _ _) rfl
            simp only [upd, Nat.reduceEqDiff, reduceIte, e4, e12, e19] at h
            exact h
          | 21, ho =>
            obtain rfl := Option.some.inj ho
            intro vs W K hB hD hK
            have HK := Lib.hid hK
            have e4 : vs 4 = .bool true := dep_of hD 4 (by rfl)
            have e20 : vs 20 = .bool false := dep_of hD 20 (by rfl)
            clear hK hD ho
            dsimp only
            go_simp
            have h := HK.out _ _ (Below.refl _ _) rfl
            simp only [upd, Nat.reduceEqDiff, reduceIte, e4, e20] at h
            exact h
          | n + 22, ho => simp at ho
        case finA =>
          intro vs W3 hB hall
          have e : vs 21 = .bool false := hall 21 (by decide)
          have hF := (Below.drew (Below.refl _ _)).trans hB
          clear hall hB
          rw [e]
          clear e
          generalize vs 0 = q0
          generalize vs 1 = q1
          generalize vs 2 = q2
          generalize vs 3 = q3
          generalize vs 4 = q4
          generalize vs 5 = q5
          generalize vs 6 = q6
          generalize vs 7 = q7
          generalize vs 8 = q8
          generalize vs 9 = q9
          generalize vs 10 = q10
          generalize vs 11 = q11
          generalize vs 12 = q12
          generalize vs 13 = q13
          generalize vs 14 = q14
          generalize vs 15 = q15
          generalize vs 16 = q16
          generalize vs 17 = q17
          generalize vs 18 = q18
          generalize vs 19 = q19
          generalize vs 20 = q20
          clear vs
          go_wp2_with fail
          go_meet
          case rel => exact ⟨rfl, _, rfl, hF⟩
      · have hposi : ¬ (0 : Int) < xl.loop.length := by omega
        obtain ⟨-, d1, -⟩ := HX.out w6 (Below.refl _ _)
        refine wp_region_quiet_lit (by kernel_rfl) (by kernel_rfl) ?_
        ((repeat (go_big_quiet_step (fail))); refine wpQuiet_nil ?_; rintro _ ⟨nq, rfl⟩)
        go_wp2_with fail
        go_meet
        case rel => exact ⟨rfl, _, rfl, belD (Below.refl _ _) nq⟩
    case rest =>
      obtain ⟨rfl, wc, rfl, hW⟩ := hcut
      clear HPre HSuf HX
      obtain ⟨k0, k1, hld⟩ := HL6.out wc hW
      go_wp2_with fail
      obtain ⟨yl, hyl⟩ : ∃ yl, pushI b l = yl := ⟨_, rfl⟩
      refine (hd_push wc (HSb6.out wc hW) hld (by omega) hyl).mono ?_
      rintro e w7 ⟨v, rfl, ⟨x2, y2, x3, y3, rfl, hs⟩, hb4⟩
      replace hW := hW.trans (hb4.mono hW.size)
      clear hb4 hld k0 k1
      go_upto_region 8 with (fail)
      have hx := bel_box (w := w7) (Obj.cells #[Value.slice x2 yl.stem.length y2, Value.slice x3 yl.loop.length y3] 24)
      have HY : Hid (BoxL w7.heap.size (Value.slice x2 yl.stem.length y2) (Value.slice x3 yl.loop.length y3) yl (w7.alloc (Obj.cells #[Value.slice x2 yl.stem.length y2, Value.slice x3 yl.loop.length y3] 24))) := BoxL.of (heap_alloc_new w7 _) (hs.below hx)
      have hW8 := hW.trans (hx.mono hW.size)
      have HL8 := Lib.hid (HL6.out.below hW8)
      have HSa8 : Hid (∀ W, Below (w7.alloc (Obj.cells #[Value.slice x2 yl.stem.length y2, Value.slice x3 yl.loop.length y3] 24)).heap.size (w7.alloc (Obj.cells #[Value.slice x2 yl.stem.length y2, Value.slice x3 yl.loop.length y3] 24)) W → SL a (.slice aa a.length ca) W) := fun W h => HSa6.out W (hW8.trans (h.mono hW8.size))
      have HSb8 : Hid (∀ W, Below (w7.alloc (Obj.cells #[Value.slice x2 yl.stem.length y2, Value.slice x3 yl.loop.length y3] 24)).heap.size (w7.alloc (Obj.cells #[Value.slice x2 yl.stem.length y2, Value.slice x3 yl.loop.length y3] 24)) W → SL b (.slice ab b.length cb) W) := fun W h => HSb6.out W (hW8.trans (h.mono hW8.size))
      have HB8 := Lib.hid (HB6.out.trans (hW8.mono HB6.out.size))
      obtain ⟨bl, hbl⟩ : ∃ bl, pushI (a ++ b) l = bl := ⟨_, rfl⟩
      have HBl := Lib.hid hbl
      have HEq : Hid (0 < yl.loop.length → pushI a yl = bl) := fun h => by subst hyl hbl; exact push_push h
      have HPos : Hid (0 < bl.loop.length → 0 < yl.loop.length) := fun h => by subst hyl hbl; exact push_both h
      have HRab : Hid (∀ x ∈ a ++ b, I64 x) := fun x hx => (List.mem_append.1 hx).elim (fun h => HRa.out x h) (fun h => HRb.out x h)
      have hlab : (a ++ b).length ≤ 160 := by rw [List.length_append]; omega
      clear hs hW hx hW8 HL6 HSa6 HSb6 HB6 hyl hbl HRa HRb
      generalize (w7.alloc (Obj.cells #[Value.slice x2 yl.stem.length y2, Value.slice x3 yl.loop.length y3] 24)) = w8 at *
      generalize w7.heap.size = by2 at *
      go_cut [10] (fun p wx => ∃ g wd x4 y4 x5 y5, p = .pointer (some ⟨g, 0, none⟩) ∧ wd = wx ∧ Below w8.heap.size w8 wd ∧ Hid (BoxL g (.slice x4 bl.stem.length y4) (.slice x5 bl.loop.length y5) bl wd))
      case first =>
        have HD : Hid (∀ W, Below w8.drew.heap.size w8.drew W → Below w8.heap.size w8 W) := fun W h => (Below.drew (Below.refl _ _)).trans h
        refine region_use hmx (RPa w8.drew aa ab ca cb a b l bl) usesA [(4, 2), (6, 2), (6, 4)] (fun vs => { tmps := (_ :: _ :: _ :: _ :: _ :: _ :: _ :: _ :: _ :: _ :: vs 7 :: _ :: _ :: _ :: _ :: _ :: _ :: _ :: _ :: _ :: _ :: _ :: _ :: _ :: _ :: _ :: _ :: _ :: _ :: _ :: _ :: _ :: _ :: _ :: _ :: _ :: _ :: _ :: _ :: _ :: _ :: _ :: _ :: _ :: _ :: _ :: _ :: _ :: _ :: _ :: _ :: _ :: _ :: _ :: vs 0 :: vs 1 :: vs 2 :: vs 3 :: vs 4 :: vs 5 :: vs 6 :: _ :: _ :: _ :: _ :: _ :: _ :: _ :: _ :: _ :: _ :: _ :: _ :: _ :: _ :: _ :: _ :: _ :: _ :: _ :: _ :: _ :: _ :: _ :: _ :: _ :: _ :: []).toArray, defers := [] }) (fun n => [u54, u55, u56, u57, u58, u59, u60].getD n undef) 8 rfl (by kernel_rfl) (by kernel_rfl) (by kernel_rfl) ?step ?last
        case step =>
          intro ix o hi ho
          match ix, hi, ho with
          | 0, hi, ho =>
            obtain rfl := Option.some.inj ho
            intro vs W K hB hD hK
            have HK := Lib.hid (use_plain (RPa.mono w8.drew aa ab ca cb a b l bl) hB hK)
            clear hK hD ho hi
            dsimp only
            go_simp
            have h := HK.out _ _ (bel_box _) (OI.down (OI_empty0 W) hB.size)
            simp only [upd, Nat.reduceEqDiff, reduceIte] at h
            exact h
          | 1, hi, ho =>
            obtain rfl := Option.some.inj ho
            intro vs W K hB hD hK
            have HK := Lib.hid (use_plain (RPa.mono w8.drew aa ab ca cb a b l bl) hB hK)
            clear hK hD ho hi
            dsimp only
            go_simp
            have h := HK.out _ _ (Below.refl _ _) rfl
            simp only [upd, Nat.reduceEqDiff, reduceIte] at h
            exact h
          | 2, hi, ho =>
            obtain rfl := Option.some.inj ho
            intro vs W K hB hD hK
            have HK := Lib.hid hK
            have d0 : OI W w8.drew.heap.size (vs 0) [] := dep_use hD 0 (by rfl) (.inr rfl)
            have e1 : vs 1 = .slice aa a.length ca := dep_use hD 1 (by rfl) (.inl rfl)
            have hsrc := (HSa8.out W (HD.out W hB)).is
            clear hK hD ho hi
            rw [if_pos (by rfl)]
            refine wp_app_ints W (.tmp 54) (.tmp 55) (by rfl) w8.drew.heap.size (vs 0) (.slice aa a.length ca) [] a (by rfl) d0 ((by rfl : _ = vs 1).trans e1) hsrc (by rw [List.length_nil]; omega) hB.size ?_
            intro v' w' hown hg
            have h := HK.out v' w' (hB.grown hg hB.size (fun g h => d0.ge g h)) hown (fun j x h1 h2 h3 h4 hx => RPa.app d0 hg j x (fun e => by subst e; exact h2 rfl) h1 (fun e => by subst e; exact h4 (by simp)) (fun e => by subst e; exact h4 (by simp)) hx)
            simp only [upd, Nat.reduceEqDiff, reduceIte] at h
            exact h
          | 3, hi, ho =>
            obtain rfl := Option.some.inj ho
            intro vs W K hB hD hK
            have HK := Lib.hid (use_plain (RPa.mono w8.drew aa ab ca cb a b l bl) hB hK)
            clear hK hD ho hi
            dsimp only
            go_simp
            have h := HK.out _ _ (Below.refl _ _) rfl
            simp only [upd, Nat.reduceEqDiff, reduceIte] at h
            exact h
          | 4, hi, ho =>
            obtain rfl := Option.some.inj ho
            intro vs W K hB hD hK
            have HK := Lib.hid hK
            have d0 : OI W w8.drew.heap.size (vs 2) a := dep_use hD 2 (by rfl) (.inr rfl)
            have e1 : vs 3 = .slice ab b.length cb := dep_use hD 3 (by rfl) (.inl rfl)
            have hsrc := (HSb8.out W (HD.out W hB)).is
            clear hK hD ho hi
            rw [if_pos (by rfl)]
            refine wp_app_ints W (.tmp 56) (.tmp 57) (by rfl) w8.drew.heap.size (vs 2) (.slice ab b.length cb) a b (by rfl) d0 ((by rfl : _ = vs 3).trans e1) hsrc (by omega) hB.size ?_
            intro v' w' hown hg
            have h := HK.out v' w' (hB.grown hg hB.size (fun g h => d0.ge g h)) hown (fun j x h1 h2 h3 h4 hx => RPa.app d0 hg j x (fun e => by subst e; exact h3 2 rfl (by simp)) (fun e => by subst e; exact h2 rfl) h1 (fun e => by subst e; exact h4 (by simp)) hx)
            simp only [upd, Nat.reduceEqDiff, reduceIte] at h
            exact h
          | 5, hi, ho =>
            obtain rfl := Option.some.inj ho
            intro vs W K hB hD hK
            have HK := Lib.hid (use_plain (RPa.mono w8.drew aa ab ca cb a b l bl) hB hK)
            obtain ⟨k0, k1, -⟩ := HL8.out W (HD.out W hB)
            clear hK hD ho hi
            dsimp only
            go_simp
            have h := HK.out _ _ (Below.refl _ _) (fun W' h => (HL8.out W' (HD.out W' h)).2.2)
            simp only [upd, Nat.reduceEqDiff, reduceIte] at h
            exact h
          | 6, hi, ho =>
            obtain rfl := Option.some.inj ho
            intro vs W K hB hD hK
            have HK := Lib.hid (use_plain (RPa.mono w8.drew aa ab ca cb a b l bl) hB hK)
            have d4 : OI W w8.drew.heap.size (vs 4) (a ++ b) := dep_use hD 4 (by rfl) (.inl rfl)
            have d5 : ∀ W', Below w8.drew.heap.size w8.drew W' → LV l (vs 5) W' := dep_use hD 5 (by rfl) (.inl rfl)
            clear hK hD ho hi
            dsimp only
            go_simp
            refine (hd_push W (SL.of (d4.is (by unfold maxN; omega) HRab.out)) (d5 W hB) (by omega) HBl.out).mono ?_
            rintro e W' ⟨v, rfl, hv, hb⟩
            have h := HK.out _ _ hb hv
            simp only [upd, Nat.reduceEqDiff, reduceIte] at h
            exact h
          | 7, hi, ho =>
            obtain rfl := Option.some.inj ho
            intro vs W K hB hD hK
            have HK := Lib.hid (use_plain (RPa.mono w8.drew aa ab ca cb a b l bl) hB hK)
            clear hK hD ho hi
            dsimp only
            go_simp
            have h := HK.out _ _ (bel_box _) ⟨_, rfl, hB.size, by simp, heap_alloc_new _ _⟩
            simp only [upd, Nat.reduceEqDiff, reduceIte] at h
            exact h
          | n + 8, hi, ho => omega
        case last =>
          intro o ho
          obtain rfl := Option.some.inj ho
          intro vs W K hB hall hK
          have HK := Lib.hid hK
          obtain ⟨g, e7, hg1, hg2, hg3⟩ : ∃ g, vs 7 = .pointer (some ⟨g, 0, none⟩) ∧ w8.drew.heap.size ≤ g ∧ g < W.heap.size ∧ W.heap[g]? = some (.cells #[.slice none 0 0, .slice none 0 0] 24 (0, 0)) := hall 7 (by omega) rfl
          obtain ⟨x4, y4, x5, y5, e6, hLx⟩ : LV bl (vs 6) W := hall 6 (by omega) rfl
          have HHg := Lib.hid hg3
          have HLx := Lib.hid hLx
          obtain ⟨z0, z1, z2, z3⟩ := boxF hg3
          clear ho hall hK hLx
          dsimp only
          go_simp
          refine HK.out _ _ ?_
          generalize vs 0 = q0
          generalize vs 1 = q1
          generalize vs 2 = q2
          generalize vs 3 = q3
          generalize vs 4 = q4
          generalize vs 5 = q5
          clear e6 e7 vs z0 z1 z2 z3
          have hrow := two_set (a := .slice x4 bl.stem.length y4) (b := .slice x5 bl.loop.length y5) HHg.out
          have hBl := below_two (a := .slice x4 bl.stem.length y4) (b := .slice x5 bl.loop.length y5) (HD.out W hB) hg1
          have hot : ∀ q, q ≠ g → ((W.setCell ⟨g, 0, none⟩ (.slice x4 bl.stem.length y4)).setCell ⟨g, 1, none⟩ (.slice x5 bl.loop.length y5)).heap[q]? = W.heap[q]? := fun q hq => by
            rw [heap_setCell_other _ _ _ _ hq, heap_setCell_other _ _ _ _ hq]
          have hLL := LV.fill (LV.of HLx.out) HHg.out hot
          have HBox := Lib.hid (BoxL.of hrow hLL.is)
          clear hrow hot hLL hg3
          generalize ((W.setCell ⟨g, 0, none⟩ (.slice x4 bl.stem.length y4)).setCell ⟨g, 1, none⟩ (.slice x5 bl.loop.length y5)) = wd at *
          go_wp2_with fail
          go_meet
          case rel => exact ⟨g, wd, x4, y4, x5, y5, rfl, rfl, hBl, HBox⟩
      case rest =>
        obtain ⟨g, wd, x4, y4, x5, y5, rfl, rfl, hW, HBo⟩ := hcut
        have HLd := Lib.hid (HL8.out.below hW)
        have HYd := Lib.hid (HY.out.below hW)
        have HSad : Hid (∀ W, Below wd.heap.size wd W → SL a (.slice aa a.length ca) W) := fun W h => HSa8.out W (hW.trans (h.mono hW.size))
        have HBd := Lib.hid (HB8.out.trans (hW.mono HB8.out.size))
        clear HL8 HY HSa8 HSb8 HB8 hW HBl HRab hlab
        by_cases hy : yl.loop.length = 0
        · have hyi : (yl.loop.length : Int) = 0 := by omega
          have hb0 : bl.loop.length = 0 := by
            rcases Nat.eq_zero_or_pos bl.loop.length with h | h
            · exact h
            · have := HPos.out h; omega
          have hbi : (bl.loop.length : Int) = 0 := by omega
          obtain ⟨-, d1, -⟩ := HYd.out wd (Below.refl _ _)
          obtain ⟨-, d2, -⟩ := HBo.out wd (Below.refl _ _)
          go_upto_region 9 with (fail)
          refine wp_region_quiet_lit (by kernel_rfl) (by kernel_rfl) ?_
          ((repeat (go_big_quiet_step (fail))); refine wpQuiet_nil ?_; rintro _ ⟨nq, rfl⟩)
          go_wp2
          go_ret
          exact ⟨ret_bool rfl, belD HBd.out nq⟩
        · have HE := Lib.hid (HEq.out (by omega))
          have hyi : ((yl.loop.length : Int) == 0) = false := beq_eq_false_iff_ne.2 (by omega)
          have hyp : (0 : Int) < yl.loop.length := by omega
          have hyn : 0 < yl.loop.length := by omega
          by_cases hb0 : bl.loop.length = 0
          · have hbi : ((bl.loop.length : Int) == 0) = true := by simp [hb0]
            clear hb0
            go_upto_region 9 with (fail)
            refine region_stable hmx (RPc a yl bl by2 g aa x3 x5 ca y3 y5) (fun vs => { tmps := (_ :: _ :: _ :: _ :: _ :: _ :: vs 26 :: _ :: _ :: _ :: _ :: _ :: _ :: _ :: _ :: _ :: _ :: _ :: _ :: _ :: _ :: _ :: _ :: _ :: _ :: _ :: _ :: _ :: _ :: _ :: _ :: _ :: _ :: _ :: _ :: _ :: _ :: _ :: _ :: _ :: _ :: _ :: _ :: _ :: _ :: _ :: _ :: _ :: _ :: _ :: _ :: _ :: _ :: _ :: _ :: _ :: _ :: _ :: _ :: _ :: _ :: vs 0 :: vs 1 :: vs 2 :: vs 3 :: vs 4 :: vs 5 :: vs 6 :: vs 7 :: vs 8 :: vs 9 :: vs 10 :: vs 11 :: vs 12 :: vs 13 :: vs 14 :: vs 15 :: vs 16 :: vs 17 :: vs 18 :: vs 19 :: vs 20 :: vs 21 :: vs 22 :: vs 23 :: vs 24 :: vs 25 :: []).toArray, defers := [] }) (fun n => [u61, u62, u63, u64, u65, u66, u67, u68, u69, u70, u71, u72, u73, u74, u75, u76, u77, u78, u79, u80, u81, u82, u83, u84, u85, u86, .bool false].getD n undef) rfl (by kernel_rfl) (RPc.mono a yl bl by2 g aa x3 x5 ca y3 y5) ?stepD ?finD
            case stepD =>
              intro ix o ho
              match ix, ho with
              | 0, ho =>
                obtain rfl := Option.some.inj ho
                intro vs W K hB hD hK
                have HK := Lib.hid hK
                clear hK hD ho
                dsimp only
                go_simp
                have h := HK.out _ _ (Below.refl _ _) rfl
                simp only [upd, Nat.reduceEqDiff, reduceIte] at h
                exact h
              | 1, ho =>
                obtain rfl := Option.some.inj ho
                intro vs W K hB hD hK
                have HK := Lib.hid hK
                have e0 : vs 0 = .bool true := dep_of hD 0 (by rfl)
                clear hK hD ho
                dsimp only
                go_simp
                have h := HK.out _ _ (Below.refl _ _) rfl
                simp only [upd, Nat.reduceEqDiff, reduceIte, e0] at h
                exact h
              | 2, ho =>
                obtain rfl := Option.some.inj ho
                intro vs W K hB hD hK
                have HK := Lib.hid hK
                have e1 : vs 1 = .bool true := dep_of hD 1 (by rfl)
                clear hK hD ho
                dsimp only
                go_simp
                have h := HK.out _ _ (Below.refl _ _) rfl
                simp only [upd, Nat.reduceEqDiff, reduceIte, e1] at h
                exact h
              | 3, ho =>
                obtain rfl := Option.some.inj ho
                intro vs W K hB hD hK
                have HK := Lib.hid hK
                have e1 : vs 1 = .bool true := dep_of hD 1 (by rfl)
                have e2 : vs 2 = .pointer (some ⟨by2, 1, none⟩) := dep_of hD 2 (by rfl)
                have hc := ((Below.drew (Below.refl _ _)).trans hB)
                have hld := (HYd.out W hc).2.1
                clear hK hD ho
                dsimp only
                go_simp
                have h := HK.out _ _ (Below.refl _ _) rfl
                simp only [upd, Nat.reduceEqDiff, reduceIte, e1, e2] at h
                exact h
              | 4, ho =>
                obtain rfl := Option.some.inj ho
                intro vs W K hB hD hK
                have HK := Lib.hid hK
                have e1 : vs 1 = .bool true := dep_of hD 1 (by rfl)
                have e3 : vs 3 = .slice x3 yl.loop.length y3 := dep_of hD 3 (by rfl)
                clear hK hD ho
                dsimp only
                go_simp
                have h := HK.out _ _ (Below.refl _ _) rfl
                simp only [upd, Nat.reduceEqDiff, reduceIte, e1, e3] at h
                exact h
              | 5, ho =>
                obtain rfl := Option.some.inj ho
                intro vs W K hB hD hK
                have HK := Lib.hid hK
                have e1 : vs 1 = .bool true := dep_of hD 1 (by rfl)
                have e4 : vs 4 = .int .i64 (yl.loop.length : Int) := dep_of hD 4 (by rfl)
                clear hK hD ho
                dsimp only
                go_simp
                have h := HK.out _ _ (Below.refl _ _) rfl
                simp only [upd, Nat.reduceEqDiff, reduceIte, e1, e4] at h
                exact h
              | 6, ho =>
                obtain rfl := Option.some.inj ho
                intro vs W K hB hD hK
                have HK := Lib.hid hK
                have e1 : vs 1 = .bool true := dep_of hD 1 (by rfl)
                have e5 : vs 5 = .bool false := dep_of hD 5 (by rfl)
                clear hK hD ho
                dsimp only
                go_simp
                have h := HK.out _ _ (Below.refl _ _) rfl
                simp only [upd, Nat.reduceEqDiff, reduceIte, e1, e5] at h
                exact h
              | 7, ho =>
                obtain rfl := Option.some.inj ho
                intro vs W K hB hD hK
                have HK := Lib.hid hK
                have e6 : vs 6 = .bool false := dep_of hD 6 (by rfl)
                clear hK hD ho
                dsimp only
                go_simp
                have h := HK.out _ _ (Below.refl _ _) rfl
                simp only [upd, Nat.reduceEqDiff, reduceIte, e6] at h
                exact h
              | 8, ho =>
                obtain rfl := Option.some.inj ho
                intro vs W K hB hD hK
                have HK := Lib.hid hK
                have e6 : vs 6 = .bool false := dep_of hD 6 (by rfl)
                have hc := ((Below.drew (Below.refl _ _)).trans hB)
                obtain ⟨k0, k1, hld⟩ := HYd.out W hc
                clear hK hD ho
                dsimp only
                go_simp
                have h := HK.out _ _ (Below.refl _ _) hld
                simp only [upd, Nat.reduceEqDiff, reduceIte, e6] at h
                exact h
              | 9, ho =>
                obtain rfl := Option.some.inj ho
                intro vs W K hB hD hK
                have HK := Lib.hid hK
                have e6 : vs 6 = .bool false := dep_of hD 6 (by rfl)
                have e7 : vs 7 = .slice aa a.length ca := dep_of hD 7 (by rfl)
                have d8 := dep_of hD 8 (by rfl)
                have hc := ((Below.drew (Below.refl _ _)).trans hB)
                clear hK hD ho
                dsimp only
                go_simp
                refine (hd_push W (HSad.out W hc) d8 (by omega) HE.out).mono ?_
                rintro e W' ⟨v, rfl, hv, hb⟩
                have h := HK.out _ _ hb hv
                simp only [upd, Nat.reduceEqDiff, reduceIte, e6, e7] at h
                exact h
              | 10, ho =>
                obtain rfl := Option.some.inj ho
                intro vs W K hB hD hK
                have HK := Lib.hid hK
                have e6 : vs 6 = .bool false := dep_of hD 6 (by rfl)
                have hc := ((Below.drew (Below.refl _ _)).trans hB)
                obtain ⟨k0, k1, hld⟩ := HBo.out W hc
                clear hK hD ho
                dsimp only
                go_simp
                have h := HK.out _ _ (Below.refl _ _) hld
                simp only [upd, Nat.reduceEqDiff, reduceIte, e6] at h
                exact h
              | 11, ho =>
                obtain rfl := Option.some.inj ho
                intro vs W K hB hD hK
                have HK := Lib.hid hK
                have e6 : vs 6 = .bool false := dep_of hD 6 (by rfl)
                have d9 := dep_of hD 9 (by rfl)
                have d10 := dep_of hD 10 (by rfl)
                clear hK hD ho
                dsimp only
                go_simp
                refine (hd_eq W d9 d10).mono ?_
                rintro e W' ⟨rfl, hb⟩
                have h := HK.out _ _ hb rfl
                simp only [upd, Nat.reduceEqDiff, reduceIte, e6] at h
                exact h
              | 12, ho =>
                obtain rfl := Option.some.inj ho
                intro vs W K hB hD hK
                have HK := Lib.hid hK
                have e1 : vs 1 = .bool true := dep_of hD 1 (by rfl)
                have e6 : vs 6 = .bool false := dep_of hD 6 (by rfl)
                have e11 : vs 11 = .bool true := dep_of hD 11 (by rfl)
                clear hK hD ho
                dsimp only
                go_simp
                have h := HK.out _ _ (Below.refl _ _) rfl
                simp only [upd, Nat.reduceEqDiff, reduceIte, e1, e6, e11] at h
                exact h
              | 13, ho =>
                obtain rfl := Option.some.inj ho
                intro vs W K hB hD hK
                have HK := Lib.hid hK
                have e1 : vs 1 = .bool true := dep_of hD 1 (by rfl)
                have e12 : vs 12 = .bool true := dep_of hD 12 (by rfl)
                clear hK hD ho
                dsimp only
                go_simp
                have h := HK.out _ _ (Below.refl _ _) rfl
                simp only [upd, Nat.reduceEqDiff, reduceIte, e1, e12] at h
                exact h
              | 14, ho =>
                obtain rfl := Option.some.inj ho
                intro vs W K hB hD hK
                have HK := Lib.hid hK
                have e13 : vs 13 = .bool true := dep_of hD 13 (by rfl)
                clear hK hD ho
                dsimp only
                go_simp
                have h := HK.out _ _ (Below.refl _ _) rfl
                simp only [upd, Nat.reduceEqDiff, reduceIte, e13] at h
                exact h
              | 15, ho =>
                obtain rfl := Option.some.inj ho
                intro vs W K hB hD hK
                have HK := Lib.hid hK
                have e14 : vs 14 = .bool true := dep_of hD 14 (by rfl)
                clear hK hD ho
                dsimp only
                go_simp
                have h := HK.out _ _ (Below.refl _ _) rfl
                simp only [upd, Nat.reduceEqDiff, reduceIte, e14] at h
                exact h
              | 16, ho =>
                obtain rfl := Option.some.inj ho
                intro vs W K hB hD hK
                have HK := Lib.hid hK
                have e14 : vs 14 = .bool true := dep_of hD 14 (by rfl)
                have e15 : vs 15 = .pointer (some ⟨g, 1, none⟩) := dep_of hD 15 (by rfl)
                have hc := ((Below.drew (Below.refl _ _)).trans hB)
                have hld := (HBo.out W hc).2.1
                clear hK hD ho
                dsimp only
                go_simp
                have h := HK.out _ _ (Below.refl _ _) rfl
                simp only [upd, Nat.reduceEqDiff, reduceIte, e14, e15] at h
                exact h
              | 17, ho =>
                obtain rfl := Option.some.inj ho
                intro vs W K hB hD hK
                have HK := Lib.hid hK
                have e14 : vs 14 = .bool true := dep_of hD 14 (by rfl)
                have e16 : vs 16 = .slice x5 bl.loop.length y5 := dep_of hD 16 (by rfl)
                clear hK hD ho
                dsimp only
                go_simp
                have h := HK.out _ _ (Below.refl _ _) rfl
                simp only [upd, Nat.reduceEqDiff, reduceIte, e14, e16] at h
                exact h
              | 18, ho =>
                obtain rfl := Option.some.inj ho
                intro vs W K hB hD hK
                have HK := Lib.hid hK
                have e14 : vs 14 = .bool true := dep_of hD 14 (by rfl)
                have e17 : vs 17 = .int .i64 (bl.loop.length : Int) := dep_of hD 17 (by rfl)
                clear hK hD ho
                dsimp only
                go_simp
                have h := HK.out _ _ (Below.refl _ _) rfl
                simp only [upd, Nat.reduceEqDiff, reduceIte, e14, e17] at h
                exact h
              | 19, ho =>
                obtain rfl := Option.some.inj ho
                intro vs W K hB hD hK
                have HK := Lib.hid hK
                have e14 : vs 14 = .bool true := dep_of hD 14 (by rfl)
                have e18 : vs 18 = .bool true := dep_of hD 18 (by rfl)
                clear hK hD ho
                dsimp only
                go_simp
                have h := HK.out _ _ (Below.refl _ _) rfl
                simp only [upd, Nat.reduceEqDiff, reduceIte, e14, e18] at h
                exact h
              | 20, ho =>
                obtain rfl := Option.some.inj ho
                intro vs W K hB hD hK
                have HK := Lib.hid hK
                have e19 : vs 19 = .bool true := dep_of hD 19 (by rfl)
                clear hK hD ho
                dsimp only
                go_simp
                have h := HK.out _ _ (Below.refl _ _) rfl
                simp only [upd, Nat.reduceEqDiff, reduceIte, e19] at h
                exact h
              | 21, ho =>
                obtain rfl := Option.some.inj ho
                intro vs W K hB hD hK
                have HK := Lib.hid hK
                have e19 : vs 19 = .bool true := dep_of hD 19 (by rfl)
                clear hK hD ho
                dsimp only
                go_simp
                have h := HK.out _ _ (Below.refl _ _) rfl
                simp only [upd, Nat.reduceEqDiff, reduceIte, e19] at h
                exact h
              | 22, ho =>
                obtain rfl := Option.some.inj ho
                intro vs W K hB hD hK
                have HK := Lib.hid hK
                have e19 : vs 19 = .bool true := dep_of hD 19 (by rfl)
                clear hK hD ho
                dsimp only
                go_simp
                have h := HK.out _ _ (Below.refl _ _) rfl
                simp only [upd, Nat.reduceEqDiff, reduceIte, e19] at h
                exact h
              | 23, ho =>
                obtain rfl := Option.some.inj ho
                intro vs W K hB hD hK
                have HK := Lib.hid hK
                have e19 : vs 19 = .bool true := dep_of hD 19 (by rfl)
                clear hK hD ho
                dsimp only
                go_simp
                have h := HK.out _ _ (Below.refl _ _) rfl
                simp only [upd, Nat.reduceEqDiff, reduceIte, e19] at h
                exact h
              | 24, ho =>
                obtain rfl := Option.some.inj ho
                intro vs W K hB hD hK
                have HK := Lib.hid hK
                have e14 : vs 14 = .bool true := dep_of hD 14 (by rfl)
                have e19 : vs 19 = .bool true := dep_of hD 19 (by rfl)
                have e23 : vs 23 = undef := dep_of hD 23 (by rfl)
                clear hK hD ho
                dsimp only
                go_simp
                have h := HK.out _ _ (Below.refl _ _) rfl
                simp only [upd, Nat.reduceEqDiff, reduceIte, e14, e19, e23] at h
                exact h
              | 25, ho =>
                obtain rfl := Option.some.inj ho
                intro vs W K hB hD hK
                have HK := Lib.hid hK
                have e14 : vs 14 = .bool true := dep_of hD 14 (by rfl)
                have e24 : vs 24 = .bool true := dep_of hD 24 (by rfl)
                clear hK hD ho
                dsimp only
                go_simp
                have h := HK.out _ _ (Below.refl _ _) rfl
                simp only [upd, Nat.reduceEqDiff, reduceIte, e14, e24] at h
                exact h
              | 26, ho =>
                obtain rfl := Option.some.inj ho
                intro vs W K hB hD hK
                have HK := Lib.hid hK
                have e25 : vs 25 = .bool true := dep_of hD 25 (by rfl)
                clear hK hD ho
                dsimp only
                go_simp
                have h := HK.out _ _ (Below.refl _ _) rfl
                simp only [upd, Nat.reduceEqDiff, reduceIte, e25] at h
                exact h
              | n + 27, ho => simp at ho
            case finD =>
              intro vs W3 hB hall
              have e : vs 26 = .bool true := hall 26 (by decide)
              have hF := HBd.out.trans (((Below.drew (Below.refl _ _)).trans hB).mono HBd.out.size)
              clear hall hB
              rw [e]
              clear e
              generalize vs 0 = q0
              generalize vs 1 = q1
              generalize vs 2 = q2
              generalize vs 3 = q3
              generalize vs 4 = q4
              generalize vs 5 = q5
              generalize vs 6 = q6
              generalize vs 7 = q7
              generalize vs 8 = q8
              generalize vs 9 = q9
              generalize vs 10 = q10
              generalize vs 11 = q11
              generalize vs 12 = q12
              generalize vs 13 = q13
              generalize vs 14 = q14
              generalize vs 15 = q15
              generalize vs 16 = q16
              generalize vs 17 = q17
              generalize vs 18 = q18
              generalize vs 19 = q19
              generalize vs 20 = q20
              generalize vs 21 = q21
              generalize vs 22 = q22
              generalize vs 23 = q23
              generalize vs 24 = q24
              generalize vs 25 = q25
              clear vs
              go_wp2
              go_ret
              exact ⟨ret_bool rfl, hF⟩
          · have hbi : ((bl.loop.length : Int) == 0) = false := beq_eq_false_iff_ne.2 (by omega)
            go_upto_region 9 with (fail)
            refine region_stable hmx (RPd a yl bl by2 g aa x3 x5 ca y3 y5) (fun vs => { tmps := (_ :: _ :: _ :: _ :: _ :: _ :: vs 26 :: _ :: _ :: _ :: _ :: _ :: _ :: _ :: _ :: _ :: _ :: _ :: _ :: _ :: _ :: _ :: _ :: _ :: _ :: _ :: _ :: _ :: _ :: _ :: _ :: _ :: _ :: _ :: _ :: _ :: _ :: _ :: _ :: _ :: _ :: _ :: _ :: _ :: _ :: _ :: _ :: _ :: _ :: _ :: _ :: _ :: _ :: _ :: _ :: _ :: _ :: _ :: _ :: _ :: _ :: vs 0 :: vs 1 :: vs 2 :: vs 3 :: vs 4 :: vs 5 :: vs 6 :: vs 7 :: vs 8 :: vs 9 :: vs 10 :: vs 11 :: vs 12 :: vs 13 :: vs 14 :: vs 15 :: vs 16 :: vs 17 :: vs 18 :: vs 19 :: vs 20 :: vs 21 :: vs 22 :: vs 23 :: vs 24 :: vs 25 :: []).toArray, defers := [] }) (fun n => [u61, u62, u63, u64, u65, u66, u67, u68, u69, u70, u71, u72, u73, u74, u75, u76, u77, u78, u79, u80, u81, u82, u83, u84, u85, u86, .bool false].getD n undef) rfl (by kernel_rfl) (RPd.mono a yl bl by2 g aa x3 x5 ca y3 y5) ?stepE ?finE
            case stepE =>
              intro ix o ho
              match ix, ho with
              | 0, ho =>
                obtain rfl := Option.some.inj ho
                intro vs W K hB hD hK
                have HK := Lib.hid hK
                clear hK hD ho
                dsimp only
                go_simp
                have h := HK.out _ _ (Below.refl _ _) rfl
                simp only [upd, Nat.reduceEqDiff, reduceIte] at h
                exact h
              | 1, ho =>
                obtain rfl := Option.some.inj ho
                intro vs W K hB hD hK
                have HK := Lib.hid hK
                have e0 : vs 0 = .bool true := dep_of hD 0 (by rfl)
                clear hK hD ho
                dsimp only
                go_simp
                have h := HK.out _ _ (Below.refl _ _) rfl
                simp only [upd, Nat.reduceEqDiff, reduceIte, e0] at h
                exact h
              | 2, ho =>
                obtain rfl := Option.some.inj ho
                intro vs W K hB hD hK
                have HK := Lib.hid hK
                have e1 : vs 1 = .bool true := dep_of hD 1 (by rfl)
                clear hK hD ho
                dsimp only
                go_simp
                have h := HK.out _ _ (Below.refl _ _) rfl
                simp only [upd, Nat.reduceEqDiff, reduceIte, e1] at h
                exact h
              | 3, ho =>
                obtain rfl := Option.some.inj ho
                intro vs W K hB hD hK
                have HK := Lib.hid hK
                have e1 : vs 1 = .bool true := dep_of hD 1 (by rfl)
                have e2 : vs 2 = .pointer (some ⟨by2, 1, none⟩) := dep_of hD 2 (by rfl)
                have hc := ((Below.drew (Below.refl _ _)).trans hB)
                have hld := (HYd.out W hc).2.1
                clear hK hD ho
                dsimp only
                go_simp
                have h := HK.out _ _ (Below.refl _ _) rfl
                simp only [upd, Nat.reduceEqDiff, reduceIte, e1, e2] at h
                exact h
              | 4, ho =>
                obtain rfl := Option.some.inj ho
                intro vs W K hB hD hK
                have HK := Lib.hid hK
                have e1 : vs 1 = .bool true := dep_of hD 1 (by rfl)
                have e3 : vs 3 = .slice x3 yl.loop.length y3 := dep_of hD 3 (by rfl)
                clear hK hD ho
                dsimp only
                go_simp
                have h := HK.out _ _ (Below.refl _ _) rfl
                simp only [upd, Nat.reduceEqDiff, reduceIte, e1, e3] at h
                exact h
              | 5, ho =>
                obtain rfl := Option.some.inj ho
                intro vs W K hB hD hK
                have HK := Lib.hid hK
                have e1 : vs 1 = .bool true := dep_of hD 1 (by rfl)
                have e4 : vs 4 = .int .i64 (yl.loop.length : Int) := dep_of hD 4 (by rfl)
                clear hK hD ho
                dsimp only
                go_simp
                have h := HK.out _ _ (Below.refl _ _) rfl
                simp only [upd, Nat.reduceEqDiff, reduceIte, e1, e4] at h
                exact h
              | 6, ho =>
                obtain rfl := Option.some.inj ho
                intro vs W K hB hD hK
                have HK := Lib.hid hK
                have e1 : vs 1 = .bool true := dep_of hD 1 (by rfl)
                have e5 : vs 5 = .bool false := dep_of hD 5 (by rfl)
                clear hK hD ho
                dsimp only
                go_simp
                have h := HK.out _ _ (Below.refl _ _) rfl
                simp only [upd, Nat.reduceEqDiff, reduceIte, e1, e5] at h
                exact h
              | 7, ho =>
                obtain rfl := Option.some.inj ho
                intro vs W K hB hD hK
                have HK := Lib.hid hK
                have e6 : vs 6 = .bool false := dep_of hD 6 (by rfl)
                clear hK hD ho
                dsimp only
                go_simp
                have h := HK.out _ _ (Below.refl _ _) rfl
                simp only [upd, Nat.reduceEqDiff, reduceIte, e6] at h
                exact h
              | 8, ho =>
                obtain rfl := Option.some.inj ho
                intro vs W K hB hD hK
                have HK := Lib.hid hK
                have e6 : vs 6 = .bool false := dep_of hD 6 (by rfl)
                have hc := ((Below.drew (Below.refl _ _)).trans hB)
                obtain ⟨k0, k1, hld⟩ := HYd.out W hc
                clear hK hD ho
                dsimp only
                go_simp
                have h := HK.out _ _ (Below.refl _ _) hld
                simp only [upd, Nat.reduceEqDiff, reduceIte, e6] at h
                exact h
              | 9, ho =>
                obtain rfl := Option.some.inj ho
                intro vs W K hB hD hK
                have HK := Lib.hid hK
                have e6 : vs 6 = .bool false := dep_of hD 6 (by rfl)
                have e7 : vs 7 = .slice aa a.length ca := dep_of hD 7 (by rfl)
                have d8 := dep_of hD 8 (by rfl)
                have hc := ((Below.drew (Below.refl _ _)).trans hB)
                clear hK hD ho
                dsimp only
                go_simp
                refine (hd_push W (HSad.out W hc) d8 (by omega) HE.out).mono ?_
                rintro e W' ⟨v, rfl, hv, hb⟩
                have h := HK.out _ _ hb hv
                simp only [upd, Nat.reduceEqDiff, reduceIte, e6, e7] at h
                exact h
              | 10, ho =>
                obtain rfl := Option.some.inj ho
                intro vs W K hB hD hK
                have HK := Lib.hid hK
                have e6 : vs 6 = .bool false := dep_of hD 6 (by rfl)
                have hc := ((Below.drew (Below.refl _ _)).trans hB)
                obtain ⟨k0, k1, hld⟩ := HBo.out W hc
                clear hK hD ho
                dsimp only
                go_simp
                have h := HK.out _ _ (Below.refl _ _) hld
                simp only [upd, Nat.reduceEqDiff, reduceIte, e6] at h
                exact h
              | 11, ho =>
                obtain rfl := Option.some.inj ho
                intro vs W K hB hD hK
                have HK := Lib.hid hK
                have e6 : vs 6 = .bool false := dep_of hD 6 (by rfl)
                have d9 := dep_of hD 9 (by rfl)
                have d10 := dep_of hD 10 (by rfl)
                clear hK hD ho
                dsimp only
                go_simp
                refine (hd_eq W d9 d10).mono ?_
                rintro e W' ⟨rfl, hb⟩
                have h := HK.out _ _ hb rfl
                simp only [upd, Nat.reduceEqDiff, reduceIte, e6] at h
                exact h
              | 12, ho =>
                obtain rfl := Option.some.inj ho
                intro vs W K hB hD hK
                have HK := Lib.hid hK
                have e1 : vs 1 = .bool true := dep_of hD 1 (by rfl)
                have e6 : vs 6 = .bool false := dep_of hD 6 (by rfl)
                have e11 : vs 11 = .bool true := dep_of hD 11 (by rfl)
                clear hK hD ho
                dsimp only
                go_simp
                have h := HK.out _ _ (Below.refl _ _) rfl
                simp only [upd, Nat.reduceEqDiff, reduceIte, e1, e6, e11] at h
                exact h
              | 13, ho =>
                obtain rfl := Option.some.inj ho
                intro vs W K hB hD hK
                have HK := Lib.hid hK
                have e1 : vs 1 = .bool true := dep_of hD 1 (by rfl)
                have e12 : vs 12 = .bool true := dep_of hD 12 (by rfl)
                clear hK hD ho
                dsimp only
                go_simp
                have h := HK.out _ _ (Below.refl _ _) rfl
                simp only [upd, Nat.reduceEqDiff, reduceIte, e1, e12] at h
                exact h
              | 14, ho =>
                obtain rfl := Option.some.inj ho
                intro vs W K hB hD hK
                have HK := Lib.hid hK
                have e13 : vs 13 = .bool true := dep_of hD 13 (by rfl)
                clear hK hD ho
                dsimp only
                go_simp
                have h := HK.out _ _ (Below.refl _ _) rfl
                simp only [upd, Nat.reduceEqDiff, reduceIte, e13] at h
                exact h
              | 15, ho =>
                obtain rfl := Option.some.inj ho
                intro vs W K hB hD hK
                have HK := Lib.hid hK
                have e14 : vs 14 = .bool true := dep_of hD 14 (by rfl)
                clear hK hD ho
                dsimp only
                go_simp
                have h := HK.out _ _ (Below.refl _ _) rfl
                simp only [upd, Nat.reduceEqDiff, reduceIte, e14] at h
                exact h
              | 16, ho =>
                obtain rfl := Option.some.inj ho
                intro vs W K hB hD hK
                have HK := Lib.hid hK
                have e14 : vs 14 = .bool true := dep_of hD 14 (by rfl)
                have e15 : vs 15 = .pointer (some ⟨g, 1, none⟩) := dep_of hD 15 (by rfl)
                have hc := ((Below.drew (Below.refl _ _)).trans hB)
                have hld := (HBo.out W hc).2.1
                clear hK hD ho
                dsimp only
                go_simp
                have h := HK.out _ _ (Below.refl _ _) rfl
                simp only [upd, Nat.reduceEqDiff, reduceIte, e14, e15] at h
                exact h
              | 17, ho =>
                obtain rfl := Option.some.inj ho
                intro vs W K hB hD hK
                have HK := Lib.hid hK
                have e14 : vs 14 = .bool true := dep_of hD 14 (by rfl)
                have e16 : vs 16 = .slice x5 bl.loop.length y5 := dep_of hD 16 (by rfl)
                clear hK hD ho
                dsimp only
                go_simp
                have h := HK.out _ _ (Below.refl _ _) rfl
                simp only [upd, Nat.reduceEqDiff, reduceIte, e14, e16] at h
                exact h
              | 18, ho =>
                obtain rfl := Option.some.inj ho
                intro vs W K hB hD hK
                have HK := Lib.hid hK
                have e14 : vs 14 = .bool true := dep_of hD 14 (by rfl)
                have e17 : vs 17 = .int .i64 (bl.loop.length : Int) := dep_of hD 17 (by rfl)
                clear hK hD ho
                dsimp only
                go_simp
                have h := HK.out _ _ (Below.refl _ _) rfl
                simp only [upd, Nat.reduceEqDiff, reduceIte, e14, e17] at h
                exact h
              | 19, ho =>
                obtain rfl := Option.some.inj ho
                intro vs W K hB hD hK
                have HK := Lib.hid hK
                have e14 : vs 14 = .bool true := dep_of hD 14 (by rfl)
                have e18 : vs 18 = .bool false := dep_of hD 18 (by rfl)
                clear hK hD ho
                dsimp only
                go_simp
                have h := HK.out _ _ (Below.refl _ _) rfl
                simp only [upd, Nat.reduceEqDiff, reduceIte, e14, e18] at h
                exact h
              | 20, ho =>
                obtain rfl := Option.some.inj ho
                intro vs W K hB hD hK
                have HK := Lib.hid hK
                have e19 : vs 19 = .bool false := dep_of hD 19 (by rfl)
                clear hK hD ho
                dsimp only
                go_simp
                have h := HK.out _ _ (Below.refl _ _) rfl
                simp only [upd, Nat.reduceEqDiff, reduceIte, e19] at h
                exact h
              | 21, ho =>
                obtain rfl := Option.some.inj ho
                intro vs W K hB hD hK
                have HK := Lib.hid hK
                have e19 : vs 19 = .bool false := dep_of hD 19 (by rfl)
                have e20 : vs 20 = .pointer (some ⟨by2, 1, none⟩) := dep_of hD 20 (by rfl)
                have hc := ((Below.drew (Below.refl _ _)).trans hB)
                have hld := (HYd.out W hc).2.1
                clear hK hD ho
                dsimp only
                go_simp
                have h := HK.out _ _ (Below.refl _ _) rfl
                simp only [upd, Nat.reduceEqDiff, reduceIte, e19, e20] at h
                exact h
              | 22, ho =>
                obtain rfl := Option.some.inj ho
                intro vs W K hB hD hK
                have HK := Lib.hid hK
                have e19 : vs 19 = .bool false := dep_of hD 19 (by rfl)
                have e21 : vs 21 = .slice x3 yl.loop.length y3 := dep_of hD 21 (by rfl)
                clear hK hD ho
                dsimp only
                go_simp
                have h := HK.out _ _ (Below.refl _ _) rfl
                simp only [upd, Nat.reduceEqDiff, reduceIte, e19, e21] at h
                exact h
              | 23, ho =>
                obtain rfl := Option.some.inj ho
                intro vs W K hB hD hK
                have HK := Lib.hid hK
                have e19 : vs 19 = .bool false := dep_of hD 19 (by rfl)
                have e22 : vs 22 = .int .i64 (yl.loop.length : Int) := dep_of hD 22 (by rfl)
                clear hK hD ho
                dsimp only
                go_simp
                have h := HK.out _ _ (Below.refl _ _) rfl
                simp only [upd, Nat.reduceEqDiff, reduceIte, e19, e22] at h
                exact h
              | 24, ho =>
                obtain rfl := Option.some.inj ho
                intro vs W K hB hD hK
                have HK := Lib.hid hK
                have e14 : vs 14 = .bool true := dep_of hD 14 (by rfl)
                have e19 : vs 19 = .bool false := dep_of hD 19 (by rfl)
                have e23 : vs 23 = .bool true := dep_of hD 23 (by rfl)
                clear hK hD ho
                dsimp only
                go_simp
                have h := HK.out _ _ (Below.refl _ _) rfl
                simp only [upd, Nat.reduceEqDiff, reduceIte, e14, e19, e23] at h
                exact h
              | 25, ho =>
                obtain rfl := Option.some.inj ho
                intro vs W K hB hD hK
                have HK := Lib.hid hK
                have e14 : vs 14 = .bool true := dep_of hD 14 (by rfl)
                have e24 : vs 24 = .bool true := dep_of hD 24 (by rfl)
                clear hK hD ho
                dsimp only
                go_simp
                have h := HK.out _ _ (Below.refl _ _) rfl
                simp only [upd, Nat.reduceEqDiff, reduceIte, e14, e24] at h
                exact h
              | 26, ho =>
                obtain rfl := Option.some.inj ho
                intro vs W K hB hD hK
                have HK := Lib.hid hK
                have e25 : vs 25 = .bool true := dep_of hD 25 (by rfl)
                clear hK hD ho
                dsimp only
                go_simp
                have h := HK.out _ _ (Below.refl _ _) rfl
                simp only [upd, Nat.reduceEqDiff, reduceIte, e25] at h
                exact h
              | n + 27, ho => simp at ho
            case finE =>
              intro vs W3 hB hall
              have e : vs 26 = .bool true := hall 26 (by decide)
              have hF := HBd.out.trans (((Below.drew (Below.refl _ _)).trans hB).mono HBd.out.size)
              clear hall hB
              rw [e]
              clear e
              generalize vs 0 = q0
              generalize vs 1 = q1
              generalize vs 2 = q2
              generalize vs 3 = q3
              generalize vs 4 = q4
              generalize vs 5 = q5
              generalize vs 6 = q6
              generalize vs 7 = q7
              generalize vs 8 = q8
              generalize vs 9 = q9
              generalize vs 10 = q10
              generalize vs 11 = q11
              generalize vs 12 = q12
              generalize vs 13 = q13
              generalize vs 14 = q14
              generalize vs 15 = q15
              generalize vs 16 = q16
              generalize vs 17 = q17
              generalize vs 18 = q18
              generalize vs 19 = q19
              generalize vs 20 = q20
              generalize vs 21 = q21
              generalize vs 22 = q22
              generalize vs 23 = q23
              generalize vs 24 = q24
              generalize vs 25 = q25
              clear vs
              go_wp2
              go_ret
              exact ⟨ret_bool rfl, hF⟩

end Go.Proofs.Ytgjpdnaeldpdeaa
