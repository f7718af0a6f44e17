/- What the reference's table of paths holds. -/
import Derived.Test.YtkbiopjinegckaaSt13
import Derived.Test.YtkbiopjinegckaaStCc
namespace Go.Proofs.Ytkbiopjinegckaa
open Go.RowKit

theorem info_bools : (Try.prog.info? 26).map (fun i => (i.zero, i.size, i.bytes)) = some (some (.slice none 0 0), 1, 24) := by kernel_rfl
theorem app_rowB {ops : Array Oper} {rest : List Oper} {o : Oper} {a : Act} {Q : Exit → Act → World → Prop} {w : World} (hgd : o.guard = none) (s x : Operand) (u : Value)
    (ho : o.op = .call { callee := .builtin .append, args := #[s, x], argTypes := #[63, 63] })
    (base : Nat) (v : Value) (n : Nat) (l : List Value) (hown : w.ownsRow base 26 1 v n l) (hs : a.eval s = v) (m : Nat) (hm : m = w.heap.size) (hx : a.eval x = .slice (some ⟨m, 0, none⟩) 1 1) (hu : u.oneCell' = true)
    (hn : n < 5864062014000) (hbase : base ≤ w.heap.size)
    (h : ∀ v' w', w'.ownsRow base 26 1 v' (n + 1) (l ++ [u]) → w.grownBy w' v.ownBlock → Moved w v v' → wpList Try.prog ops Q rest (a.put o.dst v') w') :
    wpList Try.prog ops Q (o :: rest) a (w.alloc (.cells #[u] 26)) :=
  wpList_app1 hgd s x _ _ 24 _ _ ho Try.underlying63 info_bools rfl base v n _ hs hown m hm hx hu (by omega) (by decide) hbase h

theorem OB.at' {w : World} {base g n cap : Nat} {l : List Bool} (h : OB w base (.slice (some ⟨g, 0, none⟩) n cap) l) (hn : n = l.length) (j : Nat) (hj : j < l.length) : w.cell? ⟨g, j, none⟩ = some (.bool l[j]) := by
  subst hn
  rw [World.ownsRow.cellAt h j (by omega)]; simp [hj]
theorem OB.fz {w : World} {base g n cap : Nat} {l : List Bool} (h : OB w base (.slice (some ⟨g, 0, none⟩) n cap) l) (hn : n = l.length) (j : Nat) : w.frozen? ⟨g, j, none⟩ = false := by
  subst hn
  exact World.ownsRow.frozenAt h j
def mrow (n : Nat) (f : Nat → Bool) : List Bool := (List.range n).map f
theorem mrow_len (n : Nat) (f : Nat → Bool) : (mrow n f).length = n := by simp [mrow]
theorem mrow_at (n : Nat) (f : Nat → Bool) (k : Nat) (h : k < n) : (mrow n f).getD k false = f k := by simp [mrow, List.getD, h]
theorem mrow_false (n : Nat) : mrow n (fun _ => false) = List.replicate n false := by
  apply List.ext_getElem (by simp [mrow])
  intro j h1 h2
  simp [mrow]
theorem mrow_set (n : Nat) (f : Nat → Bool) (j : Nat) (b : Bool) : (mrow n f).set j b = mrow n (fun c => if c = j then b else f c) := by
  apply List.ext_getElem (by simp [mrow])
  intro c h1 h2
  rw [List.getElem_set]
  simp only [mrow, List.getElem_map, List.getElem_range]
  by_cases e : j = c
  · subst e; simp
  · rw [if_neg e, if_neg (fun h => e h.symm)]
theorem mrow_congr {n : Nat} {f h : Nat → Bool} (e : ∀ j, j < n → f j = h j) : mrow n f = mrow n h := by
  apply List.ext_getElem (by simp [mrow])
  intro c h1 h2
  have : c < n := by simpa [mrow] using h1
  simp [mrow, e c this]
def rowA (G : Nat → Nat) (n i : Nat) : List Value := (List.range i).map fun j => .slice (some ⟨G j, 0, none⟩) n n
def upG (G : Nat → Nat) (i q : Nat) : Nat → Nat := fun j => if j = i then q else G j
theorem rowA_succ (G : Nat → Nat) (n i q : Nat) : rowA G n i ++ [.slice (some ⟨q, 0, none⟩) n n] = rowA (upG G i q) n (i + 1) := by
  unfold rowA
  rw [List.range_succ, List.map_append]
  congr 1
  · apply List.map_congr_left
    intro j hj
    have : j < i := List.mem_range.1 hj
    unfold upG
    rw [if_neg (by omega)]
  · simp [upG]
/-- The first i rows of a matrix, in blocks of the call's own. -/
structure MA (w : World) (B : Nat) (v : Value) (n i : Nat) (G : Nat → Nat) (M : Nat → Nat → Bool) : Prop where
  o : w.ownsRow B 26 1 v i (rowA G n i)
  e : ∀ j, j < i → OB w B (.slice (some ⟨G j, 0, none⟩) n n) (mrow n (M j))
  ne : ∀ j, j < i → v.ownBlock ≠ some (G j)
  inj : ∀ j k, j < i → k < i → G j = G k → j = k
section
variable {w w' : World} {B n i : Nat} {v v' : Value} {G : Nat → Nat} {M N : Nat → Nat → Bool}
theorem MA.congr (h : MA w B v n i G M) (e : ∀ a b, a < i → b < n → M a b = N a b) : MA w B v n i G N :=
  { h with e := fun j hj => mrow_congr (n := n) (f := M j) (h := N j) (fun b hb => e j b hj hb) ▸ h.e j hj }
theorem MA.below (h : MA w B v n i G M) (hb : Below w.heap.size w w') : MA w' B v n i G M :=
  { h with o := ownsRow_only h.o (S := fun _ => False) ⟨hb.os, hb.tape, hb.output, hb.size, fun k hk _ => hb.block k hk⟩ (fun _ _ => id), e := fun j hj => (h.e j hj).below hb }
theorem MA.row (h : MA w B v n i G M) {j : Nat} (hj : j < i) : ∃ g cap, v = .slice (some ⟨g, 0, none⟩) i cap ∧ w.cell? ⟨g, j, none⟩ = some (.slice (some ⟨G j, 0, none⟩) n n) := by
  rcases h.o.2 with ⟨_, h0⟩ | ⟨g, cap, cur, hv, _⟩
  · omega
  · subst hv
    refine ⟨g, cap, rfl, ?_⟩
    rw [World.ownsRow.cellAt h.o j (by omega)]
    simp [rowA, hj]
theorem MA.at (h : MA w B v n i G M) {j k : Nat} (hj : j < i) (hk : k < n) : w.cell? ⟨G j, k, none⟩ = some (.bool (M j k)) := by
  have hl : k < (mrow n (M j)).length := by rw [mrow_len]; exact hk
  have h1 := (h.e j hj).at' (mrow_len _ _).symm k hl
  rw [h1, ← getD_lt _ false _ hl, mrow_at _ _ _ hk]
theorem MA.fz (h : MA w B v n i G M) {j : Nat} (hj : j < i) (k : Nat) : w.frozen? ⟨G j, k, none⟩ = false := (h.e j hj).fz (mrow_len _ _).symm k
theorem MA.ge (h : MA w B v n i G M) {j : Nat} (hj : j < i) : B ≤ G j := (h.e j hj).ge _ rfl
theorem MA.set (h : MA w B v n i G M) {j k : Nat} (hj : j < i) (b : Bool) : MA (w.setCell ⟨G j, k, none⟩ (.bool b)) B v n i G (fun a c => if a = j ∧ c = k then b else M a c) where
  o := ownsRow_only h.o (S := fun q => q = G j) ((Only.set (G j) k _ rfl)) (fun q hq e => h.ne j hj (by rw [← e]; exact hq))
  e := fun a ha => by
    by_cases e : a = j
    · subst e
      have := (h.e a ha).set (mrow_len _ _).symm k b
      rw [mrow_set] at this
      refine (mrow_congr fun c _ => ?_) ▸ this
      by_cases e : c = k <;> simp [e]
    · have := (h.e a ha).only (S := fun q => q = G j) (Only.set (G j) k (.bool b) rfl) (fun q hq hs => e (h.inj a j ha hj (by
        have : G a = q := by simpa [Value.ownBlock] using hq
        omega)))
      refine (mrow_congr fun c _ => ?_) ▸ this
      simp [e]
  ne := h.ne
  inj := h.inj
theorem MA.push {q : Nat} (h : MA w B v n i G M) (ho : w'.ownsRow B 26 1 v' (i + 1) (rowA G n i ++ [.slice (some ⟨q, 0, none⟩) n n])) (hg : w.grownBy w' v.ownBlock) (hm : Moved w v v') (hq : OB w B (.slice (some ⟨q, 0, none⟩) n n) (mrow n (M i))) (hvq : v.ownBlock ≠ some q) (hqG : ∀ j, j < i → G j ≠ q) :
    MA w' B v' n (i + 1) (upG G i q) M := by
  have heq : ∀ j, j < i → upG G i q j = G j := fun j hj => if_neg (by omega)
  have hi : upG G i q i = q := if_pos rfl
  refine ⟨by rw [← rowA_succ]; exact ho, fun j hj => ?_, fun j hj => ?_, fun j k hj hk he => ?_⟩
  · rcases (by omega : j < i ∨ i = j) with hlt | rfl
    · rw [heq j hlt]
      exact (h.e j hlt).grown hg (.inr fun e => h.ne j hlt (by rw [← e]; rfl))
    · rw [hi]
      exact hq.grown hg (.inr fun e => hvq (by rw [← e]; rfl))
  · rcases (by omega : j < i ∨ i = j) with hlt | rfl
    · rw [heq j hlt]
      intro e
      rcases hm _ e with k | k
      · exact h.ne j hlt k
      · have : G j < w.heap.size := (h.e j hlt).lt' _ rfl
        omega
    · rw [hi]
      intro e
      rcases hm _ e with k | k
      · exact hvq k
      · have : q < w.heap.size := hq.lt' _ rfl
        omega
  · rcases (by omega : j < i ∨ i = j) with hj' | rfl <;> rcases (by omega : k < i ∨ i = k) with hk' | rfl
    · rw [heq j hj', heq k hk'] at he; exact h.inj j k hj' hk' he
    · rw [heq j hj', hi] at he; exact absurd he (hqG j hj')
    · rw [heq k hk', hi] at he; exact absurd he.symm (hqG k hk')
    · rfl
end
/-- The matrix within round k of the table. -/
def stM (e : Nat → Nat → Bool) (k i j a b : Nat) : Bool := if a < i ∨ (a = i ∧ b < j) then WK e (k + 1) a b else WK e k a b
theorem stM_row {e : Nat → Nat → Bool} {k i j : Nat} : stM e k i j i k = WK e k i k := by
  unfold stM
  split
  · show (WK e k i k || (WK e k i k && WK e k k k)) = _
    cases WK e k i k <;> simp
  · rfl
theorem stM_col {e : Nat → Nat → Bool} {k i j b : Nat} : stM e k i j k b = WK e k k b := by
  unfold stM
  split
  · show (WK e k k b || (WK e k k k && WK e k k b)) = _
    cases WK e k k b <;> simp
  · rfl
theorem stM_step {e : Nat → Nat → Bool} {k i j : Nat} (a b : Nat) : stM e k i (j + 1) a b = if a = i ∧ b = j then (stM e k i j i j || (WK e k i k && WK e k k j)) else stM e k i j a b := by
  unfold stM
  by_cases h : a = i ∧ b = j
  · obtain ⟨rfl, rfl⟩ := h
    rw [if_pos (by omega), if_pos ⟨rfl, rfl⟩, if_neg (by omega)]
    rfl
  · rw [if_neg h]
    by_cases h2 : a < i ∨ (a = i ∧ b < j)
    · rw [if_pos (by omega), if_pos h2]
    · rw [if_neg (by omega), if_neg h2]
theorem stM_next {e : Nat → Nat → Bool} {k i n a b : Nat} (hb : b < n) : stM e k i n a b = stM e k (i + 1) 0 a b := by
  unfold stM
  by_cases h : a < i + 1
  · rw [if_pos (by omega), if_pos (by omega)]
  · rw [if_neg (by omega), if_neg (by omega)]
theorem stM_end {e : Nat → Nat → Bool} {k n a b : Nat} (ha : a < n) : stM e k n 0 a b = stM e (k + 1) 0 0 a b := by
  unfold stM
  rw [if_pos (by omega), if_neg (by omega)]
theorem stM_start {e : Nat → Nat → Bool} (a b : Nat) : stM e 0 0 0 a b = e a b := by
  unfold stM
  rw [if_neg (by omega)]; rfl
/-- A move, but for its place in the row. -/
def movP (g : Gm) (p : Int) (set : List Bool) (s : List Int) (q : Int) (i j : Nat) : Bool :=
  set.getD i false && decide (q ≤ g.prio.getD i 0) && decide (q ≤ g.prio.getD j 0) && (g.owner.getD i 0 != p || s.getD i 0 == (j : Int))
def movK (g : Gm) (p : Int) (set : List Bool) (s : List Int) (q : Int) (i k j : Nat) : Bool := movP g p set s q i j && decide ((j : Int) ∈ (g.succ.getD i []).take k)
theorem movK_all (g : Gm) (p : Int) (set : List Bool) (s : List Int) (q : Int) (i j : Nat) : movK g p set s q i (g.succ.getD i []).length j = movB g p set s q i j := by
  unfold movK movB movP; rw [List.take_length]
theorem movK_zero (g : Gm) (p : Int) (set : List Bool) (s : List Int) (q : Int) (i j : Nat) : movK g p set s q i 0 j = false := by
  unfold movK; simp
theorem movK_step {g : Gm} {p : Int} {set : List Bool} {s : List Int} {q : Int} {i k t : Nat} (hk : k < (g.succ.getD i []).length) (ht : (g.succ.getD i []).getD k 0 = (t : Int)) (j : Nat) :
    movK g p set s q i (k + 1) j = if j = t ∧ movP g p set s q i t = true then true else movK g p set s q i k j := by
  have hT : (g.succ.getD i []).take (k + 1) = (g.succ.getD i []).take k ++ [(t : Int)] := by rw [List.take_succ_eq_append_getElem hk, ← getD_lt _ 0 _ hk, ht]
  unfold movK
  rw [hT]
  by_cases h : j = t
  · subst h
    cases hp : movP g p set s q i j
    · simp
    · simp
  · rw [if_neg (fun e => h e.1)]
    congr 1
    have : (j : Int) ≠ (t : Int) := by omega
    simp [this]

theorem ownsRow_at1 {w : World} {b e sz n c : Nat} {a : Option Addr} {l : List Value} (h : w.ownsRow b e sz (.slice a n c) n l) : ∃ g, 0 < n → a = some ⟨g, 0, none⟩ := by
  rcases h.2 with ⟨_, h0⟩ | ⟨g, cap, cur, hv, _⟩
  · exact ⟨0, fun h => absurd h (by omega)⟩
  · injection hv with h1 h2 h3
    exact ⟨g, fun _ => h1⟩
theorem ownsRow_shape {w : World} {b e sz n : Nat} {v : Value} {l : List Value} (h : w.ownsRow b e sz v n l) : ∃ a c, v = .slice a n c := by
  rcases h.2 with ⟨hv, h0⟩ | ⟨g, cap, cur, hv, _⟩
  · exact ⟨none, 0, by rw [hv, h0]⟩
  · exact ⟨_, cap, hv⟩
theorem MA.rowc {w : World} {B n i g c : Nat} {G : Nat → Nat} {M : Nat → Nat → Bool} (h : MA w B (.slice (some ⟨g, 0, none⟩) i c) n i G M) {j : Nat} (hj : j < i) : w.cell? ⟨g, j, none⟩ = some (.slice (some ⟨G j, 0, none⟩) n n) := by
  rw [World.ownsRow.cellAt h.o j (by omega)]
  simp [rowA, hj]
def PathsOut (w : World) (g : Gm) (p : Int) (set : List Bool) (s : List Int) (q : Int) (e : Ending) (w' : World) : Prop :=
  ∃ (v : Value) (G : Nat → Nat), e = .returned v ∧ MA w' (w.heap.size + 1) v g.owner.length g.owner.length G (WK (movB g p set s q) g.owner.length) ∧ Below w.heap.size w w'

set_option maxRecDepth 100000 in
set_option maxHeartbeats 8000000 in
theorem paths_c (w : World) (vg vs vt : Value) (g : Gm) (p : Int) (set : List Bool) (s : List Int) (q : Int) (hg : IsGame w vg g) (hs : IsBools w vs set) (ht : IsInts w vt s) (hst : stB g p set s = true) :
    Calls Try.prog 38 #[vg, .int .i64 p, vs, vt, .int .i64 q] w (PathsOut w g p set s q) := by
  obtain ⟨hp, hvg, l1, l2, -⟩ := keeps_at hst
  obtain ⟨lo, lp, ls⟩ := valid_lens hvg
  obtain ⟨v0, v1, v2, rfl, i0, i1, i2⟩ := hg
  obtain ⟨a0, c0, rfl⟩ := i0.shape
  obtain ⟨a1, c1, rfl⟩ := i1.shape
  obtain ⟨aS, cS, rfl⟩ := hs.shape
  obtain ⟨aT, cT, rfl⟩ := ht.shape
  obtain ⟨a2, c2, b2, o2, V, hv2, hd2, m2, dd2⟩ := i2.data
  subst hv2
  obtain ⟨b0, o0, hd0, m0, dd0⟩ := i0.data
  obtain ⟨b1, o1, hd1, m1, dd1⟩ := i1.data
  obtain ⟨bS, oS, hdS, mS, ddS⟩ := hs.data
  obtain ⟨bT, oT, hdT, mT, ddT⟩ := ht.data
  have HVal : Hid (∀ i, i < g.owner.length → ∀ x ∈ g.succ.getD i [], 0 ≤ x ∧ x < g.owner.length) := fun i hi => (valid_at hvg i hi).2.2.2
  obtain ⟨n, hn⟩ : ∃ n, n = g.owner.length := ⟨_, rfl⟩
  unfold PathsOut
  rw [← hn] at l1 l2 lo lp ls hd0 dd0 HVal ⊢
  rw [lp] at hd1 dd1 ⊢
  rw [ls] at hd2 dd2 ⊢
  rw [l1] at hdS ddS ⊢
  rw [l2] at hdT ddT ⊢
  have hn3 : n ≤ 3000 := lo
  have H0 : Hid (∀ j, j < n → ∀ W, Below w.heap.size w W → W.cell? ⟨b0, o0 + j, none⟩ = some (.int .i64 (g.owner.getD j 0))) := fun j hj W hW => cellB hW (dd0 j hj)
  have H1 : Hid (∀ j, j < n → ∀ W, Below w.heap.size w W → W.cell? ⟨b1, o1 + j, none⟩ = some (.int .i64 (g.prio.getD j 0))) := fun j hj W hW => cellB hW (dd1 j hj)
  have H2 : Hid (∀ j, j < n → ∀ W, Below w.heap.size w W → W.cell? ⟨b2, o2 + j, none⟩ = some (V j) ∧ IsInts W (V j) (g.succ.getD j [])) := fun j hj W hW => ⟨cellB hW (dd2 j hj).1, (dd2 j hj).2.below hW⟩
  have HS : Hid (∀ j, j < n → ∀ W, Below w.heap.size w W → W.cell? ⟨bS, oS + j, none⟩ = some (.bool (set.getD j false))) := fun j hj W hW => cellB hW (ddS j hj)
  have HT : Hid (∀ j, j < n → ∀ W, Below w.heap.size w W → W.cell? ⟨bT, oT + j, none⟩ = some (.int .i64 (s.getD j 0))) := fun j hj W hW => cellB hW (ddT j hj)
  have HAD : Hid (0 < n → a0 = some ⟨b0, o0, none⟩ ∧ a1 = some ⟨b1, o1, none⟩ ∧ a2 = some ⟨b2, o2, none⟩ ∧ aS = some ⟨bS, oS, none⟩ ∧ aT = some ⟨bT, oT, none⟩) := fun h => ⟨hd0 h, hd1 h, hd2 h, hdS h, hdT h⟩
  have HN := Lib.hid hn
  clear hst hp hvg l1 l2 lo lp ls i0 i1 i2 hs ht dd0 dd1 dd2 ddS ddT hd0 hd1 hd2 hdS hdT m0 m1 m2 mS mT hn
  have HBx : Hid (Boxed w ((w.alloc (.cells #[.slice a0 n c0, .slice a1 n c1, .slice a2 n c2] 25)).alloc (.cells #[] 26)) #[.slice a0 n c0, .slice a1 n c1, .slice a2 n c2]) := ⟨(by repeat (first | exact Below.refl _ _ | assumption | (refine belA ?_ _) | (refine belD ?_ _))), (by (repeat (rw [alloc_get]; first | rw [if_pos (by first | (simp; done) | (simp; omega))] | rw [if_neg (by first | (simp; done) | (simp; omega))])); (try rfl))⟩
  have HMA : Hid (MA ((w.alloc (.cells #[.slice a0 n c0, .slice a1 n c1, .slice a2 n c2] 25)).alloc (.cells #[] 26)) (w.heap.size + 1) (.slice (some ⟨w.heap.size + 1, 0, none⟩) 0 0) n 0 (fun _ => 0) (movB g p set s q)) := by
    refine ⟨?_, fun j hj => absurd hj (by omega), fun j hj => absurd hj (by omega), fun j k hj => absurd hj (by omega)⟩
    have := World.ownsRow_made (e := 26) (size := 1) (w.alloc (.cells #[.slice a0 n c0, .slice a1 n c1, .slice a2 n c2] 25)) #[] 0 (Nat.le_refl _) (by simp [maxLen]) rfl
    simpa [rowA] using this
  have hz : w.heap.size + 1 ≤ ((w.alloc (.cells #[.slice a0 n c0, .slice a1 n c1, .slice a2 n c2] 25)).alloc (.cells #[] 26)).heap.size := by simp
  go_enter Try.func38, Try.ntmps38
  go_wp2
  generalize ((w.alloc (.cells #[.slice a0 n c0, .slice a1 n c1, .slice a2 n c2] 25)).alloc (.cells #[] 26)) = w1 at *
  go_loopg [12, 13, 14, 15, 16] n (fun gh vo i _ _ _ wr => ∃ (k : Nat) (G : Nat → Nat), gh = n - k ∧ i = .int .i64 k ∧ k ≤ n ∧ w.heap.size + 1 ≤ wr.heap.size ∧ Hid (Boxed w wr #[.slice a0 n c0, .slice a1 n c1, .slice a2 n c2]) ∧ Hid (MA wr (w.heap.size + 1) vo n k G (movB g p set s q)))
  case atStart => exact ⟨0, _, rfl, rfl, by omega, hz, HBx, HMA⟩
  case round =>
    clear HBx HMA hz
    obtain ⟨k, G, hgk, rfl, hk, hz, HBx, HMA⟩ := hrel
    have HGK := Lib.hid hgk
    clear hgk
    obtain ⟨wo, rfl⟩ : ∃ wo : World, wo = wr := ⟨_, rfl⟩
    have d0 := HBx.out.cell 0 rfl
    have d1 := HBx.out.cell 1 rfl
    have d2 := HBx.out.cell 2 rfl
    by_cases hlt : k < n
    · obtain ⟨rfl, rfl, rfl, rfl, rfl⟩ := HAD.out (by omega)
      obtain ⟨e2, i2⟩ := H2.out k hlt wo HBx.out.bl
      obtain ⟨aV, cV, hVv⟩ := i2.shape
      rw [hVv] at e2
      have hrl0 : (g.succ.getD k []).length ≤ 140737488351232 := by
        rw [hVv] at i2
        obtain ⟨_, _, _, h, _⟩ := i2.dat
        exact h
      have HVV := Lib.hid hVv
      clear hVv i2
      obtain ⟨row, hrow⟩ : ∃ row, row = g.succ.getD k [] := ⟨_, rfl⟩
      have HRow := Lib.hid hrow
      rw [← hrow] at e2 hrl0
      clear hrow
      have hnI : (n : Int) = (n : Int) := rfl
      go_wp2_with (at_make; refine mk_bool rfl _ _ _ Try.underlying26 rfl (w.heap.size + 1) _ n rfl rfl rfl (by omega) hz ?_; intro w5 hown hg1; have HO5 := Lib.hid hown; have HB5 : Hid (Below wo.heap.size wo w5) := (Below.refl _ _).grown hg1 (Nat.le_refl _) (fun k hk => by cases hk); have d2n := cellB HB5.out d2; have e2n := cellB HB5.out e2; clear hown hg1)
      have HOK0 : Hid (OB w5 (w.heap.size + 1) (.slice (some ⟨wo.heap.size, 0, none⟩) n n) (mrow n (movK g p set s q k 0))) := by
        show OB _ _ _ _
        rw [mrow_congr (h := fun _ => false) (fun j _ => movK_zero g p set s q k j), mrow_false]
        exact HO5.out
      clear d2n e2n HO5 hnI
      go_loopg [15, 16] row.length (fun gh i _ wi => ∃ kk : Nat, gh = row.length - kk ∧ i = .int .i64 kk ∧ kk ≤ row.length ∧ Hid (Below wo.heap.size wo wi) ∧ Hid (OB wi (w.heap.size + 1) (.slice (some ⟨wo.heap.size, 0, none⟩) n n) (mrow n (movK g p set s q k kk))))
      case atStart => exact ⟨0, rfl, rfl, by omega, HB5, HOK0⟩
      case round =>
        clear HOK0 HB5
        obtain ⟨kk, hgk2, rfl, hkk, HBi, HOk⟩ := hrel
        have HGK2 := Lib.hid hgk2
        clear hgk2
        have HBW : Hid (Below w.heap.size w wr) := HBx.out.bl.trans (HBi.out.mono HBx.out.bl.size)
        have f2 := cellB HBi.out d2
        have e2n := cellB HBi.out e2
        by_cases hkl : kk < row.length
        · have i2 := (H2.out k hlt wr HBW.out).2
          rw [HVV.out, ← HRow.out] at i2
          obtain ⟨bV, oV, hvd, -, hvt⟩ := i2.dat
          obtain rfl := hvd (by omega)
          have ev := hvt kk hkl
          have hmem : row.getD kk 0 ∈ row := by rw [getD_lt _ _ _ hkl]; exact List.getElem_mem hkl
          obtain ⟨t0, t1⟩ := HVal.out k hlt (row.getD kk 0) (by rw [← HRow.out]; exact hmem)
          have HTd : Hid (∀ t : Nat, row.getD kk 0 = (t : Int) → ∀ j, movK g p set s q k (kk + 1) j = if j = t ∧ movP g p set s q k t = true then true else movK g p set s q k kk j) := fun t ht j => movK_step (by rw [← HRow.out]; exact hkl) (by rw [← HRow.out]; exact ht) j
          generalize row.getD kk 0 = ti at *
          obtain ⟨t, rfl⟩ := Int.eq_ofNat_of_zero_le t0
          have htn : t < n := by omega
          have htI : (t : Int) < n := by omega
          have HTS := Lib.hid (HTd.out t rfl)
          have f1 := cellB HBi.out d1
          have f0 := cellB HBi.out d0
          have g0 := H0.out k hlt wr HBW.out
          have g1 := H1.out k hlt wr HBW.out
          have g1t := H1.out t htn wr HBW.out
          have gs := HS.out k hlt wr HBW.out
          have gt := HT.out k hlt wr HBW.out
          have HMP : Hid (movP g p set s q k t = (set.getD k false && decide (q ≤ g.prio.getD k 0) && decide (q ≤ g.prio.getD t 0) && (g.owner.getD k 0 != p || s.getD k 0 == (t : Int)))) := rfl
          have HNo : Hid (movP g p set s q k t = false → OB wr (w.heap.size + 1) (.slice (some ⟨wo.heap.size, 0, none⟩) n n) (mrow n (movK g p set s q k (kk + 1)))) := fun h => by
            rw [mrow_congr (h := movK g p set s q k kk) (fun j _ => by rw [HTS.out j, if_neg (by rw [h]; simp)])]
            exact HOk.out
          have hbl : wo.heap.size < wr.heap.size := HOk.out.lt' _ rfl
          obtain ⟨tc, htc⟩ : ∃ x, wr.cell? ⟨wo.heap.size, t, none⟩ = some (.bool x) := ⟨_, HOk.out.at' (mrow_len _ _).symm t (by rw [mrow_len]; exact htn)⟩
          have htf := HOk.out.fz (mrow_len _ _).symm t
          have HYes : Hid (movP g p set s q k t = true → OB (wr.setCell ⟨wo.heap.size, t, none⟩ (.bool true)) (w.heap.size + 1) (.slice (some ⟨wo.heap.size, 0, none⟩) n n) (mrow n (movK g p set s q k (kk + 1)))) := fun h => by
            have := HOk.out.set (mrow_len _ _).symm t true
            rw [mrow_set] at this
            rw [mrow_congr (h := fun c => if c = t then true else movK g p set s q k kk c) (fun j _ => by rw [HTS.out j, h]; by_cases e : j = t <;> simp [e])]
            exact this
          have HBn : Hid (Below wo.heap.size wo (wr.setCell ⟨wo.heap.size, t, none⟩ (.bool true))) := HBi.out.setCell (Nat.le_refl _) _
          clear hvd hvt hmem t0 t1 i2 HTd
          generalize set.getD k false = b1' at *
          generalize g.prio.getD k 0 = pk at *
          generalize g.prio.getD t 0 = pt at *
          generalize g.owner.getD k 0 = ok at *
          generalize s.getD k 0 = sk at *
          have hqI1 : q ≤ pk ∨ ¬ q ≤ pk := by omega
          cases b1'
          · have HO2 := Lib.hid (HNo.out (by rw [HMP.out]; simp))
            go_wp2
            go_roundg (row.length - (kk + 1))
            case measure => have := HGK2.out; omega
            case rel => exact ⟨kk + 1, rfl, by go_num, by omega, HBi, HO2⟩
          · cases b2 : decide (q ≤ pk)
            · have HO2 := Lib.hid (HNo.out (by rw [HMP.out, b2]; simp))
              go_wp2
              go_roundg (row.length - (kk + 1))
              case measure => have := HGK2.out; omega
              case rel => exact ⟨kk + 1, rfl, by go_num, by omega, HBi, HO2⟩
            · cases b3 : decide (q ≤ pt)
              · have HO2 := Lib.hid (HNo.out (by rw [HMP.out, b3]; simp))
                go_wp2
                go_roundg (row.length - (kk + 1))
                case measure => have := HGK2.out; omega
                case rel => exact ⟨kk + 1, rfl, by go_num, by omega, HBi, HO2⟩
              · cases b4 : (ok != p)
                · cases b5 : (sk == (t : Int))
                  · have HO2 := Lib.hid (HNo.out (by rw [HMP.out, b4, b5]; simp))
                    go_wp2
                    go_roundg (row.length - (kk + 1))
                    case measure => have := HGK2.out; omega
                    case rel => exact ⟨kk + 1, rfl, by go_num, by omega, HBi, HO2⟩
                  · have HO2 := Lib.hid (HYes.out (by rw [HMP.out, b2, b3, b5]; simp))
                    go_wp2
                    go_roundg (row.length - (kk + 1))
                    case measure => have := HGK2.out; omega
                    case rel => exact ⟨kk + 1, rfl, by go_num, by omega, HBn, HO2⟩
                · have HO2 := Lib.hid (HYes.out (by rw [HMP.out, b2, b3, b4]; simp))
                  go_wp2
                  go_roundg (row.length - (kk + 1))
                  case measure => have := HGK2.out; omega
                  case rel => exact ⟨kk + 1, rfl, by go_num, by omega, HBn, HO2⟩
        · obtain rfl : kk = row.length := by omega
          have HOr : Hid (OB wr (w.heap.size + 1) (.slice (some ⟨wo.heap.size, 0, none⟩) n n) (mrow n (movB g p set s q k))) := by
            show OB _ _ _ _
            rw [mrow_congr (h := movK g p set s q k row.length) (fun j _ => by rw [HRow.out, movK_all])]
            exact HOk.out
          have HM2 := Lib.hid (HMA.out.below HBi.out)
          have hz2 : w.heap.size + 1 ≤ wr.heap.size := Nat.le_trans hz HBi.out.size
          have HVQ : Hid (u12.ownBlock ≠ some wo.heap.size) := fun e => by have := (World.ownsRow.lt HMA.out.o _ e).2; omega
          have HGQ : Hid (∀ j, j < k → G j ≠ wo.heap.size) := fun j hj e => by have : G j < wo.heap.size := (HMA.out.e j hj).lt' _ rfl; omega
          have HBxr := Lib.hid (HBx.out.step HBi.out)
          clear d0 d1 d2 e2
          go_wp2_with (at_builtin; refine app_rowB rfl _ _ (.slice (some ⟨wo.heap.size, 0, none⟩) n n) rfl (w.heap.size + 1) _ _ _ HM2.out.o rfl _ (by simp) rfl rfl (by omega) hz2 ?_; intro v' w' hown' hg hmv; have HM3 := Lib.hid (HM2.out.push hown' hg hmv HOr.out HVQ.out HGQ.out); have HBx3 := Lib.hid (HBxr.out.grown hg (fun g h => HM2.out.o.2.elim (fun k => by rw [k.1] at h; cases h) (fun ⟨q, _, _, hv, hb, _⟩ => by rw [hv] at h; have : q = g := (by simpa [Value.ownBlock] using h); omega))); have hz3 := hg.size; clear hown' hg hmv)
          go_roundg (n - (k + 1))
          case measure => have := HGK.out; omega
          case rel => exact ⟨k + 1, _, rfl, by go_num, by omega, by omega, HBx3, HM3⟩
    · obtain rfl : k = n := by omega
      obtain ⟨aO, cO, rfl⟩ := ownsRow_shape HMA.out.o
      obtain ⟨gO, hgO⟩ := ownsRow_at1 HMA.out.o
      have HGO := Lib.hid hgO
      obtain ⟨e, hee⟩ : ∃ e, e = movB g p set s q := ⟨_, rfl⟩
      rw [← hee] at HMA
      have HEE := Lib.hid hee
      have HMA0 : Hid (MA wo (w.heap.size + 1) (.slice aO k cO) k k G (stM e 0 0 0)) := HMA.out.congr fun a b _ _ => (stM_start a b).symm
      have HBw : Hid (Below w.heap.size w wo) := HBx.out.bl
      clear HMA hgO d0 d1 d2 hee HBx hlt HGK H0 H1 H2 HS HT HAD HVal
      have hzz := hz
      clear hz
      go_wp2
      go_loopg [17, 18, 19] k (fun gh x _ _ wr => ∃ r : Nat, gh = k - r ∧ x = .int .i64 r ∧ r ≤ k ∧ Hid (Below w.heap.size w wr) ∧ Hid (MA wr (w.heap.size + 1) (.slice aO k cO) k k G (stM e r 0 0)))
      case atStart => exact ⟨0, rfl, rfl, by omega, HBw, HMA0⟩
      case round =>
        clear HMA0 HBw
        obtain ⟨r, hgr, rfl, hr, HBw, HMr⟩ := hrel
        have HGR := Lib.hid hgr
        clear hgr
        obtain ⟨w3, rfl⟩ : ∃ w3 : World, w3 = wr := ⟨_, rfl⟩
        by_cases hrl : r < k
        · obtain rfl := HGO.out (by omega)
          go_wp2
          go_loopg [18, 19] k (fun gh x _ wr => ∃ i : Nat, gh = k - i ∧ x = .int .i64 i ∧ i ≤ k ∧ Hid (Below w.heap.size w wr) ∧ Hid (MA wr (w.heap.size + 1) (.slice (some ⟨gO, 0, none⟩) k cO) k k G (stM e r i 0)))
          case atStart => exact ⟨0, rfl, rfl, by omega, HBw, HMr⟩
          case round =>
            clear HMr HBw
            obtain ⟨i, hgi, rfl, hi, HBw, HMr⟩ := hrel
            have HGI := Lib.hid hgi
            clear hgi
            obtain ⟨w4, rfl⟩ : ∃ w4 : World, w4 = wr := ⟨_, rfl⟩
            by_cases hil : i < k
            · go_wp2
              go_loopg [19] k (fun gh x wr => ∃ j : Nat, gh = k - j ∧ x = .int .i64 j ∧ j ≤ k ∧ Hid (Below w.heap.size w wr) ∧ Hid (MA wr (w.heap.size + 1) (.slice (some ⟨gO, 0, none⟩) k cO) k k G (stM e r i j)))
              case atStart => exact ⟨0, rfl, rfl, by omega, HBw, HMr⟩
              case round =>
                clear HMr HBw
                obtain ⟨j, hgj, rfl, hj, HBw, HMr⟩ := hrel
                have HGJ := Lib.hid hgj
                clear hgj
                by_cases hjl : j < k
                · have r1 := HMr.out.rowc hil
                  have r2 := HMr.out.rowc hrl
                  have m1 := HMr.out.at hil hrl
                  have m2 := HMr.out.at hrl hjl
                  have m3 := HMr.out.at hil hjl
                  have m4 := HMr.out.fz hil j
                  rw [stM_row] at m1
                  rw [stM_col] at m2
                  have hiI : (i : Int) < k := by omega
                  have hrI : (r : Int) < k := by omega
                  have hjI : (j : Int) < k := by omega
                  have HSt : Hid (∀ a b, stM e r i (j + 1) a b = if a = i ∧ b = j then (stM e r i j i j || (WK e r i r && WK e r r j)) else stM e r i j a b) := fun a b => stM_step a b
                  have HYes : Hid (WK e r i r = true → WK e r r j = true → MA (wr.setCell ⟨G i, j, none⟩ (.bool true)) (w.heap.size + 1) (.slice (some ⟨gO, 0, none⟩) k cO) k k G (stM e r i (j + 1))) := fun h1 h2 => (HMr.out.set hil true).congr fun a b _ _ => by
                    rw [HSt.out a b, h1, h2]; simp
                  have HNo : Hid ((WK e r i r && WK e r r j) = false → MA wr (w.heap.size + 1) (.slice (some ⟨gO, 0, none⟩) k cO) k k G (stM e r i (j + 1))) := fun h => HMr.out.congr fun a b _ _ => by
                    rw [HSt.out a b, h, Bool.or_false]
                    by_cases e : a = i ∧ b = j
                    · rw [if_pos e, e.1, e.2]
                    · rw [if_neg e]
                  have HBn : Hid (Below w.heap.size w (wr.setCell ⟨G i, j, none⟩ (.bool true))) := HBw.out.setCell (by have := HMr.out.ge hil; show _ ≤ G i; omega) _
                  generalize stM e r i j i j = b3 at *
                  cases hb1 : WK e r i r
                  · rw [hb1] at m1
                    have HM2 := Lib.hid (HNo.out (by rw [hb1]; rfl))
                    clear hb1
                    go_wp2
                    go_roundg (k - (j + 1))
                    case measure => have := HGJ.out; omega
                    case rel => exact ⟨j + 1, rfl, by go_num, by omega, HBw, HM2⟩
                  · rw [hb1] at m1
                    cases hb2 : WK e r r j
                    · rw [hb2] at m2
                      have HM2 := Lib.hid (HNo.out (by rw [hb2]; simp))
                      clear hb1 hb2
                      go_wp2
                      go_roundg (k - (j + 1))
                      case measure => have := HGJ.out; omega
                      case rel => exact ⟨j + 1, rfl, by go_num, by omega, HBw, HM2⟩
                    · rw [hb2] at m2
                      have HM2 := Lib.hid (HYes.out hb1 hb2)
                      clear hb1 hb2
                      go_wp2
                      go_roundg (k - (j + 1))
                      case measure => have := HGJ.out; omega
                      case rel => exact ⟨j + 1, rfl, by go_num, by omega, HBn, HM2⟩
                · obtain rfl : j = k := by omega
                  have HM2 : Hid (MA wr (w.heap.size + 1) (.slice (some ⟨gO, 0, none⟩) j cO) j j G (stM e r (i + 1) 0)) := HMr.out.congr fun a b _ hb => stM_next hb
                  go_wp2
                  go_roundg (j - (i + 1))
                  case measure => have := HGI.out; omega
                  case rel => exact ⟨i + 1, rfl, by go_num, by omega, HBw, HM2⟩
            · obtain rfl : i = k := by omega
              have HM2 : Hid (MA w4 (w.heap.size + 1) (.slice (some ⟨gO, 0, none⟩) i cO) i i G (stM e (r + 1) 0 0)) := HMr.out.congr fun a b ha _ => stM_end ha
              go_wp2
              go_roundg (i - (r + 1))
              case measure => have := HGR.out; omega
              case rel => exact ⟨r + 1, rfl, by go_num, by omega, HBw, HM2⟩
        · obtain rfl : r = k := by omega
          have HFin : Hid (MA w3 (w.heap.size + 1) (.slice aO r cO) r r G (WK e r)) := HMr.out.congr fun a b _ _ => by
            unfold stM; rw [if_neg (by omega)]
          go_wp2
          go_ret
          exact ⟨_, G, rfl, HEE.out ▸ HFin.out, HBw.out⟩

end Go.Proofs.Ytkbiopjinegckaa
