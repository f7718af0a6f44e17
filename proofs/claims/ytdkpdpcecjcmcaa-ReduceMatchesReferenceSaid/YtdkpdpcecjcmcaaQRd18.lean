/- An automaton that is built by 'append', row after row, in a box. -/
import Derived.Test.YtdkpdpcecjcmcaaQRdCb
import Derived.Test.YtdkpdpcecjcmcaaQRd8
namespace Go.Proofs.Ytdkpdpcecjcmcaa
open Go.RowKit

theorem Only.chain {S T : Nat → Prop} {a b c : World} (h : Only S a b) (k : Only T b c) (hs : ∀ q, q < a.heap.size → T q → S q) : Only S a c :=
  ⟨k.os.trans h.os, k.tape.trans h.tape, k.output.trans h.output, Nat.le_trans h.size k.size, fun i hi hn => (k.block i (Nat.lt_of_lt_of_le hi h.size) fun e => hn (hs i hi e)).trans (h.block i hi hn)⟩

/-- 'append' of a row in a region that draws its order. -/
theorem wp_app_rowA {o : Oper} {a : Act} {K : Act → World → Prop} {Q : Exit → Act → World → Prop} (w : World) (s x : Operand) (u : Value)
    (ho : o.op = .call { callee := .builtin .append, args := #[s, x], argTypes := #[22, 22] })
    (base : Nat) (v : Value) (n : Nat) (l : List Value) (hs : a.eval s = v) (hown : w.ownsRow base 29 1 v n l) (hx : a.eval x = .slice (some ⟨w.heap.size, 0, none⟩) 1 1) (hu : u.oneCell' = true)
    (hn : n < 5864062014000) (hbase : base ≤ w.heap.size)
    (h : ∀ v' w', w'.ownsRow base 29 1 v' (n + 1) (l ++ [u]) → w.grownBy w' v.ownBlock → Moved w v v' → K (a.put o.dst v') w') :
    Oper.wp Try.prog o a (w.alloc (.cells #[u] 29)) K Q := by
  obtain ⟨i0, hi0, hz0, hz1, hz2⟩ := info_parts info_ints
  refine wp_append_lies _ s x _ ho base _ i0 _ 1 24 Try.underlying22 hi0 hz0 hz1 hz2 rfl (by decide) v n _ hs (hown.alloc _) ⟨w.heap.size, 0, none⟩ 1 1 [u] hx rfl (World.news_of_block (cs := #[u]) (t := 29) (fr := (0, 0)) (heap_alloc_new w _)) (by simpa using hu) (by omega) (by simp only [maxLen]; omega) (by omega) (by simp; omega) (w.heap.size + 1) (by simp) ?_
  intro g cap w' h1 h2 h3 h4
  refine h _ _ (by simpa using h1) ⟨h2.os, h2.tape, h2.output, by have := h2.size; simp at this; omega, fun k hk hr => ?_⟩ (fun k hk => ?_)
  · rw [h2.block k (by simp; omega) hr]; exact heap_alloc_old w _ hk
  · obtain rfl : g = k := by simpa [Value.ownBlock] using hk
    rcases h3 with e | e
    · exact .inl e
    · exact .inr (by omega)

/-- Rows that stay what they are as long as nothing but S is written. -/
structure KR (S : Nat → Prop) (W : World) (vals : List Value) (rows : List (List Int)) : Prop where
  ln : vals.length = rows.length
  at' : ∀ j, j < rows.length → ∀ W', Only S W W' → IsInts W' (vals.getD j undef) (rows.getD j [])
section
variable {S S1 : Nat → Prop} {W W1 : World} {vals : List Value} {rows : List (List Int)}
theorem KR.nil (S : Nat → Prop) (W : World) : KR S W [] [] := ⟨rfl, fun j h => absurd h (by simp)⟩
theorem KR.move (h : KR S W vals rows) (ho : Only S W W1) (hs : ∀ q, q < W.heap.size → S1 q → S q) : KR S1 W1 vals rows :=
  ⟨h.ln, fun j hj W' hW => h.at' j hj W' (ho.chain hW hs)⟩
theorem KR.add {y : Value} {row : List Int} (h : KR S W vals rows) (hy : ∀ W', Only S W W' → IsInts W' y row) : KR S W (vals ++ [y]) (rows ++ [row]) := by
  have hl := h.ln
  refine ⟨by simp [hl], fun j hj W' hW => ?_⟩
  by_cases e : j < rows.length
  · have h1 := h.at' j e W' hW
    rwa [show (vals ++ [y]).getD j undef = vals.getD j undef by simp [List.getD, List.getElem?_append_left (show j < vals.length by omega)], show (rows ++ [row]).getD j [] = rows.getD j [] by simp [List.getD, List.getElem?_append_left e]]
  · obtain rfl : j = rows.length := by simp at hj; omega
    rw [show (vals ++ [y]).getD rows.length undef = y by rw [← hl]; simp [List.getD], show (rows ++ [row]).getD rows.length [] = row by simp [List.getD]]
    exact hy W' hW
theorem KR.is {B : Nat} {v : Value} (h : KR S W vals rows) (ho : W.ownsRow B 29 1 v rows.length vals) (hn : rows.length ≤ 100000) : IsRows W v rows := by
  refine ⟨fun j => vals.getD j undef, ownsRow_arr ho (by unfold maxN; omega) _ fun j hj => ?_, fun j hj => h.at' j hj W (Only.refl _ _)⟩
  have : j < vals.length := by rw [h.ln]; exact hj
  rw [getD_lt _ _ _ this]; simp [this]
end

/-- What is written while an automaton is built. -/
def hotAB (z : Nat) (vN vP : Value) (X : Nat → Prop) (q : Nat) : Prop := q = z ∨ vN.ownBlock = some q ∨ vP.ownBlock = some q ∨ X q
/-- An automaton that is built in the box z; X: what else is written. -/
structure AB (W : World) (B z : Nat) (L st : Int) (vN vP : Value) (nv pv : List Value) (nx pr : List (List Int)) (X : Nat → Prop) : Prop where
  box : W.heap[z]? = some (.cells #[.int .i64 L, .int .i64 st, vN, vP] 24 (0, 0))
  zB : B ≤ z
  oN : W.ownsRow B 29 1 vN nx.length nv
  oP : W.ownsRow B 29 1 vP pr.length pv
  ap : (∀ q, vN.ownBlock = some q → vP.ownBlock ≠ some q) ∧ vN.ownBlock ≠ some z ∧ vP.ownBlock ≠ some z
  xz : ∀ q, X q → q < W.heap.size ∧ q ≠ z ∧ vN.ownBlock ≠ some q ∧ vP.ownBlock ≠ some q
  kN : KR (hotAB z vN vP X) W nv nx
  kP : KR (hotAB z vN vP X) W pv pr
section
variable {W W1 w' : World} {B z : Nat} {L st : Int} {vN vP v' y : Value} {nv pv : List Value} {nx pr : List (List Int)} {X X1 : Nat → Prop} {row : List Int}
theorem AB.zlt (h : AB W B z L st vN vP nv pv nx pr X) : z < W.heap.size := (Array.getElem?_eq_some_iff.1 h.box).1
theorem AB.Nlt (h : AB W B z L st vN vP nv pv nx pr X) : ∀ q, vN.ownBlock = some q → B ≤ q ∧ q < W.heap.size := fun q e => World.ownsRow.lt h.oN q e
theorem AB.Plt (h : AB W B z L st vN vP nv pv nx pr X) : ∀ q, vP.ownBlock = some q → B ≤ q ∧ q < W.heap.size := fun q e => World.ownsRow.lt h.oP q e
theorem AB.hlt (h : AB W B z L st vN vP nv pv nx pr X) : ∀ q, hotAB z vN vP X q → q < W.heap.size := by
  rintro q (e | e | e | e)
  · rw [e]; exact h.zlt
  · exact (h.Nlt q e).2
  · exact (h.Plt q e).2
  · exact (h.xz q e).1
/-- What else is written is written. -/
theorem AB.other (h : AB W B z L st vN vP nv pv nx pr X) (ho : Only X W W1) (hs : ∀ q, q < W.heap.size → X1 q → X q) (hx : ∀ q, X1 q → q < W1.heap.size) : AB W1 B z L st vN vP nv pv nx pr X1 := by
  have ho2 : Only (hotAB z vN vP X) W W1 := ho.mono fun q _ e => .inr (.inr (.inr e))
  have hs2 : ∀ q, q < W.heap.size → hotAB z vN vP X1 q → hotAB z vN vP X q := by
    rintro q hq (e | e | e | e)
    · exact .inl e
    · exact .inr (.inl e)
    · exact .inr (.inr (.inl e))
    · exact .inr (.inr (.inr (hs q hq e)))
  refine ⟨(ho.block z h.zlt fun e => (h.xz z e).2.1 rfl).trans h.box, h.zB, ownsRow_only h.oN ho fun q e k => (h.xz q k).2.2.1 e, ownsRow_only h.oP ho fun q e k => (h.xz q k).2.2.2 e, h.ap, fun q e => ⟨hx q e, ?_⟩, h.kN.move ho2 hs2, h.kP.move ho2 hs2⟩
  by_cases hq : q < W.heap.size
  · exact (h.xz q (hs q hq e)).2
  · exact ⟨fun k => by have := h.zlt; omega, fun k => by have := (h.Nlt q k).2; omega, fun k => by have := (h.Plt q k).2; omega⟩
theorem AB.below (h : AB W B z L st vN vP nv pv nx pr X) (hb : Below W.heap.size W W1) : AB W1 B z L st vN vP nv pv nx pr X := h.other (Only.of_below hb) (fun _ _ e => e) fun q e => Nat.lt_of_lt_of_le (h.xz q e).1 hb.size
/-- A row of the call's own that is not written to any more. -/
theorem AB.fresh {C : Nat} (_h : AB W B z L st vN vP nv pv nx pr X) (ho : OI W C y row) (hC : ∀ q, y.ownBlock = some q → ¬ hotAB z vN vP X q) (hn : row.length ≤ 100000) (hr : ∀ x ∈ row, I64 x) : ∀ W', Only (hotAB z vN vP X) W W' → IsInts W' y row := fun _ hW =>
  (ho.only hW hC).is (by unfold maxN; omega) hr
theorem hot_movedN {q : Nat} (h : ¬ hotAB z vN vP X q) (hq : q < W.heap.size) (hm : Moved W vN v') : ¬ hotAB z v' vP X q := by
  rintro (e | e | e | e)
  · exact h (.inl e)
  · exact (hm q e).elim (fun k => h (.inr (.inl k))) fun k => by omega
  · exact h (.inr (.inr (.inl e)))
  · exact h (.inr (.inr (.inr e)))
theorem hot_movedP {q : Nat} (h : ¬ hotAB z vN vP X q) (hq : q < W.heap.size) (hm : Moved W vP v') : ¬ hotAB z vN v' X q := by
  rintro (e | e | e | e)
  · exact h (.inl e)
  · exact h (.inr (.inl e))
  · exact (hm q e).elim (fun k => h (.inr (.inr (.inl k)))) fun k => by omega
  · exact h (.inr (.inr (.inr e)))
/-- A row is appended to the rows of successors. -/
theorem AB.appN (h : AB W B z L st vN vP nv pv nx pr X) (hy : ∀ W', Only (hotAB z vN vP X) W W' → IsInts W' y row)
    (ho : w'.ownsRow B 29 1 v' (nx.length + 1) (nv ++ [y])) (hg : W.grownBy w' vN.ownBlock) (hm : Moved W vN v') :
    w'.heap[z]? = some (.cells #[.int .i64 L, .int .i64 st, vN, vP] 24 (0, 0)) ∧ AB (w'.setCell ⟨z, 2, none⟩ v') B z L st v' vP (nv ++ [y]) pv (nx ++ [row]) pr X ∧ Only (fun q => q = z ∨ vN.ownBlock = some q) W (w'.setCell ⟨z, 2, none⟩ v') ∧ Below B W (w'.setCell ⟨z, 2, none⟩ v') := by
  have hg1 := Only.of_grown hg
  have hbox := (hg1.block z h.zlt h.ap.2.1).trans h.box
  have hz := h.zlt
  have hO1 : Only (hotAB z vN vP X) W w' := hg1.mono fun q _ e => .inr (.inl e)
  have hO2 : Only (hotAB z vN vP X) W (w'.setCell ⟨z, 2, none⟩ v') := hO1.trans (Only.set _ _ _ (.inl rfl))
  have hvz : v'.ownBlock ≠ some z := fun e => (hm z e).elim (fun k => h.ap.2.1 k) fun k => by omega
  have hS : Only (fun q => q = z) w' (w'.setCell ⟨z, 2, none⟩ v') := Only.set _ _ _ rfl
  have hO3 : Only (fun q => q = z ∨ vN.ownBlock = some q) W (w'.setCell ⟨z, 2, none⟩ v') := (hg1.mono fun q _ e => .inr e).trans (Only.set _ _ _ (.inl rfl))
  have hBel : Below B W (w'.setCell ⟨z, 2, none⟩ v') := ((hg1.mono (T := fun q => B ≤ q) fun q _ e => (h.Nlt q e).1).trans (Only.set _ _ _ h.zB)).below B (fun _ e => e) (by have := h.zB; omega)
  have hs : ∀ q, q < W.heap.size → hotAB z v' vP X q → hotAB z vN vP X q := by
    rintro q hq (e | e | e | e)
    · exact .inl e
    · exact (hm q e).elim (fun k => .inr (.inl k)) fun k => by omega
    · exact .inr (.inr (.inl e))
    · exact .inr (.inr (.inr e))
  refine ⟨hbox, ⟨?_, h.zB, ?_, ?_, ⟨fun q e k => ?_, hvz, h.ap.2.2⟩, fun q e => ⟨Nat.lt_of_lt_of_le (h.xz q e).1 hO2.size, (h.xz q e).2.1, fun k => ?_, (h.xz q e).2.2.2⟩, (h.kN.add hy).move hO2 hs, h.kP.move hO2 hs⟩, hO3, hBel⟩
  · exact heap_setCell_same _ _ 2 _ _ _ hbox
  · rw [List.length_append, List.length_singleton]
    exact ownsRow_only ho hS fun q e k => hvz (by rw [e, k])
  · exact ownsRow_only (ownsRow_only h.oP hg1 fun q e k => h.ap.1 q k e) hS fun q e k => h.ap.2.2 (by rw [e, k])
  · exact (hm q e).elim (fun e => h.ap.1 q e k) fun e => by have := (h.Plt q k).2; omega
  · exact (hm q k).elim (fun k => (h.xz q e).2.2.1 k) fun k => by have := (h.xz q e).1; omega
/-- A row is appended to the rows of priorities. -/
theorem AB.appP (h : AB W B z L st vN vP nv pv nx pr X) (hy : ∀ W', Only (hotAB z vN vP X) W W' → IsInts W' y row)
    (ho : w'.ownsRow B 29 1 v' (pr.length + 1) (pv ++ [y])) (hg : W.grownBy w' vP.ownBlock) (hm : Moved W vP v') :
    w'.heap[z]? = some (.cells #[.int .i64 L, .int .i64 st, vN, vP] 24 (0, 0)) ∧ AB (w'.setCell ⟨z, 3, none⟩ v') B z L st vN v' nv (pv ++ [y]) nx (pr ++ [row]) X ∧ Only (fun q => q = z ∨ vP.ownBlock = some q) W (w'.setCell ⟨z, 3, none⟩ v') ∧ Below B W (w'.setCell ⟨z, 3, none⟩ v') := by
  have hg1 := Only.of_grown hg
  have hbox := (hg1.block z h.zlt h.ap.2.2).trans h.box
  have hz := h.zlt
  have hO1 : Only (hotAB z vN vP X) W w' := hg1.mono fun q _ e => .inr (.inr (.inl e))
  have hO2 : Only (hotAB z vN vP X) W (w'.setCell ⟨z, 3, none⟩ v') := hO1.trans (Only.set _ _ _ (.inl rfl))
  have hvz : v'.ownBlock ≠ some z := fun e => (hm z e).elim (fun k => h.ap.2.2 k) fun k => by omega
  have hS : Only (fun q => q = z) w' (w'.setCell ⟨z, 3, none⟩ v') := Only.set _ _ _ rfl
  have hO3 : Only (fun q => q = z ∨ vP.ownBlock = some q) W (w'.setCell ⟨z, 3, none⟩ v') := (hg1.mono fun q _ e => .inr e).trans (Only.set _ _ _ (.inl rfl))
  have hBel : Below B W (w'.setCell ⟨z, 3, none⟩ v') := ((hg1.mono (T := fun q => B ≤ q) fun q _ e => (h.Plt q e).1).trans (Only.set _ _ _ h.zB)).below B (fun _ e => e) (by have := h.zB; omega)
  have hs : ∀ q, q < W.heap.size → hotAB z vN v' X q → hotAB z vN vP X q := by
    rintro q hq (e | e | e | e)
    · exact .inl e
    · exact .inr (.inl e)
    · exact (hm q e).elim (fun k => .inr (.inr (.inl k))) fun k => by omega
    · exact .inr (.inr (.inr e))
  refine ⟨hbox, ⟨?_, h.zB, ?_, ?_, ⟨fun q e k => ?_, h.ap.2.1, hvz⟩, fun q e => ⟨Nat.lt_of_lt_of_le (h.xz q e).1 hO2.size, (h.xz q e).2.1, (h.xz q e).2.2.1, fun k => ?_⟩, h.kN.move hO2 hs, (h.kP.add hy).move hO2 hs⟩, hO3, hBel⟩
  · exact heap_setCell_same _ _ 3 _ _ _ hbox
  · exact ownsRow_only (ownsRow_only h.oN hg1 fun q e k => h.ap.1 q e k) hS fun q e k => h.ap.2.1 (by rw [e, k])
  · rw [List.length_append, List.length_singleton]
    exact ownsRow_only ho hS fun q e k => hvz (by rw [e, k])
  · exact (hm q k).elim (fun k => h.ap.1 q e k) fun k => by have := (h.Nlt q e).2; omega
  · exact (hm q k).elim (fun k => (h.xz q e).2.2.2 k) fun k => by have := (h.xz q e).1; omega
/-- The automaton that has been built. -/
theorem AB.is (h : AB W B z L st vN vP nv pv nx pr X) (hL : I64 L) (hs : I64 st) (hn : nx.length ≤ 100000) (hp : pr.length ≤ 100000) : IsAuto W (.agg #[.int .i64 L, .int .i64 st, vN, vP]) ⟨L, st, nx, pr⟩ :=
  ⟨vN, vP, rfl, ⟨hL, hs⟩, h.kN.is h.oN hn, h.kP.is h.oP hp⟩
theorem AB.start (w : World) (L st : Int) : AB (w.alloc (.cells #[.int .i64 L, .int .i64 st, .slice none 0 0, .slice none 0 0] 24)) w.heap.size w.heap.size L st (.slice none 0 0) (.slice none 0 0) [] [] [] [] (fun _ => False) :=
  ⟨heap_alloc_new _ _, Nat.le_refl _, ⟨rfl, .inl ⟨rfl, rfl⟩⟩, ⟨rfl, .inl ⟨rfl, rfl⟩⟩, ⟨fun _ e => (nomatch e), fun e => (nomatch e), fun e => (nomatch e)⟩, fun _ e => e.elim, KR.nil _ _, KR.nil _ _⟩
theorem AB.of (h : W.heap[z]? = some (.cells #[.int .i64 L, .int .i64 st, .slice none 0 0, .slice none 0 0] 24 (0, 0))) (hB : B ≤ z) (hx : ∀ q, X q → q < W.heap.size ∧ q ≠ z) : AB W B z L st (.slice none 0 0) (.slice none 0 0) [] [] [] [] X :=
  ⟨h, hB, ⟨rfl, .inl ⟨rfl, rfl⟩⟩, ⟨rfl, .inl ⟨rfl, rfl⟩⟩, ⟨fun _ e => (nomatch e), fun e => (nomatch e), fun e => (nomatch e)⟩, fun q e => ⟨(hx q e).1, (hx q e).2, fun k => (nomatch k), fun k => (nomatch k)⟩, KR.nil _ _, KR.nil _ _⟩
/-- Something more will be written to. -/
theorem AB.more (h : AB W B z L st vN vP nv pv nx pr X) (hX : ∀ q, X1 q → X q ∨ (q < W.heap.size ∧ q ≠ z ∧ vN.ownBlock ≠ some q ∧ vP.ownBlock ≠ some q)) (h0 : nx = []) (h1 : pr = []) : AB W B z L st vN vP nv pv nx pr X1 := by
  subst h0 h1
  have e1 : nv = [] := List.eq_nil_of_length_eq_zero h.kN.ln
  have e2 : pv = [] := List.eq_nil_of_length_eq_zero h.kP.ln
  subst e1 e2
  exact ⟨h.box, h.zB, h.oN, h.oP, h.ap, fun q e => (hX q e).elim (fun k => h.xz q k) id, KR.nil _ _, KR.nil _ _⟩
end

/-- The call hands an automaton back. -/
def KeepA (w w' : World) (v : Value) (a : Au) : Prop := ∀ W, Only (fun q => q < w.heap.size) w' W → IsAuto W v a
def NewAuto (a : Au) (w : World) (e : Ending) (w' : World) : Prop := ∃ v, e = .returned v ∧ KeepA w w' v a ∧ Below w.heap.size w w'
theorem four_set {wr : World} {n : Nat} {t : TypeId} {x y z u a b c d : Value} (h : wr.heap[n]? = some (.cells #[x, y, z, u] t (0, 0))) : ((((wr.setCell ⟨n, 0, none⟩ a).setCell ⟨n, 1, none⟩ b).setCell ⟨n, 2, none⟩ c).setCell ⟨n, 3, none⟩ d).heap[n]? = some (.cells #[a, b, c, d] t (0, 0)) :=
  heap_setCell_same _ n 3 _ _ d (heap_setCell_same _ n 2 _ _ c (heap_setCell_same _ n 1 _ _ b (heap_setCell_same _ n 0 _ _ a h)))
theorem four_only {wr : World} (n : Nat) (a b c d : Value) : Only (fun q => q = n) wr ((((wr.setCell ⟨n, 0, none⟩ a).setCell ⟨n, 1, none⟩ b).setCell ⟨n, 2, none⟩ c).setCell ⟨n, 3, none⟩ d) :=
  let S : Nat → Prop := fun q => q = n
  (((Only.set (S := S) n 0 a rfl).trans (Only.set (S := S) n 1 b rfl)).trans (Only.set (S := S) n 2 c rfl)).trans (Only.set (S := S) n 3 d rfl)
/-- The boxes of a function of an automaton: the parameter, the result. -/
structure FA (w W : World) (pc : Array Value) : Prop where
  bl : Below w.heap.size w W
  bx : W.heap[w.heap.size]? = some (.cells pc 24 (0, 0))
  rc : W.heap[w.heap.size + 1]? = some (.cells #[.int .i64 0, .int .i64 0, .slice none 0 0, .slice none 0 0] 24 (0, 0))
section
variable {w W W1 : World} {pc : Array Value}
theorem FA.start (w : World) (pc : Array Value) : FA w ((w.alloc (.cells pc 24)).alloc (.cells #[.int .i64 0, .int .i64 0, .slice none 0 0, .slice none 0 0] 24)) pc :=
  ⟨(by repeat (first | exact Below.refl _ _ | assumption | (refine belA ?_ _) | (refine belD ?_ _))), ((bel_box _).block _ (by simp)).trans (heap_alloc_new _ _), by have := heap_alloc_new (w.alloc (.cells pc 24)) (.cells #[.int .i64 0, .int .i64 0, .slice none 0 0, .slice none 0 0] 24); simpa using this⟩
theorem FA.lt (h : FA w W pc) : w.heap.size + 1 < W.heap.size := (Array.getElem?_eq_some_iff.1 h.rc).1
theorem FA.below (h : FA w W pc) (hb : Below W.heap.size W W1) : FA w W1 pc :=
  ⟨h.bl.trans (hb.mono h.bl.size), (hb.block _ (by have := h.lt; omega)).trans h.bx, (hb.block _ h.lt).trans h.rc⟩
theorem FA.belowB {B : Nat} (h : FA w W pc) (hB : w.heap.size + 2 ≤ B) (hb : Below B W W1) : FA w W1 pc :=
  ⟨h.bl.trans (hb.mono (by omega)), (hb.block _ (by omega)).trans h.bx, (hb.block _ (by omega)).trans h.rc⟩
theorem FA.zero (h : FA w W pc) : (W.cell? ⟨w.heap.size + 1, 0, none⟩ = some (.int .i64 0) ∧ W.cell? ⟨w.heap.size + 1, 1, none⟩ = some (.int .i64 0) ∧ W.cell? ⟨w.heap.size + 1, 2, none⟩ = some (.slice none 0 0) ∧ W.cell? ⟨w.heap.size + 1, 3, none⟩ = some (.slice none 0 0)) ∧
    W.frozen? ⟨w.heap.size + 1, 0, none⟩ = false ∧ W.frozen? ⟨w.heap.size + 1, 1, none⟩ = false ∧ W.frozen? ⟨w.heap.size + 1, 2, none⟩ = false ∧ W.frozen? ⟨w.heap.size + 1, 3, none⟩ = false :=
  ⟨⟨cell_of_row _ _ 0 _ _ _ h.rc, cell_of_row _ _ 1 _ _ _ h.rc, cell_of_row _ _ 2 _ _ _ h.rc, cell_of_row _ _ 3 _ _ _ h.rc⟩, frozen_of_row _ _ 0 _ _ h.rc, frozen_of_row _ _ 1 _ _ h.rc, frozen_of_row _ _ 2 _ _ h.rc, frozen_of_row _ _ 3 _ _ h.rc⟩
theorem FA.cells {a b c d : Value} (h : FA w W #[a, b, c, d]) : W.cell? ⟨w.heap.size, 0, none⟩ = some a ∧ W.cell? ⟨w.heap.size, 1, none⟩ = some b ∧ W.cell? ⟨w.heap.size, 2, none⟩ = some c ∧ W.cell? ⟨w.heap.size, 3, none⟩ = some d :=
  ⟨cell_of_row _ _ 0 _ _ _ h.bx, cell_of_row _ _ 1 _ _ _ h.bx, cell_of_row _ _ 2 _ _ _ h.bx, cell_of_row _ _ 3 _ _ _ h.bx⟩
/-- The result box is written: the end. -/
theorem FA.fin {a : Au} {x0 x1 x2 x3 y : Value} (h : FA w W pc) (hy : KeepA w ((((W.setCell ⟨w.heap.size + 1, 0, none⟩ x0).setCell ⟨w.heap.size + 1, 1, none⟩ x1).setCell ⟨w.heap.size + 1, 2, none⟩ x2).setCell ⟨w.heap.size + 1, 3, none⟩ x3) y a) :
    NewAuto a w (.returned y) ((((W.setCell ⟨w.heap.size + 1, 0, none⟩ x0).setCell ⟨w.heap.size + 1, 1, none⟩ x1).setCell ⟨w.heap.size + 1, 2, none⟩ x2).setCell ⟨w.heap.size + 1, 3, none⟩ x3) :=
  ⟨y, rfl, hy, h.bl.trans ((four_only _ _ _ _ _).below w.heap.size (fun q e => by omega) h.bl.size)⟩
end
theorem AB.fin {w W : World} {pc : Array Value} {B z : Nat} {L st : Int} {vN vP : Value} {nv pv : List Value} {nx pr : List (List Int)} (h : FA w W pc) (hA : AB W B z L st vN vP nv pv nx pr (fun q => q ≤ w.heap.size + 1)) (hi : I64 L ∧ I64 st) (hn : nx.length ≤ 100000) (hp : pr.length ≤ 100000) {x0 x1 x2 x3 : Value} :
    NewAuto ⟨L, st, nx, pr⟩ w (.returned (.agg #[.int .i64 L, .int .i64 st, vN, vP])) ((((W.setCell ⟨w.heap.size + 1, 0, none⟩ x0).setCell ⟨w.heap.size + 1, 1, none⟩ x1).setCell ⟨w.heap.size + 1, 2, none⟩ x2).setCell ⟨w.heap.size + 1, 3, none⟩ x3) :=
  h.fin fun W' hW => by
    have ho : Only (fun q => q ≤ w.heap.size + 1) W W' := ((four_only (w.heap.size + 1) x0 x1 x2 x3).mono fun q _ (e : q = w.heap.size + 1) => Nat.le_of_eq e).trans (hW.mono fun q _ (e : q < w.heap.size) => by omega)
    exact (hA.other ho (fun _ _ e => e) fun q e => Nat.lt_of_lt_of_le (hA.xz q e).1 ho.size).is hi.1 hi.2 hn hp
/-- No automaton. -/
def noAu : Au := ⟨0, 0, [], []⟩
theorem noAu_is (w : World) : IsAuto w (.agg #[.int .i64 0, .int .i64 0, .slice none 0 0, .slice none 0 0]) noAu := by
  refine ⟨_, _, rfl, ⟨by unfold I64; decide, by unfold I64; decide⟩, ?_, ?_⟩ <;>
  exact ⟨fun _ => undef, ⟨none, 0, 0, 0, rfl, Nat.le_refl _, Nat.zero_le _, Nat.zero_le _, (fun _ => rfl), (fun h => absurd h (by decide)), fun j hj => absurd hj (Nat.not_lt_zero j)⟩, fun j hj => absurd hj (Nat.not_lt_zero j)⟩

end Go.Proofs.Ytdkpdpcecjcmcaa
