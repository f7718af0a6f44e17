/- Games: the two Valid, Small, Greatest, Swap, Part, Solve; slices; rows of one's own; drawn regions. -/
import Derived.Laws.AppendOwnNone
import Derived.Laws.EntriesVeiled
import Derived.Deep.OwnRows
import Derived.RegionTactic
import Derived.BigRegion
import Derived.Deep.RegionHeld3
import Derived.Deep.AppendLies
import Derived.Deep.RegionLaw
import Derived.Shelf.Abstract
import Derived.StillTailTactics
import Derived.Lib.AppendZeros
import Derived.Maps.OwnSet
import Derived.Maps.OwnIn
import Derived.DeepKeys4
import Derived.Maps.AppendAt
import Derived.Defers
import Derived.Test.YtijkjhcigdfdgaaQBase
namespace Go.Proofs.Ytijkjhcigdfdgaa
open Go.RowKit
open Go Go.RowKit
open Go.RowKit Go.Maps Go.WideMaps

/-- Behind an append the row is the old one or the newest block. -/
theorem run_append_fresh {P : Program} (w : World) (base : Nat) (t ty e : TypeId) (i : TypeInfo) (z : Value) (size bytes : Nat) (ht : P.underlying t = some (.slice e)) (hi : P.info? e = some i) (hz : i.zero = some z)
    (hsize : i.size = size) (hby : i.bytes = bytes) (v : Value) (n : Nat) (xs : List Value) (hown : w.ownsRow base e size v n xs)
    (a : Addr) (m c : Nat) (news : List Value) (hl : news.length = m * size) (hnews : ∀ j u, news[j]? = some u → w.cell? (a.add j) = some u) (h1 : ∀ u ∈ news, u.oneCell' = true)
    (h63 : n + m ≤ maxLen) (hbytes : (n + m) * bytes ≤ 140737488355328) (v' : Value) (w' : World)
    (hr : (Builtin.append_ #[t, t] ty #[v, .slice (some a) m c]).run P w = .ok v' w') : ∀ g, v'.ownBlock = some g → v.ownBlock = some g ∨ g = w.heap.size := by
  subst hsize
  subst hby
  have hsmall : n + m ≤ 9223372036854775807 := by simp only [maxLen] at h63; omega
  intro g hg'
  rcases hown.2 with ⟨rfl, rfl⟩ | ⟨g0, cap, cur, rfl, hbg, hg, hnc, hcm, hcs, htake⟩
  · have hx : xs = [] := List.eq_nil_of_length_eq_zero (by simpa using hown.1)
    subst hx
    by_cases hm : m = 0
    · subst hm
      have hn : news = [] := List.eq_nil_of_length_eq_zero (by simpa using hl)
      subst hn
      have hr' : (Builtin.append_ #[t, t] ty #[.slice none 0 0, .slice (some a) 0 c]).run P w = .ok (.slice none 0 0) w := by
        simp [Builtin.append_, run_underlying ht, sizeOf, typeInfo, hi, Builtin.lenOf, Builtin.firstCells, loadCells, loadCellsFrom]
      rw [hr'] at hr
      cases hr
      exact .inl hg'
    · have hr' := run_append_nil (P := P) w t ty e i z ht hi hz a m c news hl hnews (by omega) (by omega) (by have hb := hbytes; simp only [Nat.zero_add] at hb; omega)
      rw [hr'] at hr
      cases hr
      simp [Value.ownBlock] at hg'
      exact .inr hg'.symm
  · by_cases hroom : n + m ≤ cap
    · have hfit : n * i.size + news.length ≤ cur.size := by rw [hl, hcs, ← Nat.add_mul]; exact Nat.mul_le_mul_right _ hroom
      have hr' := run_append_room (P := P) w t ty e i ht hi g0 n cap cur hg a m c news hl hnews h1 hroom hfit
      rw [hr'] at hr
      cases hr
      simp [Value.ownBlock] at hg' ⊢
      exact .inl hg'
    · have holds : ∀ j u, xs[j]? = some u → w.cell? ((⟨g0, 0, none⟩ : Addr).add j) = some u := hown.cells (g := g0) rfl
      have hr' := run_append_grow (P := P) w t ty e i z ht hi hz ⟨g0, 0, none⟩ n cap xs hown.1 holds a m c news hl hnews (by omega) (by omega) (growslice_fits (by omega) hbytes)
      rw [hr'] at hr
      cases hr
      simp [Value.ownBlock] at hg' ⊢
      exact .inr hg'.symm

/-- Where the row of v lies behind a step: at its old place, or in memory made since. -/
def Moved (w : World) (v v' : Value) : Prop := ∀ g, v'.ownBlock = some g → v.ownBlock = some g ∨ w.heap.size ≤ g

/-- 'append' to a row of the call's own. -/
theorem wpList_app {P : Program} {ops : Array Oper} {rest : List Oper} {o : Oper} {a : Act} {Q : Exit → Act → World → Prop} {w : World} (hgd : o.guard = none) (s x : Operand) (t e : TypeId) (size bytes : Nat) (z : Value)
    (ho : o.op = .call { callee := .builtin .append, args := #[s, x], argTypes := #[t, t] })
    (ht : P.underlying t = some (.slice e)) (hinfo : (P.info? e).map (fun i => (i.zero, i.size, i.bytes)) = some (some z, size, bytes)) (hzs : z.cells.size = size) (hsz : 0 < size)
    (base : Nat) (v : Value) (n : Nat) (xs : List Value) (hs : a.eval s = v) (hown : w.ownsRow base e size v n xs)
    (ad : Addr) (m c : Nat) (news : List Value) (hx : a.eval x = .slice (some ad) m c) (hl : news.length = m * size) (hnews : ∀ j u, news[j]? = some u → w.cell? (ad.add j) = some u) (h1 : ∀ u ∈ news, u.oneCell' = true)
    (h63 : n + m ≤ maxLen) (hbytes : (n + m) * bytes ≤ 140737488355328) (hbase : base ≤ w.heap.size)
    (h : ∀ v' w', w'.ownsRow base e size v' (n + m) (xs ++ news) → w.grownBy w' v.ownBlock → (v' = .slice none 0 0 ↔ v = .slice none 0 0 ∧ m = 0) → Moved w v v' → wpList P ops Q rest (a.put o.dst v') w') :
    wpList P ops Q (o :: rest) a w := by
  refine wpList_plain hgd fun K hK => ?_
  obtain ⟨i, hi, hz0, hz1, hz2⟩ := info_parts hinfo
  obtain ⟨v', w', hr, h2, h3, h4⟩ := run_append_own (P := P) w base t o.type e i z size bytes ht hi hz0 hz1 hz2 hzs hsz v n xs hown ad m c news hl hnews h1 h63 hbytes hbase
  have h5 := run_append_fresh (P := P) w base t o.type e i z size bytes ht hi hz0 hz1 hz2 v n xs hown ad m c news hl hnews h1 h63 hbytes v' w' hr
  unfold Oper.wp execOp
  simp only [ho, resolve, invoke, builtin, Sem.run_bind, Sem.run_pure, Result.andThen_ok, List.map_toArray, List.map_cons, List.map_nil, hs, hx, hr]
  exact hK _ _ (h v' w' h2 h3 h4 (fun g hg => (h5 g hg).imp id (fun e => by omega)))

/-- 'append(v, u)' of one cell: u lies in the newest block. -/
theorem wpList_app1 {P : Program} {ops : Array Oper} {rest : List Oper} {o : Oper} {a : Act} {Q : Exit → Act → World → Prop} {w : World} (hgd : o.guard = none) (s x : Operand) (t e : TypeId) (bytes : Nat) (z u : Value)
    (ho : o.op = .call { callee := .builtin .append, args := #[s, x], argTypes := #[t, t] })
    (ht : P.underlying t = some (.slice e)) (hinfo : (P.info? e).map (fun i => (i.zero, i.size, i.bytes)) = some (some z, 1, bytes)) (hzs : z.cells.size = 1)
    (base : Nat) (v : Value) (n : Nat) (xs : List Value) (hs : a.eval s = v) (hown : w.ownsRow base e 1 v n xs)
    (m : Nat) (hm : m = w.heap.size) (hx : a.eval x = .slice (some ⟨m, 0, none⟩) 1 1) (hu : u.oneCell' = true)
    (hbytes : (n + 1) * bytes ≤ 140737488355328) (hb0 : 0 < bytes) (hbase : base ≤ w.heap.size)
    (h : ∀ v' w', w'.ownsRow base e 1 v' (n + 1) (xs ++ [u]) → w.grownBy w' v.ownBlock → Moved w v v' → wpList P ops Q rest (a.put o.dst v') w') :
    wpList P ops Q (o :: rest) a (w.alloc (.cells #[u] e)) := by
  subst hm
  have hn : n + 1 ≤ 140737488355328 := Nat.le_trans (Nat.le_mul_of_pos_right _ hb0) hbytes
  refine wpList_app hgd s x t e 1 bytes z ho ht hinfo hzs (by decide) base v n xs hs (hown.alloc _) ⟨w.heap.size, 0, none⟩ 1 1 [u] hx rfl (cell_one_new _ _ _) (by simpa using hu) (by simp only [maxLen]; omega) hbytes (by simp; omega) ?_
  intro v' w' h1 h2 _ h4
  refine h v' w' h1 ⟨h2.os, h2.tape, h2.output, by have := h2.size; simp at this; omega, fun k hk hr => ?_⟩ (fun g hg => ?_)
  · rw [h2.block k (by simp; omega) hr]; exact heap_alloc_old w _ hk
  · rcases h4 g hg with e | e
    · exact .inl e
    · refine .inr ?_
      simp at e; omega

/-- What a row of the call's own reads as. -/
theorem ownsRow_arr {w : World} {base : Nat} {e : TypeId} {v : Value} {n : Nat} {xs : List Value} (h : w.ownsRow base e 1 v n xs) (hn : n ≤ maxN) (f : Nat → Value) (hf : ∀ j, j < n → xs[j]? = some (f j)) : IsArr w v n f := by
  rcases h.2 with ⟨rfl, rfl⟩ | ⟨g, cap, cur, rfl, hb, hg, hnc, hcm, hcs, htake⟩
  · exact ⟨none, 0, 0, 0, rfl, Nat.le_refl _, Nat.zero_le _, hn, (fun _ => rfl), (fun h => absurd h (by omega)), fun j hj => absurd hj (by omega)⟩
  · refine ⟨some ⟨g, 0, none⟩, cap, g, 0, rfl, hnc, hcm, hn, (fun h => by cases h), fun _ => rfl, fun j hj => ?_⟩
    rw [Nat.zero_add, World.ownsRow.cellAt h j (by omega), hf j hj]

/-- A row of truth values, of numbers, of the call's own. -/
def OB (w : World) (base : Nat) (v : Value) (l : List Bool) : Prop := w.ownsRow base 4 1 v l.length (l.map Value.bool)

def OI (w : World) (base : Nat) (v : Value) (l : List Int) : Prop := w.ownsRow base 3 1 v l.length (l.map (Value.int .i64))

theorem OB.is {w : World} {base : Nat} {v : Value} {l : List Bool} (h : OB w base v l) (hn : l.length ≤ maxN) : IsBools w v l :=
  ownsRow_arr h hn _ fun j hj => by simp [bvF, hj]

theorem OI.is {w : World} {base : Nat} {v : Value} {l : List Int} (h : OI w base v l) (hn : l.length ≤ maxN) (hi : ∀ x ∈ l, I64 x) : IsInts w v l :=
  ⟨ownsRow_arr h hn _ fun j hj => by simp [ivF, hj], hi⟩

theorem info_bool : (Try.prog.info? 4).map (fun i => (i.zero, i.size, i.bytes)) = some (some (.bool false), 1, 1) := by kernel_rfl

theorem info_int : (Try.prog.info? 3).map (fun i => (i.zero, i.size, i.bytes)) = some (some (.int .i64 0), 1, 8) := by kernel_rfl

theorem app_bool {ops : Array Oper} {rest : List Oper} {o : Oper} {a : Act} {Q : Exit → Act → World → Prop} {w : World} (hgd : o.guard = none) (s x : Operand) (b : Bool)
    (ho : o.op = .call { callee := .builtin .append, args := #[s, x], argTypes := #[39, 39] })
    (base : Nat) (v : Value) (l : List Bool) (hown : OB w base v l) (hs : a.eval s = v) (m : Nat) (hm : m = w.heap.size) (hx : a.eval x = .slice (some ⟨m, 0, none⟩) 1 1)
    (hn : l.length < 140737488351232) (hbase : base ≤ w.heap.size)
    (h : ∀ v' w', OB w' base v' (l ++ [b]) → w.grownBy w' v.ownBlock → Moved w v v' → wpList Try.prog ops Q rest (a.put o.dst v') w') :
    wpList Try.prog ops Q (o :: rest) a (w.alloc (.cells #[.bool b] 4)) := by
  refine wpList_app1 hgd s x _ _ 1 _ _ ho Try.underlying39 info_bool rfl base v l.length _ hs hown m hm hx rfl (by omega) (by decide) hbase fun v' w' h1 h2 h3 => h v' w' ?_ h2 h3
  unfold OB
  simpa using h1

theorem app_int {ops : Array Oper} {rest : List Oper} {o : Oper} {a : Act} {Q : Exit → Act → World → Prop} {w : World} (hgd : o.guard = none) (s x : Operand) (b : Int)
    (ho : o.op = .call { callee := .builtin .append, args := #[s, x], argTypes := #[22, 22] })
    (base : Nat) (v : Value) (l : List Int) (hown : OI w base v l) (hs : a.eval s = v) (m : Nat) (hm : m = w.heap.size) (hx : a.eval x = .slice (some ⟨m, 0, none⟩) 1 1)
    (hn : l.length < 17592186043904) (hbase : base ≤ w.heap.size)
    (h : ∀ v' w', OI w' base v' (l ++ [b]) → w.grownBy w' v.ownBlock → Moved w v v' → wpList Try.prog ops Q rest (a.put o.dst v') w') :
    wpList Try.prog ops Q (o :: rest) a (w.alloc (.cells #[.int .i64 b] 3)) := by
  refine wpList_app1 hgd s x _ _ 8 _ _ ho Try.underlying22 info_int rfl base v l.length _ hs hown m hm hx rfl (by omega) (by decide) hbase fun v' w' h1 h2 h3 => h v' w' ?_ h2 h3
  unfold OI
  simpa using h1

/-- 'make([]T, n)' of one-cell elements. -/
theorem wpList_mk1 {P : Program} {ops : Array Oper} {rest : List Oper} {o : Oper} {a : Act} {Q : Exit → Act → World → Prop} {w : World} (hgd : o.guard = none) (l c : Operand) (t e : TypeId) (bytes : Nat) (z : Value)
    (ho : o.op = Op.makeSlice t l c) (ht : P.underlying t = some (.slice e)) (hinfo : (P.info? e).map (fun i => (i.zero, i.size, i.bytes)) = some (some z, 1, bytes)) (hz : z.cells = #[z])
    (base : Nat) (L : Int) (n : Nat) (hl : a.eval l = .int .i64 L) (hc : a.eval c = .int .i64 L) (hL : L = (n : Int)) (hb : bytes * n ≤ 281474976710656) (hn : n ≤ 140737488355328) (hbase : base ≤ w.heap.size)
    (h : ∀ w', w'.ownsRow base e 1 (.slice (some ⟨w.heap.size, 0, none⟩) n n) n (List.replicate n z) → w.grownBy w' none → wpList P ops Q rest (a.put o.dst (.slice (some ⟨w.heap.size, 0, none⟩) n n)) w') :
    wpList P ops Q (o :: rest) a w := by
  obtain ⟨i, hi, hz0, hz1, hz2⟩ := info_parts hinfo
  refine wpList_make_full w hgd l c t ho base e i z 1 ht hi hz0 hz1 .i64 .i64 L L n hl hc hL hL (by rw [hz2]; exact hb) (by simp only [maxLen]; omega) hbase fun w' h1 h2 => h w' ?_ h2
  rw [hz, Nat.mul_one, toList_madeCells_one] at h1
  exact h1

theorem mk_bool {ops : Array Oper} {rest : List Oper} {o : Oper} {a : Act} {Q : Exit → Act → World → Prop} {w : World} (hgd : o.guard = none) (l c : Operand) (t : TypeId) (ht : Try.prog.underlying t = some (.slice 4))
    (ho : o.op = Op.makeSlice t l c) (base : Nat) (L : Int) (n : Nat) (hl : a.eval l = .int .i64 L) (hc : a.eval c = .int .i64 L) (hL : L = (n : Int)) (hn : n ≤ 140737488355328) (hbase : base ≤ w.heap.size)
    (h : ∀ w', OB w' base (.slice (some ⟨w.heap.size, 0, none⟩) n n) (List.replicate n false) → w.grownBy w' none → wpList Try.prog ops Q rest (a.put o.dst (.slice (some ⟨w.heap.size, 0, none⟩) n n)) w') :
    wpList Try.prog ops Q (o :: rest) a w := by
  refine wpList_mk1 hgd l c t _ 1 _ ho ht info_bool rfl base L n hl hc hL (by omega) hn hbase fun w' h1 h2 => h w' ?_ h2
  unfold OB
  simpa using h1

theorem mk_int {ops : Array Oper} {rest : List Oper} {o : Oper} {a : Act} {Q : Exit → Act → World → Prop} {w : World} (hgd : o.guard = none) (l c : Operand) (t : TypeId) (ht : Try.prog.underlying t = some (.slice 3))
    (ho : o.op = Op.makeSlice t l c) (base : Nat) (L : Int) (n : Nat) (hl : a.eval l = .int .i64 L) (hc : a.eval c = .int .i64 L) (hL : L = (n : Int)) (hn : n ≤ 17592186044416) (hbase : base ≤ w.heap.size)
    (h : ∀ w', OI w' base (.slice (some ⟨w.heap.size, 0, none⟩) n n) (List.replicate n 0) → w.grownBy w' none → wpList Try.prog ops Q rest (a.put o.dst (.slice (some ⟨w.heap.size, 0, none⟩) n n)) w') :
    wpList Try.prog ops Q (o :: rest) a w := by
  refine wpList_mk1 hgd l c t _ 8 _ ho ht info_int rfl base L n hl hc hL (by omega) (by omega) hbase fun w' h1 h2 => h w' ?_ h2
  unfold OI
  simpa using h1

/-- An element of a row of the call's own: read, written. -/
theorem OB.at' {w : World} {base g n cap : Nat} {l : List Bool} (h : OB w base (.slice (some ⟨g, 0, none⟩) n cap) l) (hn : n = l.length) (j : Nat) (hj : j < l.length) : w.cell? ⟨g, j, none⟩ = some (.bool l[j]) := by
  subst hn
  rw [World.ownsRow.cellAt h j (by omega)]; simp [hj]

theorem OI.at' {w : World} {base g n cap : Nat} {l : List Int} (h : OI w base (.slice (some ⟨g, 0, none⟩) n cap) l) (hn : n = l.length) (j : Nat) (hj : j < l.length) : w.cell? ⟨g, j, none⟩ = some (.int .i64 l[j]) := by
  subst hn
  rw [World.ownsRow.cellAt h j (by omega)]; simp [hj]

theorem OB.fz {w : World} {base g n cap : Nat} {l : List Bool} (h : OB w base (.slice (some ⟨g, 0, none⟩) n cap) l) (hn : n = l.length) (j : Nat) : w.frozen? ⟨g, j, none⟩ = false := by
  subst hn
  exact World.ownsRow.frozenAt h j

theorem OI.fz {w : World} {base g n cap : Nat} {l : List Int} (h : OI w base (.slice (some ⟨g, 0, none⟩) n cap) l) (hn : n = l.length) (j : Nat) : w.frozen? ⟨g, j, none⟩ = false := by
  subst hn
  exact World.ownsRow.frozenAt h j

theorem OB.set {w : World} {base g n cap : Nat} {l : List Bool} (h : OB w base (.slice (some ⟨g, 0, none⟩) n cap) l) (hn : n = l.length) (j : Nat) (b : Bool) :
    OB (w.setCell ⟨g, j, none⟩ (.bool b)) base (.slice (some ⟨g, 0, none⟩) n cap) (l.set j b) := by
  subst hn
  have := (World.ownsRow.stored h j (.bool b)).1
  unfold OB
  simpa using this

theorem OI.set {w : World} {base g n cap : Nat} {l : List Int} (h : OI w base (.slice (some ⟨g, 0, none⟩) n cap) l) (hn : n = l.length) (j : Nat) (b : Int) :
    OI (w.setCell ⟨g, j, none⟩ (.int .i64 b)) base (.slice (some ⟨g, 0, none⟩) n cap) (l.set j b) := by
  subst hn
  have := (World.ownsRow.stored h j (.int .i64 b)).1
  unfold OI
  simpa using this

theorem grown_set (w : World) (g j : Nat) (u : Value) : w.grownBy (w.setCell ⟨g, j, none⟩ u) (some g) :=
  ⟨rfl, rfl, rfl, by simp, fun k _ hk => heap_setCell_other w ⟨g, j, none⟩ k u (fun e => hk (by simp [e]))⟩

theorem grown_refl (w : World) (r : Option Nat) : w.grownBy w r := ⟨rfl, rfl, rfl, Nat.le_refl _, fun _ _ _ => rfl⟩

/-- 'append(v, src...)' of one-cell elements, whatever slice src is. -/
theorem wpList_appA {P : Program} {ops : Array Oper} {rest : List Oper} {o : Oper} {a : Act} {Q : Exit → Act → World → Prop} {w : World} (hgd : o.guard = none) (s x : Operand) (t e : TypeId) (bytes : Nat) (z : Value)
    (ho : o.op = .call { callee := .builtin .append, args := #[s, x], argTypes := #[t, t] })
    (ht : P.underlying t = some (.slice e)) (hinfo : (P.info? e).map (fun i => (i.zero, i.size, i.bytes)) = some (some z, 1, bytes)) (hzs : z.cells.size = 1)
    (base : Nat) (v : Value) (n : Nat) (xs : List Value) (hs : a.eval s = v) (hown : w.ownsRow base e 1 v n xs)
    (ao : Option Addr) (cap b off m : Nat) (f : Nat → Value) (hx : a.eval x = .slice ao m cap) (hsrc : ArrAt w ao cap b off m f) (h1 : ∀ j, (f j).oneCell' = true)
    (hbytes : (n + m) * bytes ≤ 140737488355328) (hb0 : 0 < bytes) (hbase : base ≤ w.heap.size)
    (h : ∀ v' w', w'.ownsRow base e 1 v' (n + m) (xs ++ (List.range m).map f) → w.grownBy w' v.ownBlock → Moved w v v' → wpList P ops Q rest (a.put o.dst v') w') :
    wpList P ops Q (o :: rest) a w := by
  have hn : n + m ≤ 140737488355328 := Nat.le_trans (Nat.le_mul_of_pos_right _ hb0) hbytes
  cases ao with
  | none =>
    have hm0 : m = 0 := by rcases Nat.eq_zero_or_pos m with h0 | h0; exact h0; have := hsrc.ad h0; cases this
    subst hm0
    obtain rfl := hsrc.nc rfl
    obtain ⟨i, hi, hz0, hz1, hz2⟩ := info_parts hinfo
    refine wpList_append_own_none hgd s x t ho base e i 1 ht hi v n xs hs hown hx ?_
    exact h v w (by simpa using hown) (grown_refl _ _) (fun g hg => .inl hg)
  | some ad =>
    refine wpList_app hgd s x t e 1 bytes z ho ht hinfo hzs (by decide) base v n xs hs hown ad m cap ((List.range m).map f) hx (by simp) ?_ ?_ (by simp only [maxLen]; omega) hbytes hbase ?_
    · intro j u hj
      have hjm : j < m := by
        rcases Nat.lt_or_ge j m with h | h
        · exact h
        · simp [Nat.not_lt.2 h] at hj
      have hadd := hsrc.ad (by omega)
      simp only [Option.some.injEq] at hadd
      subst hadd
      have : f j = u := by simpa [hjm] using hj
      subst this
      have h2 := hsrc.el j hjm
      unfold Addr.add
      split
      · subst j; exact h2
      · exact h2
    · intro u hu
      obtain ⟨j, _, rfl⟩ := List.mem_map.1 hu
      exact h1 j
    · intro v' w' h2 h3 _ h5
      exact h v' w' h2 h3 h5

theorem app_bools {ops : Array Oper} {rest : List Oper} {o : Oper} {a : Act} {Q : Exit → Act → World → Prop} {w : World} (hgd : o.guard = none) (s x : Operand)
    (ho : o.op = .call { callee := .builtin .append, args := #[s, x], argTypes := #[39, 39] })
    (base : Nat) (v v2 : Value) (l l2 : List Bool) (hown : OB w base v l) (hs : a.eval s = v) (hsrc : IsBools w v2 l2) (hx : a.eval x = v2)
    (hn : l.length + l2.length ≤ 140737488351232) (hbase : base ≤ w.heap.size)
    (h : ∀ v' w', OB w' base v' (l ++ l2) → w.grownBy w' v.ownBlock → Moved w v v' → wpList Try.prog ops Q rest (a.put o.dst v') w') :
    wpList Try.prog ops Q (o :: rest) a w := by
  obtain ⟨ao, cap, b, off, rfl, hsrc⟩ := hsrc
  refine wpList_appA hgd s x _ _ 1 _ ho Try.underlying39 info_bool rfl base v l.length _ hs hown ao cap b off l2.length (bvF l2) hx hsrc (fun _ => rfl) (by omega) (by decide) hbase fun v' w' h1 h2 h3 => h v' w' ?_ h2 h3
  have e : (List.range l2.length).map (bvF l2) = l2.map Value.bool := by
    apply List.ext_getElem (by simp)
    intro j h1 h2
    have : j < l2.length := by simpa using h1
    simp [bvF, this]
  rw [e] at h1
  unfold OB
  simpa using h1

theorem Ints_c (w : World) (va vb : Value) (la lb : List Int) (ha : IsInts w va la) (hb : IsInts w vb lb) :
    Calls Try.prog 18 #[va, vb] w (Quiet (.bool (decide (la = lb))) w) := by
  obtain ⟨⟨aoa, ca, ba, oa, rfl, ha⟩, _⟩ := ha
  obtain ⟨⟨aob, cb, bb, ob, rfl, hb⟩, _⟩ := hb
  have hna := ha.nb
  have hnb := hb.nb
  by_cases hl : la.length = lb.length
  · have hne : ((la.length : Int) != lb.length) = false := by simp [hl]
    have HL := Lib.hid hl
    clear hl
    go_enter Try.func18, Try.ntmps18
    go_wp2
    go_loopw [5] (fun i wr => ∃ k n : Nat, i = .int .i64 k ∧ wr = w.drewN n ∧ k ≤ la.length ∧ la.take k = lb.take k) (fun i _ => la.length - (intOf i).toNat)
    case atStart => exact ⟨0, 0, rfl, rfl, by omega, by simp⟩
    case round =>
      obtain ⟨k, n, rfl, rfl, hk, heq⟩ := hrel
      have HE := Lib.hid heq
      clear heq
      by_cases hlt : k < la.length
      · have hltb : k < lb.length := by rw [← HL.out]; exact hlt
        obtain rfl := ha.ad (by omega)
        obtain rfl := hb.ad (by omega)
        have c1 := ha.el k hlt
        have c2 := hb.el k hltb
        unfold ivF at c1 c2
        go_wp2
        go_quiet (fail)
        go_wp2
        · have hd : (la[k] != lb[k]) = true := by assumption
          go_ret
          refine ⟨ret_bool (Eq.symm (decide_eq_false ?_)), _, World.drewN_drewN ..⟩
          rintro rfl
          simp at hd
        · have hd : (la[k] != lb[k]) = false := by assumption
          go_roundw
          case rel => exact ⟨k + 1, _, by go_num, rfl, by omega, take_succ_eq hlt hltb HE.out (by simpa using hd)⟩
          case measure => simp [intOf]; omega
      · go_wp2
        go_ret
        refine ⟨ret_bool (Eq.symm (decide_eq_true ?_)), n, rfl⟩
        have h1 := HE.out
        have h2 := HL.out
        rwa [List.take_of_length_le (by omega), List.take_of_length_le (by omega)] at h1
  · have hne : ((la.length : Int) != lb.length) = true := by simp; omega
    go_enter Try.func18, Try.ntmps18
    go_wp2
    go_ret
    exact ⟨ret_bool (Eq.symm (decide_eq_false (by rintro rfl; exact hl rfl))), 0, rfl⟩

theorem Small_c (w : World) (vg : Value) (g : Gm) (most : Int) (hg : IsGame w vg g) :
    Calls Try.prog 28 #[vg, .int .i64 most] w (Calm (.bool (smallB g most)) w) := by
  obtain ⟨v0, v1, v2, rfl, ⟨⟨ao0, cap0, b0, off0, rfl, h0⟩, _⟩, ⟨⟨ao1, cap1, b1, off1, rfl, h1⟩, _⟩, ⟨V, ⟨ao2, cap2, b2, off2, rfl, h2⟩, hr⟩⟩ := hg
  have hn0 := h0.nb
  have hn1 := h1.nb
  have hn2 := h2.nb
  go_enter Try.func28, Try.ntmps28
  go_wp2
  · have q1 : (most < ↑g.owner.length ∨ most < ↑g.prio.length) ∨ most < ↑g.succ.length := by assumption
    go_ret
    refine ⟨ret_bool ?_, (Below.refl _ _).alloc (Nat.le_refl _) _⟩
    simp only [smallB, Bool.false_eq, Bool.and_eq_false_iff, decide_eq_false_iff_not]
    omega
  · have q1 : (↑g.owner.length ≤ most ∧ ↑g.prio.length ≤ most) ∧ ↑g.succ.length ≤ most := by assumption
    go_loop [5] (fun i => ∃ k : Nat, i = .int .i64 k ∧ k ≤ g.succ.length ∧ (g.succ.take k).all (fun s => decide (s.length ≤ 20)) = true) (fun i => g.succ.length - (intOf i).toNat)
    case atStart => exact ⟨0, rfl, by omega, by simp⟩
    case round =>
      obtain ⟨k, rfl, hk, heq⟩ := hrel
      have HE := Lib.hid heq
      clear heq
      by_cases hlt : k < g.succ.length
      · obtain rfl := h2.ad (by omega)
        have c2 := h2.el k hlt
        obtain ⟨⟨ao, cap, b, off, hv, h3⟩, _⟩ := hr k hlt
        rw [hv] at c2
        have hn := h3.nb
        clear hv hr h3
        have cB := cellB ((Below.refl _ _).alloc (Nat.le_refl _) (Obj.cells #[Value.slice ao0 g.owner.length cap0, Value.slice ao1 g.prio.length cap1, Value.slice (some ⟨b2, off2, none⟩) g.succ.length cap2] 25)) c2
        rw [getD_lt _ _ _ hlt] at cB hn
        go_wp2
        · have q2 : (20 : Int) < ↑g.succ[k].length := by assumption
          go_ret
          refine ⟨ret_bool ?_, (Below.refl _ _).alloc (Nat.le_refl _) _⟩
          have h3 := all_false_of g.succ (fun s => decide (s.length ≤ 20)) k hlt (by simp; omega)
          simp [smallB, h3]
        · have q2 : (↑g.succ[k].length : Int) ≤ 20 := by assumption
          go_round
          case rel => exact ⟨k + 1, by go_num, by omega, by rw [all_take_succ _ _ _ hlt, HE.out]; simp; omega⟩
          case measure => simp [intOf]; omega
      · go_wp2
        go_ret
        refine ⟨ret_bool ?_, (Below.refl _ _).alloc (Nat.le_refl _) _⟩
        have h3 := HE.out
        rw [List.take_of_length_le (by omega)] at h3
        simp only [smallB, h3, Bool.and_true]
        simp; omega
  · have q1 : most < ↑g.prio.length := by assumption
    go_ret
    refine ⟨ret_bool ?_, (Below.refl _ _).alloc (Nat.le_refl _) _⟩
    simp only [smallB, Bool.false_eq, Bool.and_eq_false_iff, decide_eq_false_iff_not]
    omega
  · have q1 : most < ↑g.owner.length := by assumption
    go_ret
    refine ⟨ret_bool ?_, (Below.refl _ _).alloc (Nat.le_refl _) _⟩
    simp only [smallB, Bool.false_eq, Bool.and_eq_false_iff, decide_eq_false_iff_not]
    omega

theorem within_c (w : World) (v : Value) (ll : List (List Int)) (most : Int) (h : IsRows w v ll) :
    Calls Try.prog 48 #[.int .i64 most, v] w (Quiet (.bool (withinB most ll)) w) := by
  obtain ⟨V, ⟨ao, cap, b, off, rfl, h⟩, hr⟩ := h
  have hn := h.nb
  go_enter Try.func48, Try.ntmps48
  go_wp2
  go_loop [4, 6, 8, 11, 15, 16, 17] (fun r _ _ i _ _ _ => ∃ k : Nat, i = .int .i64 k ∧ r = .bool false ∧ k ≤ ll.length ∧ (ll.take k).all (inB most) = true) (fun _ _ _ i _ _ _ => ll.length - (intOf i).toNat)
  case atStart => exact ⟨0, rfl, rfl, by omega, by simp⟩
  case round =>
    obtain ⟨k, rfl, rfl, hk, heq⟩ := hrel
    have HE := Lib.hid heq
    clear heq
    by_cases hlt : k < ll.length
    · obtain rfl := h.ad (by omega)
      have c2 := h.el k hlt
      obtain ⟨⟨ao1, cap1, b1, off1, hv, h1⟩, _⟩ := hr k hlt
      rw [hv] at c2
      clear hv hr
      rw [getD_lt _ _ _ hlt] at c2 h1
      have hn1 := h1.nb
      go_wp2
      go_loop [4, 8, 17] (fun r _ i => ∃ j : Nat, i = .int .i64 j ∧ r = .bool false ∧ j ≤ ll[k].length ∧ inB most (ll[k].take j) = true) (fun _ _ i => ll[k].length - (intOf i).toNat)
      case atStart => exact ⟨0, rfl, rfl, by omega, by simp [inB]⟩
      case round =>
        obtain ⟨j, rfl, rfl, hj, heq1⟩ := hrel
        have HE1 := Lib.hid heq1
        clear heq1
        by_cases hltj : j < ll[k].length
        · obtain rfl := h1.ad (by omega)
          have c3 := h1.el j hltj
          unfold ivF at c3
          go_wp2
          · have h2 : ll[k][j] < 0 ∨ most < ll[k][j] := by assumption
            go_ret
            refine ⟨ret_bool (Eq.symm (all_false_of _ _ k hlt (all_false_of _ _ j hltj ?_))), 0, rfl⟩
            simp; omega
          · have h2 : 0 ≤ ll[k][j] ∧ ll[k][j] ≤ most := by assumption
            go_round
            case rel => exact ⟨j + 1, by go_num, rfl, by omega, by have := HE1.out; unfold inB at this ⊢; rw [all_take_succ _ _ _ hltj, this]; simp; omega⟩
            case measure => simp [intOf]; omega
          · have h2 : ll[k][j] < 0 := by assumption
            go_ret
            refine ⟨ret_bool (Eq.symm (all_false_of _ _ k hlt (all_false_of _ _ j hltj ?_))), 0, rfl⟩
            simp; omega
        · go_wp2
          go_round
          case rel => exact ⟨k + 1, by go_num, rfl, by omega, by have h3 := HE1.out; rw [List.take_of_length_le (by omega)] at h3; rw [all_take_succ _ _ _ hlt, HE.out, h3]; rfl⟩
          case measure => simp [intOf]; omega
    · go_wp2
      go_ret
      refine ⟨ret_bool ?_, 0, rfl⟩
      have h3 := HE.out
      rw [List.take_of_length_le (by omega)] at h3
      exact h3.symm

/-- A row of one row of numbers, made for the call. -/
theorem IsRows.one {w : World} {v : Value} {l : List Int} (m : Nat) (e : TypeId) (h : IsInts w v l) (hm : m = w.heap.size) : IsRows (w.alloc (.cells #[v] e)) (.slice (some ⟨m, 0, none⟩) 1 1) [l] := by
  subst hm
  have hb := (Below.refl w.heap.size w).alloc (Nat.le_refl _) (Obj.cells #[v] e)
  refine ⟨fun _ => v, ⟨_, _, w.heap.size, 0, rfl, Nat.le_refl _, by simp [maxLen], by simp [maxN], (fun h => by cases h), fun _ => rfl, ?_⟩, ?_⟩
  · intro j hj
    obtain rfl : j = 0 := by simpa using hj
    exact cell_one_new _ _ _ 0 v rfl
  · intro j hj
    obtain rfl : j = 0 := by simpa using hj
    exact h.below hb

theorem AValid_c (w : World) (vg : Value) (g : Gm) (hg : IsGame w vg g) :
    Calls Try.prog 32 #[vg] w (Calm (.bool (validB g)) w) := by
  obtain ⟨v0, v1, v2, rfl, hi0, hi1, hi2⟩ := hg
  obtain ⟨⟨ao0, cap0, b0, off0, rfl, g0⟩, _⟩ := id hi0
  obtain ⟨⟨ao1, cap1, b1, off1, rfl, g1⟩, _⟩ := id hi1
  obtain ⟨V, ⟨ao2, cap2, b2, off2, rfl, g2⟩, hr⟩ := id hi2
  have hn0 := g0.nb
  have hn1 := g1.nb
  have hn2 := g2.nb
  by_cases h1 : g.owner.length ≤ 3000
  case neg =>
    go_enter Try.func32, Try.ntmps32
    go_wp2
    go_ret
    refine ⟨ret_bool ?_, (Below.refl _ _).alloc (Nat.le_refl _) _⟩
    simp [validB, h1]
  by_cases h2 : g.prio.length = g.owner.length
  case neg =>
    have hne : ((g.prio.length : Int) != g.owner.length) = true := by simp; omega
    go_enter Try.func32, Try.ntmps32
    go_wp2
    go_ret
    refine ⟨ret_bool ?_, (Below.refl _ _).alloc (Nat.le_refl _) _⟩
    simp [validB, h2]
  by_cases h3 : g.succ.length = g.owner.length
  case neg =>
    have hne : ((g.prio.length : Int) != g.owner.length) = false := by simp; omega
    have hne2 : ((g.succ.length : Int) != g.owner.length) = true := by simp; omega
    have H2 := Lib.hid h2
    clear h2
    go_enter Try.func32, Try.ntmps32
    go_wp2
    go_ret
    refine ⟨ret_bool ?_, (Below.refl _ _).alloc (Nat.le_refl _) _⟩
    simp [validB, h3]
  have hne : ((g.prio.length : Int) != g.owner.length) = false := by simp; omega
  have hne2 : ((g.succ.length : Int) != g.owner.length) = false := by simp; omega
  have H2 := Lib.hid h2
  have H3 := Lib.hid h3
  clear h2 h3
  have hI : ((g.owner.length : Int)) ≤ 3000 := by omega
  go_enter Try.func32, Try.ntmps32
  go_wp2
  go_loop [2, 5, 28] (fun r _ i => ∃ k : Nat, i = .int .i64 k ∧ r = .bool false ∧ k ≤ g.succ.length ∧ (g.succ.take k).all (fun s => !s.isEmpty) = true) (fun _ _ i => g.succ.length - (intOf i).toNat)
  case atStart => exact ⟨0, rfl, rfl, by omega, by simp⟩
  case round =>
    obtain ⟨k, rfl, rfl, hk, heq⟩ := hrel
    have HE := Lib.hid heq
    clear heq
    by_cases hlt : k < g.succ.length
    · obtain rfl := g2.ad (by omega)
      have c2 := g2.el k hlt
      obtain ⟨⟨ao, cap, b, off, hv, g3⟩, _⟩ := hr k hlt
      rw [hv] at c2
      have hn := g3.nb
      clear hv hr g3
      have cB := cellB ((Below.refl _ _).alloc (Nat.le_refl _) (Obj.cells #[Value.slice ao0 g.owner.length cap0, Value.slice ao1 g.prio.length cap1, Value.slice (some ⟨b2, off2, none⟩) g.succ.length cap2] 25)) c2
      rw [getD_lt _ _ _ hlt] at cB hn
      go_wp2
      · have h5 : ((g.succ[k].length : Int) == 0) = true := by assumption
        go_ret
        refine ⟨ret_bool ?_, (Below.refl _ _).alloc (Nat.le_refl _) _⟩
        have h3 := all_false_of g.succ (fun s => !s.isEmpty) k hlt (by simp at h5 ⊢; exact h5)
        simp [validB, h3]
      · have h5 : ((g.succ[k].length : Int) == 0) = false := by assumption
        go_round
        case rel => exact ⟨k + 1, by go_num, rfl, by omega, by rw [all_take_succ _ _ _ hlt, HE.out]; simp at h5 ⊢; exact h5⟩
        case measure => simp [intOf]; omega
    · have h4 : g.succ.all (fun s => !s.isEmpty) = true := by
        have h3 := HE.out
        rwa [List.take_of_length_le (by omega)] at h3
      have H4 := Lib.hid h4
      clear h4 HE
      have hBx : Below w.heap.size w (w.alloc (Obj.cells #[Value.slice ao0 g.owner.length cap0, Value.slice ao1 g.prio.length cap1, Value.slice ao2 g.succ.length cap2] 25)) := (Below.refl _ _).alloc (Nat.le_refl _) _
      rcases Bool.eq_false_or_eq_true (withinB 1 [g.owner]) with hq1 | hq1
      · rcases Bool.eq_false_or_eq_true (withinB 30000 [g.prio]) with hq2 | hq2
        · go_wp2_with fail
          refine (within_c _ _ _ _ (IsRows.one _ _ (hi0.below hBx) (by simp))).mono ?_
          rintro e w1 ⟨rfl, n1, rfl⟩
          go_wp2_with fail
          refine (within_c _ _ _ _ (IsRows.one _ _ (hi1.below (by repeat (first | exact Below.refl _ _ | assumption | (refine belA ?_ _) | (refine belD ?_ _)))) (by simp))).mono ?_
          rintro e w2 ⟨rfl, n2, rfl⟩
          go_wp2_with fail
          refine (within_c _ _ _ _ (hi2.below (by repeat (first | exact Below.refl _ _ | assumption | (refine belA ?_ _) | (refine belD ?_ _))))).mono ?_
          rintro e w3 ⟨rfl, n3, rfl⟩
          go_wp2_with fail
          go_ret
          refine ⟨ret_bool ?_, (by repeat (first | exact Below.refl _ _ | assumption | (refine belA ?_ _) | (refine belD ?_ _)))⟩
          have h2 := H2.out
          have h3 := H3.out
          have h4 := H4.out
          simp [withinB] at hq1 hq2
          simp only [validB, h1, h2, h3, h4, hq1, hq2, withinB]
          simp
        · go_wp2_with fail
          refine (within_c _ _ _ _ (IsRows.one _ _ (hi0.below hBx) (by simp))).mono ?_
          rintro e w1 ⟨rfl, n1, rfl⟩
          go_wp2_with fail
          refine (within_c _ _ _ _ (IsRows.one _ _ (hi1.below (by repeat (first | exact Below.refl _ _ | assumption | (refine belA ?_ _) | (refine belD ?_ _)))) (by simp))).mono ?_
          rintro e w2 ⟨rfl, n2, rfl⟩
          go_wp2_with fail
          go_ret
          refine ⟨ret_bool ?_, (by repeat (first | exact Below.refl _ _ | assumption | (refine belA ?_ _) | (refine belD ?_ _)))⟩
          simp [withinB] at hq2
          simp [validB, hq2]
      · go_wp2_with fail
        refine (within_c _ _ _ _ (IsRows.one _ _ (hi0.below hBx) (by simp))).mono ?_
        rintro e w1 ⟨rfl, n1, rfl⟩
        go_wp2_with fail
        go_ret
        refine ⟨ret_bool ?_, (by repeat (first | exact Below.refl _ _ | assumption | (refine belA ?_ _) | (refine belD ?_ _)))⟩
        simp [withinB] at hq1
        simp [validB, hq1]

theorem greatest_c (w : World) : Calls Try.prog 47 #[] w fun e w' => e = .returned (.int .i64 30000) ∧ w' = w := by
  go_enter Try.func47, Try.ntmps47
  go_wp2
  go_ret
  exact ⟨rfl, rfl⟩

set_option maxRecDepth 100000 in
set_option maxHeartbeats 4000000 in
theorem RValid_c (w : World) (vg : Value) (g : Gm) (hg : IsGame w vg g) :
    Calls Try.prog 29 #[vg] w (Calm (.bool (validB g)) w) := by
  obtain ⟨v0, v1, v2, rfl, ⟨⟨ao0, cap0, b0, off0, rfl, g0⟩, _⟩, ⟨⟨ao1, cap1, b1, off1, rfl, g1⟩, _⟩, ⟨V, ⟨ao2, cap2, b2, off2, rfl, g2⟩, hr⟩⟩ := hg
  have hn0 := g0.nb
  have hn1 := g1.nb
  have hn2 := g2.nb
  by_cases h1 : g.owner.length ≤ 3000
  case neg =>
    go_enter Try.func29, Try.ntmps29
    go_wp2
    go_ret
    refine ⟨ret_bool ?_, (by repeat (first | exact Below.refl _ _ | assumption | (refine belA ?_ _) | (refine belD ?_ _)))⟩
    simp [validB, h1]
  by_cases h2 : g.prio.length = g.owner.length
  case neg =>
    have hne : ((g.prio.length : Int) != g.owner.length) = true := by simp; omega
    go_enter Try.func29, Try.ntmps29
    go_wp2
    go_ret
    refine ⟨ret_bool ?_, (by repeat (first | exact Below.refl _ _ | assumption | (refine belA ?_ _) | (refine belD ?_ _)))⟩
    simp [validB, h2]
  by_cases h3 : g.succ.length = g.owner.length
  case neg =>
    have hne : ((g.prio.length : Int) != g.owner.length) = false := by simp; omega
    have hne2 : ((g.succ.length : Int) != g.owner.length) = true := by simp; omega
    have H2 := Lib.hid h2
    clear h2
    go_enter Try.func29, Try.ntmps29
    go_wp2
    go_ret
    refine ⟨ret_bool ?_, (by repeat (first | exact Below.refl _ _ | assumption | (refine belA ?_ _) | (refine belD ?_ _)))⟩
    simp [validB, h3]
  have hne : ((g.prio.length : Int) != g.owner.length) = false := by simp; omega
  have hne2 : ((g.succ.length : Int) != g.owner.length) = false := by simp; omega
  have H2 := Lib.hid h2
  have H3 := Lib.hid h3
  clear h2 h3
  have hI : ((g.owner.length : Int)) ≤ 3000 := by omega
  have H1 := Lib.hid h1
  clear h1 hn0 hn1 hn2
  go_enter Try.func29, Try.ntmps29
  go_wp2
  clear hne hne2
  go_loopg [2, 4, 5] g.owner.length (fun gh r i _ wr => ∃ k : Nat, gh = g.owner.length - k ∧ i = .int .i64 k ∧ r = .bool false ∧ Below w.heap.size w wr ∧ wr.heap[w.heap.size]? = some (.cells #[Value.slice ao0 g.owner.length cap0, Value.slice ao1 g.prio.length cap1, Value.slice ao2 g.succ.length cap2] 25 (0, 0)) ∧ k ≤ g.owner.length ∧ Hid (∀ i, i < k → okB g i = true))
  case atStart => exact ⟨0, rfl, rfl, rfl, (by repeat (first | exact Below.refl _ _ | assumption | (refine belA ?_ _) | (refine belD ?_ _))), heap_alloc_new _ _, by omega, fun i hi => absurd hi (by omega)⟩
  case round =>
    obtain ⟨k, hgk, rfl, rfl, hB, hbox, hk, HE⟩ := hrel
    have HG := Lib.hid hgk
    clear hgk
    have d0 : wr.cell? ⟨w.heap.size, 0, none⟩ = some (Value.slice ao0 g.owner.length cap0) := cell_of_row _ _ 0 _ _ _ hbox
    have d1 : wr.cell? ⟨w.heap.size, 1, none⟩ = some (Value.slice ao1 g.prio.length cap1) := cell_of_row _ _ 1 _ _ _ hbox
    have d2 : wr.cell? ⟨w.heap.size, 2, none⟩ = some (Value.slice ao2 g.succ.length cap2) := cell_of_row _ _ 2 _ _ _ hbox
    have HBX := Lib.hid hbox
    clear hbox
    by_cases hlt : k < g.owner.length
    · have hlt1 : k < g.prio.length := by rw [H2.out]; exact hlt
      have hlt2 : k < g.succ.length := by rw [H3.out]; exact hlt
      obtain rfl := g0.ad (by omega)
      obtain rfl := g1.ad (by omega)
      obtain rfl := g2.ad (by omega)
      have c0 := cellB hB (g0.el k hlt)
      have c1 := cellB hB (g1.el k hlt1)
      have c2 := cellB hB (g2.el k hlt2)
      obtain ⟨⟨ao, cap, b, off, hv, g3⟩, _⟩ := hr k hlt2
      rw [hv] at c2
      unfold ivF at c0 c1
      rw [getD_lt _ _ _ hlt] at c0
      rw [getD_lt _ _ _ hlt1] at c1
      rw [getD_lt _ _ _ hlt2] at c2 g3
      have hn := g3.nb
      clear hv hr
      have hok : Hid (okB g k = ((decide (0 ≤ g.owner[k]) && decide (g.owner[k] ≤ 1)) && (decide (0 ≤ g.prio[k]) && decide (g.prio[k] ≤ 30000)) && !g.succ[k].isEmpty && inB ((g.owner.length : Int) - 1) g.succ[k])) := by
        show _ = _
        unfold okB; rw [getD_lt _ _ _ hlt, getD_lt _ _ _ hlt1, getD_lt _ _ _ hlt2]
      have hP : (g.owner[k] != 0) = true ∧ (g.owner[k] != 1) = true ∨ ((g.owner[k] != 0) = false ∨ ((g.owner[k] != 0) = true ∧ (g.owner[k] != 1) = false)) ∧ (g.prio[k] < 0 ∨ ¬ g.prio[k] < 0 ∧ 30000 < g.prio[k] ∨ (¬ g.prio[k] < 0 ∧ ¬ 30000 < g.prio[k]) ∧ ((g.succ[k].length : Int) == 0) = true ∨ (¬ g.prio[k] < 0 ∧ ¬ 30000 < g.prio[k]) ∧ ((g.succ[k].length : Int) == 0) = false) := by
        by_cases ho : (g.owner[k] != 0) = true ∧ (g.owner[k] != 1) = true
        · exact .inl ho
        refine .inr ⟨?_, ?_⟩
        · simp only [bne_iff_ne, bne_eq_false_iff_eq] at ho ⊢; omega
        by_cases a : g.prio[k] < 0
        · exact .inl a
        by_cases b : 30000 < g.prio[k]
        · exact .inr (.inl ⟨a, b⟩)
        cases hh : ((g.succ[k].length : Int) == 0)
        · exact .inr (.inr (.inr ⟨⟨a, b⟩, rfl⟩))
        · exact .inr (.inr (.inl ⟨⟨a, b⟩, rfl⟩))
      go_upto_region 7 with (fail)
      go_cut [69] (fun s wx => (∃ n, wx = wr.drewN n) ∧ ∃ z, s = .bool z ∧ (z = true → Hid (okB g k = false)) ∧ (z = false → Hid (okB g k = inB ((g.owner.length : Int) - 1) g.succ[k])))
      case first =>
        refine wp_region_quiet_lit (by kernel_rfl) (by kernel_rfl) ?_
        rcases hP with ⟨t0, t1⟩ | ⟨hO, hP⟩
        · ((repeat (go_big_quiet_step (fail))); refine wpQuiet_nil ?_; rintro _ ⟨nq, rfl⟩)
          go_wp2_with fail
          go_meet
          case rel =>
            refine ⟨⟨_, rfl⟩, true, rfl, fun _ => ?_, fun h => by cases h⟩
            show _ = _
            rw [hok.out]
            simp only [bne_iff_ne] at t0 t1
            simp; omega
        rcases hO with t0 | ⟨t0, t1⟩
        all_goals
          rcases hP with p0 | ⟨p0, p1⟩ | ⟨⟨p0, p1⟩, p2⟩ | ⟨⟨p0, p1⟩, p2⟩
          · ((repeat (go_big_quiet_step (fail))); refine wpQuiet_nil ?_; rintro _ ⟨nq, rfl⟩)
            go_wp2_with fail
            go_meet
            case rel =>
              refine ⟨⟨_, rfl⟩, true, rfl, fun _ => ?_, fun h => by cases h⟩
              show _ = _
              rw [hok.out]
              simp; omega
          · ((repeat (go_big_quiet_step ((go_at_call 47; refine (greatest_c _).mono ?_; rintro e w' ⟨rfl, rfl⟩; exact ⟨rfl, _, rfl⟩)))); refine wpQuiet_nil ?_; rintro _ ⟨nq, rfl⟩)
            go_wp2_with fail
            go_meet
            case rel =>
              refine ⟨⟨_, rfl⟩, true, rfl, fun _ => ?_, fun h => by cases h⟩
              show _ = _
              rw [hok.out]
              simp; omega
          · ((repeat (go_big_quiet_step ((go_at_call 47; refine (greatest_c _).mono ?_; rintro e w' ⟨rfl, rfl⟩; exact ⟨rfl, _, rfl⟩)))); refine wpQuiet_nil ?_; rintro _ ⟨nq, rfl⟩)
            go_wp2_with fail
            go_meet
            case rel =>
              refine ⟨⟨_, rfl⟩, true, rfl, fun _ => ?_, fun h => by cases h⟩
              show _ = _
              rw [hok.out]
              simp at p2 ⊢; simp [p2]
          · ((repeat (go_big_quiet_step ((go_at_call 47; refine (greatest_c _).mono ?_; rintro e w' ⟨rfl, rfl⟩; exact ⟨rfl, _, rfl⟩)))); refine wpQuiet_nil ?_; rintro _ ⟨nq, rfl⟩)
            go_wp2_with fail
            go_meet
            case rel =>
              refine ⟨⟨_, rfl⟩, false, rfl, (fun h => by cases h), fun _ => ?_⟩
              show _ = _
              rw [hok.out]
              have ho : 0 ≤ g.owner[k] ∧ g.owner[k] ≤ 1 := by first | (simp at t0; omega) | (simp at t1; omega)
              simp at p2
              simp [p0, p1, p2, ho]
      case rest =>
        obtain ⟨⟨n1, rfl⟩, z, rfl, hz1, hz2⟩ := hcut
        have c2x := Lib.hid c2
        clear hP hok c0 c1 c2 d0 d1 d2
        cases z
        · have HZ := hz2 rfl
          clear hz1 hz2
          go_wp2
          go_loopg [2, 5] g.succ[k].length (fun gh r i wx => ∃ j : Nat, gh = g.succ[k].length - j ∧ i = .int .i64 j ∧ r = .bool false ∧ wx = wr.drewN n1 ∧ j ≤ g.succ[k].length ∧ Hid (inB ((g.owner.length : Int) - 1) (g.succ[k].take j) = true))
          case atStart => exact ⟨0, rfl, rfl, rfl, rfl, by omega, by simp [inB, Hid]⟩
          case round =>
            obtain ⟨j, hgj, rfl, rfl, rfl, hj, HJ⟩ := hrel
            have HGJ := Lib.hid hgj
            clear hgj
            by_cases hltj : j < g.succ[k].length
            · obtain rfl := g3.ad (by omega)
              have c3 := cellB hB (g3.el j hltj)
              unfold ivF at c3
              rw [getD_lt _ _ _ hltj] at c3
              have d0 : wr.cell? ⟨w.heap.size, 0, none⟩ = some (Value.slice (some ⟨b0, off0, none⟩) g.owner.length cap0) := cell_of_row _ _ 0 _ _ _ HBX.out
              have d2 : wr.cell? ⟨w.heap.size, 2, none⟩ = some (Value.slice (some ⟨b2, off2, none⟩) g.succ.length cap2) := cell_of_row _ _ 2 _ _ _ HBX.out
              have c2 := c2x.out
              go_wp2
              · have q : g.succ[k][j] < 0 ∨ ↑g.owner.length ≤ g.succ[k][j] := by assumption
                go_ret
                refine ⟨ret_bool (validB_false H1.out H2.out H3.out hlt ?_), (by repeat (first | exact Below.refl _ _ | assumption | (refine belA ?_ _) | (refine belD ?_ _)))⟩
                rw [HZ.out]
                exact all_false_of _ _ j hltj (by simp; omega)
              · have q : 0 ≤ g.succ[k][j] ∧ g.succ[k][j] < ↑g.owner.length := by assumption
                go_roundg (g.succ[k].length - (j + 1))
                case measure => have := HGJ.out; omega
                case rel =>
                  refine ⟨j + 1, rfl, by go_num, rfl, rfl, by omega, ?_⟩
                  show _ = _
                  have h3 := HJ.out
                  unfold inB at h3 ⊢
                  rw [all_take_succ _ _ _ hltj, h3]
                  simp; omega
              · have q : g.succ[k][j] < 0 := by assumption
                go_ret
                refine ⟨ret_bool (validB_false H1.out H2.out H3.out hlt ?_), (by repeat (first | exact Below.refl _ _ | assumption | (refine belA ?_ _) | (refine belD ?_ _)))⟩
                rw [HZ.out]
                exact all_false_of _ _ j hltj (by simp; omega)
            · have d2 : wr.cell? ⟨w.heap.size, 2, none⟩ = some (Value.slice (some ⟨b2, off2, none⟩) g.succ.length cap2) := cell_of_row _ _ 2 _ _ _ HBX.out
              have c2 := c2x.out
              go_wp2
              go_roundg (g.owner.length - (k + 1))
              case measure => have := HG.out; omega
              case rel =>
                refine ⟨k + 1, rfl, by go_num, rfl, (by repeat (first | exact Below.refl _ _ | assumption | (refine belA ?_ _) | (refine belD ?_ _))), HBX.out, by omega, fun i hi => ?_⟩
                rcases Nat.lt_succ_iff_lt_or_eq.1 hi with h | rfl
                · exact HE.out i h
                · have h3 := HJ.out
                  rw [List.take_of_length_le (by omega)] at h3
                  rw [HZ.out, h3]
        · have HZ := hz1 rfl
          clear hz1 hz2
          go_wp2
          go_ret
          refine ⟨ret_bool (validB_false H1.out H2.out H3.out hlt HZ.out), (by repeat (first | exact Below.refl _ _ | assumption | (refine belA ?_ _) | (refine belD ?_ _)))⟩
    · go_wp2
      go_ret
      refine ⟨ret_bool (validB_true H1.out H2.out H3.out fun i hi => HE.out i (by omega)), hB⟩

def fitsB (g : Gm) (player : Int) (n : Nat) : Bool := (decide (player = 0) || decide (player = 1)) && validB g && decide (n = g.owner.length)

def atB (l : List Bool) (x : Int) : Bool := l.getD x.toNat false

def canB (g : Gm) (p : Int) (s : List Bool) (i : Nat) : Bool :=
  if g.owner.getD i 0 = p then (g.succ.getD i []).any (atB s) else (g.succ.getD i []).all (atB s)

def notL (l : List Bool) : List Bool := l.map fun b => !b

structure Fits (g : Gm) (p : Int) (n : Nat) : Prop where
  pl : p = 0 ∨ p = 1
  le : n ≤ 3000
  on : g.owner.length = n
  pn : g.prio.length = n
  sn : g.succ.length = n
  ow : ∀ i, i < n → 0 ≤ g.owner.getD i 0 ∧ g.owner.getD i 0 ≤ 1
  ne : ∀ i, i < n → g.succ.getD i [] ≠ []
  rg : ∀ i, i < n → ∀ x ∈ g.succ.getD i [], 0 ≤ x ∧ x < n

theorem valid_lens {g : Gm} (h : validB g = true) : g.owner.length ≤ 3000 ∧ g.prio.length = g.owner.length ∧ g.succ.length = g.owner.length := by
  simp only [validB, Bool.and_eq_true, decide_eq_true_eq] at h
  exact ⟨h.1.1.1.1.1.1, h.1.1.1.1.1.2, h.1.1.1.1.2⟩

theorem fits_of {g : Gm} {p : Int} {n : Nat} (h : fitsB g p n = true) : Fits g p n := by
  simp only [fitsB, Bool.and_eq_true, Bool.or_eq_true, decide_eq_true_eq] at h
  obtain ⟨⟨h1, h2⟩, rfl⟩ := h
  obtain ⟨a, b, c⟩ := valid_lens h2
  have hv := (validB_iff g a b c).1 h2
  simp only [okB, Bool.and_eq_true, decide_eq_true_eq, inB, List.all_eq_true] at hv
  refine ⟨h1, a, rfl, b, c, fun i hi => (hv i hi).1.1.1, fun i hi he => ?_, fun i hi x hx => ?_⟩
  · have := (hv i hi).1.2
    rw [he] at this; simp at this
  · have := (hv i hi).2 x hx
    omega

def trapB (g : Gm) (p : Int) (s : List Bool) : Bool := (List.range s.length).all fun i => !s.getD i false || canB g (1 - p) s i

/-- Behind the box of a game: what a world holds of it. -/
structure Boxed (w wr : World) (cs : Array Value) : Prop where
  bl : Below w.heap.size w wr
  bx : wr.heap[w.heap.size]? = some (.cells cs 25 (0, 0))

theorem Boxed.start {w w1 : World} {cs : Array Value} (hb : Below (w.alloc (.cells cs 25)).heap.size (w.alloc (.cells cs 25)) w1) : Boxed w w1 cs :=
  ⟨Below.trans (bel_box _) (hb.mono (by simp)), (hb.block _ (by simp)).trans (heap_alloc_new _ _)⟩

theorem Boxed.cell {w wr : World} {cs : Array Value} (h : Boxed w wr cs) (k : Nat) {v : Value} (hv : cs[k]? = some v) : wr.cell? ⟨w.heap.size, k, none⟩ = some v :=
  (cell_of_row _ _ k _ _ _ h.bx).trans hv

theorem Boxed.lt {w wr : World} {cs : Array Value} (h : Boxed w wr cs) : w.heap.size < wr.heap.size := (Array.getElem?_eq_some_iff.1 h.bx).1

theorem Boxed.step {w wr w1 : World} {cs : Array Value} (h : Boxed w wr cs) (hb : Below wr.heap.size wr w1) : Boxed w w1 cs :=
  ⟨h.bl.trans (hb.mono h.bl.size), (hb.block _ h.lt).trans h.bx⟩

theorem Boxed.stepB {w wr w1 : World} {cs : Array Value} (h : Boxed w wr cs) (hb : Below (w.heap.size + 1) wr w1) : Boxed w w1 cs :=
  ⟨h.bl.trans (hb.mono (by omega)), (hb.block _ (by omega)).trans h.bx⟩

/-- A row with elements lies in a block. -/
theorem OB.row {w : World} {base : Nat} {v : Value} {l : List Bool} (h : OB w base v l) (hl : 0 < l.length) : ∃ g cap, v = .slice (some ⟨g, 0, none⟩) l.length cap ∧ base ≤ g ∧ g < w.heap.size := by
  rcases h.2 with ⟨_, h0⟩ | ⟨g, cap, cur, hv, hb, hg, _⟩
  · omega
  · exact ⟨g, cap, hv, hb, (Array.getElem?_eq_some_iff.1 hg).1⟩

theorem OB.slice {w : World} {base : Nat} {v : Value} {l : List Bool} (h : OB w base v l) : ∃ ao cap, v = .slice ao l.length cap := by
  rcases h.2 with ⟨hv, h0⟩ | ⟨g, cap, cur, hv, hb, hg, _⟩
  · exact ⟨none, 0, by rw [hv, h0]⟩
  · exact ⟨_, cap, hv⟩

theorem OB.base {w : World} {base base' : Nat} {v : Value} {l : List Bool} (h : OB w base v l) (hb : base' ≤ base) : OB w base' v l := by
  refine ⟨h.1, ?_⟩
  rcases h.2 with h0 | ⟨g, cap, cur, hv, hg, r⟩
  · exact .inl h0
  · exact .inr ⟨g, cap, cur, hv, Nat.le_trans hb hg, r⟩

theorem OI.base {w : World} {base base' : Nat} {v : Value} {l : List Int} (h : OI w base v l) (hb : base' ≤ base) : OI w base' v l := by
  refine ⟨h.1, ?_⟩
  rcases h.2 with h0 | ⟨g, cap, cur, hv, hg, r⟩
  · exact .inl h0
  · exact .inr ⟨g, cap, cur, hv, Nat.le_trans hb hg, r⟩

/-- A row of the call's own stays where new memory is made, or other rows are written. -/
theorem OB.grown {w w' : World} {base : Nat} {v : Value} {l : List Bool} {row : Option Nat} (h : OB w base v l) (hg : w.grownBy w' row) (hne : v.ownBlock = none ∨ v.ownBlock ≠ row) : OB w' base v l := World.ownsRow.kept h hg hne

theorem OI.grown {w w' : World} {base : Nat} {v : Value} {l : List Int} {row : Option Nat} (h : OI w base v l) (hg : w.grownBy w' row) (hne : v.ownBlock = none ∨ v.ownBlock ≠ row) : OI w' base v l := World.ownsRow.kept h hg hne

theorem below_grown {w w' : World} (h : Below w.heap.size w w') : w.grownBy w' none := ⟨h.os, h.tape, h.output, h.size, fun k hk _ => h.block k hk⟩

theorem OB.below {w w' : World} {base : Nat} {v : Value} {l : List Bool} (h : OB w base v l) (hb : Below w.heap.size w w') : OB w' base v l := h.grown (below_grown hb) (by cases v.ownBlock <;> simp)

theorem OI.below {w w' : World} {base : Nat} {v : Value} {l : List Int} (h : OI w base v l) (hb : Below w.heap.size w w') : OI w' base v l := h.grown (below_grown hb) (by cases v.ownBlock <;> simp)

theorem OI_nil (w : World) (base : Nat) : OI w base (.slice none 0 0) [] := World.ownsRow_nil _ _ _ _

theorem OI.row {w : World} {base : Nat} {v : Value} {l : List Int} (h : OI w base v l) (hl : 0 < l.length) : ∃ g cap, v = .slice (some ⟨g, 0, none⟩) l.length cap ∧ base ≤ g ∧ g < w.heap.size := by
  rcases h.2 with ⟨_, h0⟩ | ⟨g, cap, cur, hv, hb, hg, _⟩
  · omega
  · exact ⟨g, cap, hv, hb, (Array.getElem?_eq_some_iff.1 hg).1⟩

theorem OI.slice {w : World} {base : Nat} {v : Value} {l : List Int} (h : OI w base v l) : ∃ ao cap, v = .slice ao l.length cap := by
  rcases h.2 with ⟨hv, h0⟩ | ⟨g, cap, cur, hv, hb, hg, _⟩
  · exact ⟨none, 0, by rw [hv, h0]⟩
  · exact ⟨_, cap, hv⟩

/-- Two rows lie in different blocks. -/
def Apart (v v' : Value) : Prop := ∀ g, v.ownBlock = some g → v'.ownBlock = some g → False

theorem Apart.symm {v v' : Value} (h : Apart v v') : Apart v' v := fun g h1 h2 => h g h2 h1

theorem Apart.ne {v v' : Value} (h : Apart v v') : v.ownBlock = none ∨ v.ownBlock ≠ v'.ownBlock := by
  cases hv : v.ownBlock with
  | none => exact .inl rfl
  | some g => exact .inr fun e => h g hv e.symm

theorem Apart.moved {w : World} {v u u' : Value} (h : Apart v u) (hm : Moved w u u') (hl : ∀ g, v.ownBlock = some g → g < w.heap.size) : Apart v u' := fun g h1 h2 => by
  rcases hm g h2 with e | e
  · exact h g h1 e
  · have := hl g h1; omega

theorem Apart.of_lt {w : World} {v v' : Value} (hl : ∀ g, v.ownBlock = some g → g < w.heap.size) (hg : ∀ g, v'.ownBlock = some g → w.heap.size ≤ g) : Apart v v' := fun g h1 h2 => by
  have := hl g h1; have := hg g h2; omega

theorem OB.lt' {w : World} {base : Nat} {v : Value} {l : List Bool} (h : OB w base v l) : ∀ g, v.ownBlock = some g → g < w.heap.size := fun g hg => (World.ownsRow.lt h g hg).2

theorem OI.lt' {w : World} {base : Nat} {v : Value} {l : List Int} (h : OI w base v l) : ∀ g, v.ownBlock = some g → g < w.heap.size := fun g hg => (World.ownsRow.lt h g hg).2

theorem OB.ge {w : World} {base : Nat} {v : Value} {l : List Bool} (h : OB w base v l) : ∀ g, v.ownBlock = some g → base ≤ g := fun g hg => (World.ownsRow.lt h g hg).1

theorem OI.ge {w : World} {base : Nat} {v : Value} {l : List Int} (h : OI w base v l) : ∀ g, v.ownBlock = some g → base ≤ g := fun g hg => (World.ownsRow.lt h g hg).1

theorem Boxed.grown {w wr w1 : World} {cs : Array Value} {v : Value} (h : Boxed w wr cs) (hg : wr.grownBy w1 v.ownBlock) (hv : ∀ g, v.ownBlock = some g → w.heap.size + 1 ≤ g) : Boxed w w1 cs :=
  h.stepB ((Below.refl _ _).grown hg h.lt hv)

/-- Only blocks with S have been written, of those that were there. -/
structure Only (S : Nat → Prop) (w w' : World) : Prop where
  os : w'.os = w.os
  tape : w'.tape = w.tape
  output : w'.output = w.output
  size : w.heap.size ≤ w'.heap.size
  block : ∀ k, k < w.heap.size → ¬ S k → w'.heap[k]? = w.heap[k]?

theorem Only.refl (S : Nat → Prop) (w : World) : Only S w w := ⟨rfl, rfl, rfl, Nat.le_refl _, fun _ _ _ => rfl⟩

theorem Only.trans {S : Nat → Prop} {a b c : World} (h : Only S a b) (k : Only S b c) : Only S a c :=
  ⟨k.os.trans h.os, k.tape.trans h.tape, k.output.trans h.output, Nat.le_trans h.size k.size, fun i hi hs => (k.block i (Nat.lt_of_lt_of_le hi h.size) hs).trans (h.block i hi hs)⟩

theorem Only.mono {S T : Nat → Prop} {a b : World} (h : Only S a b) (hs : ∀ k, k < a.heap.size → S k → T k) : Only T a b :=
  ⟨h.os, h.tape, h.output, h.size, fun i hi ht => h.block i hi (fun x => ht (hs i hi x))⟩

theorem Only.of_below {S : Nat → Prop} {a b : World} (h : Below a.heap.size a b) : Only S a b := ⟨h.os, h.tape, h.output, h.size, fun i hi _ => h.block i hi⟩

theorem Only.of_grown {a b : World} {r : Option Nat} (h : a.grownBy b r) : Only (fun k => r = some k) a b := ⟨h.os, h.tape, h.output, h.size, fun i hi hs => h.block i hi (fun e => hs e.symm)⟩

theorem Only.below {S : Nat → Prop} {a b : World} (h : Only S a b) (B : Nat) (hB : ∀ k, S k → B ≤ k) (hs : B ≤ a.heap.size) : Below B a b :=
  ⟨h.os, h.tape, h.output, h.size, fun k hk => h.block k (by omega) (fun x => by have := hB k x; omega)⟩

theorem Only.grown {S : Nat → Prop} {a b : World} (h : Only S a b) (g : Nat) (_hg : g < a.heap.size) (hs : ∀ k, S k → k = g) : a.grownBy b (some g) :=
  ⟨h.os, h.tape, h.output, h.size, fun k hk hr => h.block k hk (fun x => hr (by rw [hs k x]))⟩

theorem OB.only {S : Nat → Prop} {w w' : World} {base : Nat} {v : Value} {l : List Bool} (h : OB w base v l) (hg : Only S w w') (hne : ∀ k, v.ownBlock = some k → ¬ S k) : OB w' base v l := by
  refine ⟨h.1, ?_⟩
  rcases h.2 with hn | ⟨g, cap, cur, rfl, hb, hgg, rest⟩
  · exact .inl hn
  · exact .inr ⟨g, cap, cur, rfl, hb, by rw [hg.block g (Array.getElem?_eq_some_iff.1 hgg).1 (hne g rfl)]; exact hgg, rest⟩

theorem OI.only {S : Nat → Prop} {w w' : World} {base : Nat} {v : Value} {l : List Int} (h : OI w base v l) (hg : Only S w w') (hne : ∀ k, v.ownBlock = some k → ¬ S k) : OI w' base v l := by
  refine ⟨h.1, ?_⟩
  rcases h.2 with hn | ⟨g, cap, cur, rfl, hb, hgg, rest⟩
  · exact .inl hn
  · exact .inr ⟨g, cap, cur, rfl, hb, by rw [hg.block g (Array.getElem?_eq_some_iff.1 hgg).1 (hne g rfl)]; exact hgg, rest⟩

/-- The blocks that take writes to. -/
def GrowAt (ga gi gm gl : Nat) (vq : Value) (k : Nat) : Prop := k = ga ∨ k = gi ∨ k = gm ∨ k = gl ∨ vq.ownBlock = some k

section
variable {w : World} {B n ga gi gm gl : Nat} {vq : Value} {inn : List Bool} {mv lf q : List Int}
theorem heap_set_ne (w : World) (g j k : Nat) (u : Value) (h : k ≠ g) : (w.setCell ⟨g, j, none⟩ u).heap[k]? = w.heap[k]? := heap_setCell_other w ⟨g, j, none⟩ k u h
end

theorem Only.set {w : World} {S : Nat → Prop} (g j : Nat) (u : Value) (h : S g) : Only S w (w.setCell ⟨g, j, none⟩ u) :=
  (Only.of_grown (grown_set w g j u)).mono (fun k _ hk => by cases hk; exact h)

/-- What begin leaves behind k positions: the counters, the numbers, the members, the queue, the positions before each. -/
structure Beg where
  inn : List Bool
  mv : List Int
  lf : List Int
  q : List Int
  bf : List (List Int)

/-- One more position before each successor. -/
def pushAll (bf : List (List Int)) (v : Int) : List Int → List (List Int)
  | [] => bf
  | u :: us => pushAll (bf.set u.toNat (bf.getD u.toNat [] ++ [v])) v us

def begSt (g : Gm) (t : List Bool) (n : Nat) : Nat → Beg
  | 0 => ⟨List.replicate n false, List.replicate n 0, List.replicate n 0, [], List.replicate n []⟩
  | k + 1 =>
    let s := begSt g t n k
    let lf := s.lf.set k ((g.succ.getD k []).length : Int)
    let mv := s.mv.set k (-1)
    let bf := pushAll s.bf k (g.succ.getD k [])
    if t.getD k false then ⟨s.inn.set k true, mv.set k 0, lf, s.q ++ [(k : Int)], bf⟩ else ⟨s.inn, mv, lf, s.q, bf⟩

theorem info_ints : (Try.prog.info? 22).map (fun i => (i.zero, i.size, i.bytes)) = some (some (.slice none 0 0), 1, 24) := by kernel_rfl

/-- Rows of numbers of the call's own, one block each, under one block. -/
structure Rows (w : World) (B n ob : Nat) (vals : List Value) (rows : List (List Int)) : Prop where
  o : w.ownsRow B 22 1 (.slice (some ⟨ob, 0, none⟩) n n) n vals
  e : ∀ j, j < n → OI w B (vals.getD j undef) (rows.getD j [])
  a : ∀ i j, i < n → j < n → i ≠ j → Apart (vals.getD i undef) (vals.getD j undef)
  ob' : ∀ j, j < n → (vals.getD j undef).ownBlock ≠ some ob
  lv : vals.length = n
  lr : rows.length = n

theorem OB_made {w : World} {B g n : Nat} (h : w.heap[g]? = some (.cells (madeCells #[.bool false] n) 4 (0, 0))) (hb : B ≤ g) (hn : n ≤ 3000) : OB w B (.slice (some ⟨g, 0, none⟩) n n) (List.replicate n false) := by
  refine ⟨by simp, .inr ⟨g, n, _, ?_, hb, h, ?_, by simp only [maxLen]; omega, by simp [size_madeCells], ?_⟩⟩
  · simp
  · simp
  · rw [toList_madeCells_one]; simp

theorem OI_made {w : World} {B g n : Nat} (h : w.heap[g]? = some (.cells (madeCells #[.int .i64 0] n) 3 (0, 0))) (hb : B ≤ g) (hn : n ≤ 3000) : OI w B (.slice (some ⟨g, 0, none⟩) n n) (List.replicate n 0) := by
  refine ⟨by simp, .inr ⟨g, n, _, ?_, hb, h, ?_, by simp only [maxLen]; omega, by simp [size_madeCells], ?_⟩⟩
  · simp
  · simp
  · rw [toList_madeCells_one]; simp

theorem alloc_get (w : World) (o : Obj) (k : Nat) : (w.alloc o).heap[k]? = if k = w.heap.size then some o else w.heap[k]? := by
  show (w.heap.push o)[k]? = _
  rw [Array.getElem?_push]

theorem drew_heap (w : World) : w.drew.heap = w.heap := rfl

theorem Rows.made {W : World} {B ob n : Nat} (h : W.heap[ob]? = some (.cells (madeCells #[.slice none 0 0] n) 22 (0, 0))) (hb : B ≤ ob) (hn : n ≤ 3000) : Rows W B n ob (List.replicate n (.slice none 0 0)) (List.replicate n []) := by
  have hg : ∀ j, j < n → (List.replicate n (Value.slice none 0 0)).getD j undef = .slice none 0 0 := fun j hj => by simp [List.getD, hj]
  have hg2 : ∀ j, j < n → (List.replicate n ([] : List Int)).getD j [] = [] := fun j hj => by simp [List.getD, hj]
  refine ⟨⟨by simp, .inr ⟨ob, n, _, rfl, hb, h, Nat.le_refl _, by simp only [maxLen]; omega, by simp [size_madeCells], ?_⟩⟩, fun j hj => ?_, fun i j hi hj _ => ?_, fun j hj => ?_, by simp, by simp⟩
  · rw [toList_madeCells_one]; simp
  · rw [hg j hj, hg2 j hj]; exact OI_nil _ _
  · rw [hg i hi]; intro k hk; cases hk
  · rw [hg j hj]; intro hk; cases hk

theorem Rows.row {w : World} {B n ob : Nat} {vals : List Value} {rows : List (List Int)} (h : Rows w B n ob vals rows) : B ≤ ob ∧ ob < w.heap.size := World.ownsRow.lt h.o ob rfl

theorem Rows.cell {w : World} {B n ob : Nat} {vals : List Value} {rows : List (List Int)} (h : Rows w B n ob vals rows) {j : Nat} (hj : j < n) : w.cell? ⟨ob, j, none⟩ = some (vals.getD j undef) := by
  rw [World.ownsRow.cellAt h.o j (by omega), List.getD]
  have : j < vals.length := by rw [h.lv]; exact hj
  simp [this]

theorem Rows.fz {w : World} {B n ob : Nat} {vals : List Value} {rows : List (List Int)} (h : Rows w B n ob vals rows) (j : Nat) : w.frozen? ⟨ob, j, none⟩ = false := World.ownsRow.frozenAt h.o j

theorem ownsRow_only {S : Nat → Prop} {w w' : World} {base e size n : Nat} {v : Value} {l : List Value} (h : w.ownsRow base e size v n l) (hg : Only S w w') (hne : ∀ k, v.ownBlock = some k → ¬ S k) : w'.ownsRow base e size v n l := by
  refine ⟨h.1, ?_⟩
  rcases h.2 with hn | ⟨g, cap, cur, rfl, hb, hgg, rest⟩
  · exact .inl hn
  · exact .inr ⟨g, cap, cur, rfl, hb, by rw [hg.block g (Array.getElem?_eq_some_iff.1 hgg).1 (hne g rfl)]; exact hgg, rest⟩

theorem Rows.only {S : Nat → Prop} {w w' : World} {B n ob : Nat} {vals : List Value} {rows : List (List Int)} (h : Rows w B n ob vals rows) (hg : Only S w w') (ho : ¬ S ob) (hv : ∀ j, j < n → ∀ b, (vals.getD j undef).ownBlock = some b → ¬ S b) : Rows w' B n ob vals rows :=
  { h with
    o := ownsRow_only h.o hg (fun k hk => by cases hk; exact ho)
    e := fun j hj => (h.e j hj).only hg (hv j hj) }

section
variable {w w' : World} {B n ga gi gm gl ob : Nat} {vq vq' : Value} {vals : List Value} {inn inn' : List Bool} {mv lf q mv' lf' q' : List Int} {bf : List (List Int)}
theorem GrowAt.moved (hm : Moved w vq vq') {b : Nat} (hb : b < w.heap.size) (hn : ¬ GrowAt ga gi gm gl vq b) : ¬ GrowAt ga gi gm gl vq' b := by
  rintro (e | e | e | e | e)
  · exact hn (.inl e)
  · exact hn (.inr (.inl e))
  · exact hn (.inr (.inr (.inl e)))
  · exact hn (.inr (.inr (.inr (.inl e))))
  · rcases hm b e with e | e
    · exact hn (.inr (.inr (.inr (.inr e))))
    · omega
end

section
variable {w w' : World} {B n ga gi gm gl ob : Nat} {vq vq' : Value} {vals : List Value} {inn inn' : List Bool} {mv lf q mv' lf' q' : List Int} {bf : List (List Int)}
theorem Moved.refl (w : World) (v : Value) : Moved w v v := fun _ h => .inl h
end

section
variable {w w' : World} {B n ga gi gm gl ob : Nat} {vq vq' : Value} {vals : List Value} {inn inn' : List Bool} {mv lf q mv' lf' q' : List Int} {bf : List (List Int)}
theorem getD_set_eq {α : Type} (l : List α) (i : Nat) (a d : α) (h : i < l.length) : (l.set i a).getD i d = a := by simp [List.getD, h]
end

section
variable {w w' : World} {B n ga gi gm gl ob : Nat} {vq vq' : Value} {vals : List Value} {inn inn' : List Bool} {mv lf q mv' lf' q' : List Int} {bf : List (List Int)}
theorem getD_set_ne {α : Type} (l : List α) (i j : Nat) (a d : α) (h : i ≠ j) : (l.set i a).getD j d = l.getD j d := by simp [List.getD, List.getElem?_set_ne h]
end

theorem pushAll_snoc (bf : List (List Int)) (v u : Int) (l : List Int) : pushAll bf v (l ++ [u]) = (pushAll bf v l).set u.toNat ((pushAll bf v l).getD u.toNat [] ++ [v]) := by
  induction l generalizing bf with
  | nil => rfl
  | cons a l ih => simp only [List.cons_append, pushAll]; exact ih _

theorem pushAll_len (bf : List (List Int)) (v : Int) (l : List Int) : (pushAll bf v l).length = bf.length := by
  induction l generalizing bf with
  | nil => rfl
  | cons a l ih => rw [pushAll, ih]; simp

theorem pushAll_row (bf : List (List Int)) (v : Int) (l : List Int) (j : Nat) : ((pushAll bf v l).getD j []).length ≤ (bf.getD j []).length + l.length := by
  induction l generalizing bf with
  | nil => simp [pushAll]
  | cons a l ih =>
    rw [pushAll]
    refine Nat.le_trans (ih _) ?_
    by_cases e : a.toNat = j
    · subst e
      by_cases h : a.toNat < bf.length
      · rw [getD_set_eq _ _ _ _ h, List.length_append, List.length_singleton, List.length_cons]; omega
      · simp [List.getD, h] <;> omega
    · rw [getD_set_ne _ _ _ _ _ e, List.length_cons]; omega

theorem begSt_len (g : Gm) (t : List Bool) (n k : Nat) : (begSt g t n k).q.length ≤ k ∧ (begSt g t n k).bf.length = n := by
  induction k with
  | zero => simp [begSt]
  | succ k ih =>
    refine ⟨?_, ?_⟩
    · simp only [begSt]; split <;> simp <;> omega
    · simp only [begSt]; split <;> simp [pushAll_len, ih.2]

theorem begSt_row (g : Gm) (t : List Bool) (n : Nat) (hS : ∀ i, (g.succ.getD i []).length ≤ 1000) (k j : Nat) : ((begSt g t n k).bf.getD j []).length ≤ 1000 * k := by
  induction k with
  | zero =>
    simp only [begSt, List.getD, List.getElem?_replicate]
    split <;> simp
  | succ k ih =>
    have h1 := pushAll_row (begSt g t n k).bf k (g.succ.getD k []) j
    have h2 := hS k
    simp only [begSt]
    split <;> (simp only; omega)

theorem Boxed.only {S : Nat → Prop} {w wr w1 : World} {cs : Array Value} (h : Boxed w wr cs) (ho : Only S wr w1) (hS : ∀ k, S k → w.heap.size + 1 ≤ k) : Boxed w w1 cs := h.stepB (ho.below _ hS h.lt)

/-- The members, their numbers, the counters, the queue. -/
structure Att where
  inn : List Bool
  mv : List Int
  lf : List Int
  q : List Int

def attStep (g : Gm) (p : Int) (u : Int) (st : Att) (v : Int) : Att :=
  let lf := st.lf.set v.toNat (st.lf.getD v.toNat 0 - 1)
  if st.inn.getD v.toNat false = false ∧ (g.owner.getD v.toNat 0 = p ∨ lf.getD v.toNat 0 = 0) then ⟨st.inn.set v.toNat true, st.mv.set v.toNat (st.mv.getD u.toNat 0 + 1), lf, st.q ++ [v]⟩
  else ⟨st.inn, st.mv, lf, st.q⟩

def attAll (g : Gm) (p : Int) (u : Int) (st : Att) (l : List Int) : Att := l.foldl (attStep g p u) st

def attRound (g : Gm) (p : Int) (bf : List (List Int)) (st : Att) (k : Nat) : Att :=
  if k < st.q.length then attAll g p (st.q.getD k 0) st (bf.getD (st.q.getD k 0).toNat []) else st

def attIter (g : Gm) (p : Int) (bf : List (List Int)) (st : Att) : Nat → Att
  | 0 => st
  | k + 1 => attRound g p bf (attIter g p bf st k) k

/-- The attractor by the queue. -/
def attQ (g : Gm) (p : Int) (t : List Bool) : Att :=
  attIter g p (begSt g t t.length t.length).bf ⟨(begSt g t t.length t.length).inn, (begSt g t t.length t.length).mv, (begSt g t t.length t.length).lf, (begSt g t t.length t.length).q⟩ t.length

theorem attAll_snoc (g : Gm) (p u : Int) (st : Att) (l : List Int) (v : Int) : attAll g p u st (l ++ [v]) = attStep g p u (attAll g p u st l) v := by simp [attAll]

/-- What stays true of a state, N a bound on its numbers. -/
structure AttOK (n N : Nat) (st : Att) : Prop where
  li : st.inn.length = n
  lm : st.mv.length = n
  ll : st.lf.length = n
  qc : st.q.length = st.inn.count true
  qr : ∀ x ∈ st.q, 0 ≤ x ∧ x < n
  mr : ∀ i, -(N : Int) ≤ st.mv.getD i 0 ∧ st.mv.getD i 0 ≤ N
  lr : ∀ i, -(N : Int) ≤ st.lf.getD i 0 ∧ st.lf.getD i 0 ≤ N

theorem AttOK.qn {n N : Nat} {st : Att} (h : AttOK n N st) : st.q.length ≤ n := by
  rw [h.qc, ← h.li]; exact List.count_le_length

theorem AttOK.mono {n N M : Nat} {st : Att} (h : AttOK n N st) (hM : N ≤ M) : AttOK n M st :=
  { h with
    mr := fun i => by have := h.mr i; omega
    lr := fun i => by have := h.lr i; omega }

theorem getD_set_bd (l : List Int) (i j : Nat) (x : Int) (lo hi : Int) (h : ∀ i, lo ≤ l.getD i 0 ∧ l.getD i 0 ≤ hi) (hx : lo ≤ x ∧ x ≤ hi) : lo ≤ (l.set i x).getD j 0 ∧ (l.set i x).getD j 0 ≤ hi := by
  by_cases e : i = j
  · subst e
    by_cases hl : i < l.length
    · rw [getD_set_eq _ _ _ _ hl]; exact hx
    · have := h i
      simpa [List.getD, hl] using this
  · rw [getD_set_ne _ _ _ _ _ e]; exact h j

theorem count_set_true (l : List Bool) (i : Nat) (h : i < l.length) (hf : l[i] = false) : (l.set i true).count true = l.count true + 1 := by
  rw [List.count_set h]; simp [hf]

theorem attStep_ok {g : Gm} {p u v : Int} {n N : Nat} {st : Att} (h : AttOK n N st) (hv : 0 ≤ v ∧ v < n) : AttOK n (N + 1) (attStep g p u st v) := by
  have hvl : v.toNat < st.inn.length := by rw [h.li]; omega
  have h1 := h.lr v.toNat
  have h2 := h.mr u.toNat
  have hl := fun j => getD_set_bd st.lf v.toNat j (st.lf.getD v.toNat 0 - 1) (-((N + 1 : Nat) : Int)) ((N + 1 : Nat) : Int) (fun i => by have := h.lr i; omega) (by omega)
  have hm := fun j => getD_set_bd st.mv v.toNat j (st.mv.getD u.toNat 0 + 1) (-((N + 1 : Nat) : Int)) ((N + 1 : Nat) : Int) (fun i => by have := h.mr i; omega) (by omega)
  simp only [attStep]
  split
  · rename_i hc
    refine ⟨by simpa using h.li, by simpa using h.lm, by simpa using h.ll, ?_, ?_, hm, hl⟩
    · rw [count_set_true _ _ hvl (by have := hc.1; rwa [getD_lt _ _ _ hvl] at this), List.length_append, h.qc]; rfl
    · intro x hx
      rcases List.mem_append.1 hx with hx | hx
      · exact h.qr x hx
      · rw [List.mem_singleton.1 hx]; exact hv
  · exact ⟨h.li, h.lm, by simpa using h.ll, h.qc, h.qr, (h.mono (Nat.le_succ N)).mr, hl⟩

theorem attAll_ok {g : Gm} {p u : Int} {n N : Nat} {st : Att} (l : List Int) (h : AttOK n N st) (hl : ∀ v ∈ l, 0 ≤ v ∧ v < n) : AttOK n (N + l.length) (attAll g p u st l) := by
  induction l generalizing st N with
  | nil => exact h
  | cons a l ih =>
    have h1 := ih (N := N + 1) (attStep_ok (g := g) (p := p) (u := u) h (hl a List.mem_cons_self)) (fun v hv => hl v (List.mem_cons_of_mem _ hv))
    rw [List.length_cons, Nat.add_comm l.length 1, ← Nat.add_assoc]
    exact h1

theorem attRound_ok {g : Gm} {p : Int} {bf : List (List Int)} {n N L : Nat} {st : Att} {k : Nat} (h : AttOK n N st) (hb : ∀ j, (bf.getD j []).length ≤ L ∧ ∀ v ∈ bf.getD j [], 0 ≤ v ∧ v < n) : AttOK n (N + L) (attRound g p bf st k) := by
  unfold attRound
  split
  · exact (attAll_ok _ h (hb _).2).mono (by have := (hb (st.q.getD k 0).toNat).1; omega)
  · exact h.mono (by omega)

theorem attIter_ok {g : Gm} {p : Int} {bf : List (List Int)} {n N L : Nat} {st : Att} (h : AttOK n N st) (hb : ∀ j, (bf.getD j []).length ≤ L ∧ ∀ v ∈ bf.getD j [], 0 ≤ v ∧ v < n) (k : Nat) : AttOK n (N + k * L) (attIter g p bf st k) := by
  induction k with
  | zero => simpa [attIter] using h
  | succ k ih =>
    have := attRound_ok (g := g) (p := p) (k := k) ih hb
    rw [attIter]
    exact this.mono (by rw [Nat.add_mul]; omega)

theorem pushAll_mem {bf : List (List Int)} {v : Int} {l : List Int} {j : Nat} {x : Int} (h : x ∈ (pushAll bf v l).getD j []) : x ∈ bf.getD j [] ∨ x = v := by
  induction l generalizing bf with
  | nil => exact .inl h
  | cons a l ih =>
    rw [pushAll] at h
    rcases ih h with h | h
    · by_cases e : a.toNat = j
      · subst e
        by_cases hl : a.toNat < bf.length
        · rw [getD_set_eq _ _ _ _ hl] at h
          rcases List.mem_append.1 h with h | h
          · exact .inl h
          · exact .inr (List.mem_singleton.1 h)
        · simp [List.getD, hl] at h
      · rw [getD_set_ne _ _ _ _ _ e] at h; exact .inl h
    · exact .inr h

theorem begSt_ok (g : Gm) (t : List Bool) (n : Nat) (hS : ∀ i, (g.succ.getD i []).length ≤ 1000) (k : Nat) (hk : k ≤ n) :
    AttOK n 1000 ⟨(begSt g t n k).inn, (begSt g t n k).mv, (begSt g t n k).lf, (begSt g t n k).q⟩ ∧ (∀ j, k ≤ j → (begSt g t n k).inn.getD j false = false) ∧ ∀ j, ∀ v ∈ (begSt g t n k).bf.getD j [], 0 ≤ v ∧ v < n := by
  induction k with
  | zero =>
    have hz : ∀ i, -((1000 : Nat) : Int) ≤ (List.replicate n (0 : Int)).getD i 0 ∧ (List.replicate n (0 : Int)).getD i 0 ≤ ((1000 : Nat) : Int) := fun i => by
      simp only [List.getD, List.getElem?_replicate]; split <;> simp
    refine ⟨⟨by simp [begSt], by simp [begSt], by simp [begSt], by simp [begSt, List.count_replicate], by simp [begSt], hz, hz⟩, ?_, ?_⟩
    · intro j _
      simp only [begSt, List.getD, List.getElem?_replicate]; split <;> rfl
    · intro j v hv
      simp only [begSt, List.getD, List.getElem?_replicate] at hv
      split at hv <;> simp at hv
  | succ k ih =>
    obtain ⟨h1, h2, h3⟩ := ih (by omega)
    have hS := hS k
    have hl := fun j => getD_set_bd (begSt g t n k).lf k j ((g.succ.getD k []).length : Int) (-((1000 : Nat) : Int)) ((1000 : Nat) : Int) h1.lr (by omega)
    have hm := fun j => getD_set_bd (begSt g t n k).mv k j (-1) (-((1000 : Nat) : Int)) ((1000 : Nat) : Int) h1.mr (by omega)
    have hm2 := fun j => getD_set_bd ((begSt g t n k).mv.set k (-1)) k j 0 (-((1000 : Nat) : Int)) ((1000 : Nat) : Int) hm (by omega)
    have hb : ∀ j, ∀ v ∈ (pushAll (begSt g t n k).bf k (g.succ.getD k [])).getD j [], 0 ≤ v ∧ v < n := fun j v hv => by
      rcases pushAll_mem hv with h | h
      · exact h3 j v h
      · subst h; omega
    have hki : k < (begSt g t n k).inn.length := by have := h1.li; simp only at this; omega
    simp only [begSt]
    split
    · refine ⟨⟨by simpa using h1.li, by simpa using h1.lm, by simpa using h1.ll, ?_, ?_, hm2, hl⟩, ?_, hb⟩
      · simp only
        rw [count_set_true _ _ hki (by have := h2 k (Nat.le_refl _); rwa [getD_lt _ _ _ hki] at this), List.length_append]
        have := h1.qc
        simp only at this
        rw [this]; rfl
      · intro x hx
        rcases List.mem_append.1 hx with hx | hx
        · exact h1.qr x hx
        · rw [List.mem_singleton.1 hx]; omega
      · intro j hj
        simp only
        rw [getD_set_ne _ _ _ _ _ (by omega)]
        exact h2 j (by omega)
    · exact ⟨⟨h1.li, by simpa using h1.lm, by simpa using h1.ll, h1.qc, h1.qr, hm, hl⟩, fun j hj => h2 j (by omega), hb⟩

/-- A game in new memory. -/
def NewGame (g : Gm) (w : World) (e : Ending) (w' : World) : Prop := ∃ v, e = .returned v ∧ IsGame w' v g ∧ Below w.heap.size w w'

theorem pushAll_count (bf : List (List Int)) (v x : Int) (u : Nat) (hu : u < bf.length) : ∀ (l : List Int), (∀ y ∈ l, 0 ≤ y ∧ y < bf.length) →
    ((pushAll bf v l).getD u []).count x = (bf.getD u []).count x + if x = v then l.count (u : Int) else 0 := by
  intro l
  induction l generalizing bf with
  | nil => intro _; simp [pushAll]
  | cons a l ih =>
    intro hl
    have ha := hl a List.mem_cons_self
    have hal : a.toNat < bf.length := by omega
    rw [pushAll, ih _ (by simpa using hu) (fun y hy => by have := hl y (List.mem_cons_of_mem _ hy); simpa using this)]
    by_cases e : a.toNat = u
    · subst e
      rw [getD_set_eq _ _ _ _ hal, List.count_append]
      have ea : ((a.toNat : Nat) : Int) = a := by omega
      rw [ea]
      by_cases hx : x = v
      · subst hx; simp; omega
      · simp [hx, Ne.symm hx]
    · rw [getD_set_ne _ _ _ _ _ e]
      have : (a == (u : Int)) = false := by simp; omega
      simp [List.count_cons, this]

/-- What is known of begin's state behind k positions. -/
structure BegOK (g : Gm) (t : List Bool) (n k : Nat) (b : Beg) : Prop where
  inn : ∀ j, j < n → b.inn.getD j false = (decide (j < k) && t.getD j false)
  mv : ∀ j, j < k → b.mv.getD j 0 = if t.getD j false then 0 else -1
  lf : ∀ j, j < k → b.lf.getD j 0 = ((g.succ.getD j []).length : Int)
  nd : b.q.Nodup
  q : ∀ x, x ∈ b.q ↔ ∃ j : Nat, j < k ∧ x = j ∧ t.getD j false = true
  bf : ∀ u, u < n → ∀ v : Nat, (b.bf.getD u []).count (v : Int) = if v < k then (g.succ.getD v []).count (u : Int) else 0
  bm : ∀ u, u < n → ∀ x ∈ b.bf.getD u [], ∃ v : Nat, v < k ∧ x = v

theorem begSt_is (g : Gm) (t : List Bool) (n : Nat) (hg : ∀ i, i < n → ∀ x ∈ g.succ.getD i [], 0 ≤ x ∧ x < n) (hS : ∀ i, (g.succ.getD i []).length ≤ 1000) (k : Nat) (hk : k ≤ n) : BegOK g t n k (begSt g t n k) := by
  induction k with
  | zero =>
    refine ⟨fun j hj => by simp [begSt, List.getD, hj], fun j hj => by omega, fun j hj => by omega, by simp [begSt], fun x => by simp [begSt], fun u hu v => by simp [begSt, List.getD, hu], fun u hu x hx => by simp [begSt, List.getD, hu] at hx⟩
  | succ k ih =>
    have h := ih (by omega)
    have hok := (begSt_ok g t n hS k (by omega)).1
    have hl1 : (begSt g t n k).inn.length = n := hok.li
    have hl2 : (begSt g t n k).mv.length = n := hok.lm
    have hl3 : (begSt g t n k).lf.length = n := hok.ll
    have hl4 : (begSt g t n k).bf.length = n := (begSt_len g t n k).2
    have hbf : ∀ u, u < n → ∀ v : Nat, ((pushAll (begSt g t n k).bf k (g.succ.getD k [])).getD u []).count (v : Int) = if v < k + 1 then (g.succ.getD v []).count (u : Int) else 0 := fun u hu v => by
      rw [pushAll_count _ _ _ _ (by omega) _ (by rw [hl4]; exact hg k (by omega)), h.bf u hu v]
      by_cases e : v = k
      · subst e; simp
      · have : ¬ ((v : Int) = k) := by omega
        by_cases e2 : v < k
        · simp [this, e2, show v < k + 1 from by omega]
        · simp [this, e2, show ¬ v < k + 1 from by omega]
    have hbm : ∀ u, u < n → ∀ x ∈ (pushAll (begSt g t n k).bf k (g.succ.getD k [])).getD u [], ∃ v : Nat, v < k + 1 ∧ x = v := fun u hu x hx => by
      rcases pushAll_mem hx with h1 | h1
      · obtain ⟨v, hv, e⟩ := h.bm u hu x h1; exact ⟨v, by omega, e⟩
      · exact ⟨k, by omega, h1⟩
    have hlf : ∀ j, j < k + 1 → ((begSt g t n k).lf.set k ((g.succ.getD k []).length : Int)).getD j 0 = ((g.succ.getD j []).length : Int) := fun j hj => by
      by_cases e : k = j
      · subst e; rw [getD_set_eq _ _ _ _ (by omega)]
      · rw [getD_set_ne _ _ _ _ _ e]; exact h.lf j (by omega)
    simp only [begSt]
    cases ht : t.getD k false
    · simp only [Bool.false_eq_true, if_false]
      refine ⟨fun j hj => ?_, fun j hj => ?_, hlf, h.nd, fun x => ?_, hbf, hbm⟩
      · simp only [h.inn j hj]
        by_cases e : j = k
        · subst e; rw [ht]; simp
        · by_cases e2 : j < k
          · simp [e2, show j < k + 1 from by omega]
          · simp [e2, show ¬ j < k + 1 from by omega]
      · by_cases e : k = j
        · subst e; simp only; rw [getD_set_eq _ _ _ _ (by omega), ht]; rfl
        · simp only; rw [getD_set_ne _ _ _ _ _ e]; exact h.mv j (by omega)
      · simp only; rw [h.q x]
        constructor
        · rintro ⟨j, hj, e, h1⟩; exact ⟨j, by omega, e, h1⟩
        · rintro ⟨j, hj, e, h1⟩
          have : j ≠ k := by rintro rfl; rw [ht] at h1; cases h1
          exact ⟨j, by omega, e, h1⟩
    · simp only [if_true]
      refine ⟨fun j hj => ?_, fun j hj => ?_, hlf, ?_, fun x => ?_, hbf, hbm⟩
      · simp only
        by_cases e : k = j
        · subst e; rw [getD_set_eq _ _ _ _ (by omega), ht]; simp
        · rw [getD_set_ne _ _ _ _ _ e, h.inn j hj]
          by_cases e2 : j < k
          · simp [e2, show j < k + 1 from by omega]
          · simp [e2, show ¬ j < k + 1 from by omega]
      · simp only
        by_cases e : k = j
        · subst e; rw [getD_set_eq _ _ _ _ (by simp; omega), ht]; rfl
        · rw [getD_set_ne _ _ _ _ _ e, getD_set_ne _ _ _ _ _ e]; exact h.mv j (by omega)
      · simp only
        rw [List.nodup_append]
        refine ⟨h.nd, by simp, ?_⟩
        intro a ha b hb
        obtain ⟨j, hj, e, _⟩ := (h.q a).1 ha
        rw [List.mem_singleton.1 hb, e]
        omega
      · simp only
        rw [List.mem_append, h.q x, List.mem_singleton]
        constructor
        · rintro (⟨j, hj, e, h1⟩ | e)
          · exact ⟨j, by omega, e, h1⟩
          · exact ⟨k, by omega, e, ht⟩
        · rintro ⟨j, hj, e, h1⟩
          by_cases e2 : j = k
          · subst e2; exact .inr e
          · exact .inl ⟨j, by omega, e, h1⟩

section
variable (g : Gm) (p : Int) (t : List Bool)
/-- The number of a position. -/
def Att.at (st : Att) (x : Int) : Int := st.mv.getD x.toNat 0
end

section
variable (g : Gm) (p : Int) (t : List Bool)
/-- Why a member v that is no target has its number. -/
def Good (st : Att) (v : Nat) : Prop :=
  (g.owner.getD v 0 = p → (∃ x ∈ g.succ.getD v [], x ∈ st.q ∧ st.at x + 1 = st.at v) ∧ ∀ x ∈ g.succ.getD v [], x ∈ st.q → st.at v ≤ st.at x + 1) ∧
  (g.owner.getD v 0 ≠ p → (∃ x ∈ g.succ.getD v [], x ∈ st.q ∧ st.at x + 1 = st.at v) ∧ ∀ x ∈ g.succ.getD v [], x ∈ st.q ∧ st.at x + 1 ≤ st.at v)
end

section
variable (g : Gm) (p : Int) (t : List Bool)
/-- The state when the first a members of the queue are done, and of the positions before the next one those in r. -/
structure Inv (a : Nat) (r : List Int) (st : Att) : Prop where
  nd : st.q.Nodup
  iq : ∀ i, i < t.length → (st.inn.getD i false = true ↔ (i : Int) ∈ st.q)
  lf : ∀ v, v < t.length → st.lf.getD v 0 = (((g.succ.getD v []).filter (fun x => decide (x ∉ st.q.take a))).length : Int) - (r.count (v : Int) : Int)
  ow : ∀ v, v < t.length → (v : Int) ∉ st.q → g.owner.getD v 0 = p → (∀ x ∈ g.succ.getD v [], x ∉ st.q.take a) ∧ (v : Int) ∉ r
  ot : ∀ v, v < t.length → (v : Int) ∉ st.q → g.owner.getD v 0 ≠ p → st.lf.getD v 0 ≠ 0
  mo : ∀ i j, i ≤ j → j < st.q.length → st.at (st.q.getD i 0) ≤ st.at (st.q.getD j 0)
  m1 : ∀ j, j < st.q.length → a < st.q.length → st.at (st.q.getD j 0) ≤ st.at (st.q.getD a 0) + 1
  mj : ∀ j, j < st.q.length → 0 ≤ st.at (st.q.getD j 0) ∧ st.at (st.q.getD j 0) ≤ j
  tg : ∀ v, v < t.length → (t.getD v false = true ↔ (v : Int) ∈ st.q ∧ st.at v = 0)
  gd : ∀ v, v < t.length → (v : Int) ∈ st.q → st.at v ≠ 0 → Good g p st v
  no : ∀ v, v < t.length → (v : Int) ∉ st.q → st.at v = -1
end

theorem mem_getD {l : List Int} {x : Int} (h : x ∈ l) : ∃ j, j < l.length ∧ l.getD j 0 = x := by
  obtain ⟨j, hj, e⟩ := List.getElem_of_mem h
  exact ⟨j, hj, by rw [getD_lt _ _ _ hj, e]⟩

theorem getD_mem {l : List Int} {j : Nat} (h : j < l.length) : l.getD j 0 ∈ l := by rw [getD_lt _ _ _ h]; exact List.getElem_mem h

theorem count_two {P : Int → Bool} {u x : Int} (hux : x ≠ u) (hu : P u = true) (hx : P x = true) (l : List Int) : l.count u + l.count x ≤ l.countP P := by
  induction l with
  | nil => simp
  | cons y l ih =>
    rw [List.count_cons, List.count_cons, List.countP_cons]
    by_cases e1 : y = u
    · subst e1
      have h : (y == x) = false := by simpa using Ne.symm hux
      rw [h, hu]; simp; omega
    · by_cases e2 : y = x
      · subst e2
        have h : (y == u) = false := by simpa using e1
        rw [h, hx]; simp; omega
      · have h : (y == u) = false := by simpa using e1
        have h' : (y == x) = false := by simpa using e2
        rw [h, h']
        cases P y <;> simp <;> omega

/-- One step of a round. -/
theorem Inv.step {g : Gm} {p : Int} {t : List Bool} {a : Nat} {r : List Int} {st : Att} {u : Int} {v : Nat} {N : Nat} (h : Inv g p t a r st) (hok : AttOK t.length N st) (ha : a < st.q.length) (hu : st.q.getD a 0 = u)
    (hv : v < t.length) (hsu : u ∈ g.succ.getD v []) (hrc : (r ++ [(v : Int)]).count (v : Int) ≤ (g.succ.getD v []).count u) (hsr : ∀ x ∈ g.succ.getD v [], 0 ≤ x ∧ x < t.length) :
    Inv g p t a (r ++ [(v : Int)]) (attStep g p u st v) := by
  have hvl : v < st.inn.length := by rw [hok.li]; exact hv
  have hvm : v < st.mv.length := by rw [hok.lm]; exact hv
  have hvf : v < st.lf.length := by rw [hok.ll]; exact hv
  have hua : u ∈ st.q := by rw [← hu]; exact getD_mem ha
  have hunot : u ∉ st.q.take a := by
    intro hx
    obtain ⟨j, hj, e⟩ := mem_getD hx
    have hja : j < a := by simp at hj; omega
    have e1 : st.q.getD j 0 = u := by
      rw [getD_lt _ _ _ hj] at e
      rw [getD_lt _ _ _ (by omega), ← e]
      simp
    rw [getD_lt _ _ _ (by omega)] at e1 hu
    have := (List.getElem_inj h.nd).1 (e1.trans hu.symm)
    omega
  have hcnt : (g.succ.getD v []).count u ≤ ((g.succ.getD v []).filter (fun x => decide (x ∉ st.q.take a))).length := by
    rw [← List.countP_eq_length_filter, List.count]
    refine List.countP_mono_left fun x _ hx => ?_
    have : x = u := by simpa using hx
    subst this
    simpa using hunot
  have hrv : (r ++ [(v : Int)]).count (v : Int) = r.count (v : Int) + 1 := by simp
  have hro : ∀ w : Nat, w ≠ v → (r ++ [(v : Int)]).count (w : Int) = r.count (w : Int) := fun w hw => by
    have : ¬ ((v : Int) = w) := by omega
    simp [this]
  simp only [attStep, Int.toNat_natCast]
  have hlfn : ∀ w, w < t.length → (st.lf.set v (st.lf.getD v 0 - 1)).getD w 0 = (((g.succ.getD w []).filter (fun x => decide (x ∉ st.q.take a))).length : Int) - ((r ++ [(v : Int)]).count (w : Int) : Int) := fun w hw => by
    by_cases e : v = w
    · subst e
      rw [getD_set_eq _ _ _ _ hvf, h.lf v hv, hrv]; omega
    · rw [getD_set_ne _ _ _ _ _ e, h.lf w hw, hro w (Ne.symm e)]
  split
  case isFalse hc =>
    refine ⟨h.nd, h.iq, hlfn, fun w hw hq ho => ?_, fun w hw hq ho => ?_, h.mo, h.m1, h.mj, h.tg, h.gd, h.no⟩
    · have hwv : w ≠ v := by
        rintro rfl
        refine hc ⟨?_, .inl ho⟩
        cases hb : st.inn.getD w false
        · rfl
        · exact absurd ((h.iq w hw).1 hb) hq
      refine ⟨(h.ow w hw hq ho).1, ?_⟩
      intro hx
      rcases List.mem_append.1 hx with hx | hx
      · exact (h.ow w hw hq ho).2 hx
      · have := List.mem_singleton.1 hx; omega
    · simp only
      by_cases e : v = w
      · subst e
        intro h0
        refine hc ⟨?_, .inr h0⟩
        cases hb : st.inn.getD v false
        · rfl
        · exact absurd ((h.iq v hw).1 hb) hq
      · rw [getD_set_ne _ _ _ _ _ e]; exact h.ot w hw hq ho
  case isTrue hc =>
    obtain ⟨hin, hcond⟩ := hc
    have hvq : (v : Int) ∉ st.q := fun hx => by rw [(h.iq v hv).2 hx] at hin; cases hin
    have huv : u ≠ v := fun e => hvq (e ▸ hua)
    have hur := hok.qr u hua
    have htake : (st.q ++ [(v : Int)]).take a = st.q.take a := List.take_append_of_le_length (by omega)
    have hat : ∀ x ∈ st.q, (Att.mk (st.inn.set v true) (st.mv.set v (st.mv.getD u.toNat 0 + 1)) (st.lf.set v (st.lf.getD v 0 - 1)) (st.q ++ [(v : Int)])).at x = st.at x := fun x hx => by
      have hxr := hok.qr x hx
      have : v ≠ x.toNat := by rintro e; apply hvq; rw [e]; rwa [Int.toNat_of_nonneg hxr.1]
      show (st.mv.set v _).getD x.toNat 0 = _
      rw [getD_set_ne _ _ _ _ _ this]; rfl
    have hatv : (Att.mk (st.inn.set v true) (st.mv.set v (st.mv.getD u.toNat 0 + 1)) (st.lf.set v (st.lf.getD v 0 - 1)) (st.q ++ [(v : Int)])).at v = st.at u + 1 := by
      show (st.mv.set v _).getD (Int.toNat v) 0 = _
      rw [Int.toNat_natCast, getD_set_eq _ _ _ _ hvm]; rfl
    have hq1 : ∀ j, j < st.q.length → (st.q ++ [(v : Int)]).getD j 0 = st.q.getD j 0 := fun j hj => by simp [List.getD, List.getElem?_append_left hj]
    have hq2 : (st.q ++ [(v : Int)]).getD st.q.length 0 = v := by simp [List.getD]
    have huat : st.at u = st.at (st.q.getD a 0) := by rw [hu]
    have hul : 0 ≤ st.at u ∧ st.at u ≤ a := by rw [huat]; exact h.mj a ha
    generalize hst : Att.mk (st.inn.set v true) (st.mv.set v (st.mv.getD u.toNat 0 + 1)) (st.lf.set v (st.lf.getD v 0 - 1)) (st.q ++ [(v : Int)]) = st' at *
    have hq' : st'.q = st.q ++ [(v : Int)] := by rw [← hst]
    have hi' : st'.inn = st.inn.set v true := by rw [← hst]
    have hl' : st'.lf = st.lf.set v (st.lf.getD v 0 - 1) := by rw [← hst]
    have hatj : ∀ j, j < st.q.length → st'.at (st'.q.getD j 0) = st.at (st.q.getD j 0) := fun j hj => by
      rw [hq', hq1 j hj]; exact hat _ (getD_mem hj)
    have hlen : st'.q.length = st.q.length + 1 := by rw [hq']; simp
    have hatl : st'.at (st'.q.getD st.q.length 0) = st.at u + 1 := by rw [hq', hq2]; exact hatv
    refine ⟨?_, fun i hi => ?_, fun w hw => ?_, fun w hw hq ho => ?_, fun w hw hq ho => ?_, fun i j hij hj => ?_, fun j hj _ => ?_, fun j hj => ?_, fun w hw => ?_, fun w hw hq h0 => ?_, fun w hw hq => ?_⟩
    · rw [hq', List.nodup_append]
      refine ⟨h.nd, by simp, ?_⟩
      intro x hx y hy e
      rw [List.mem_singleton.1 hy] at e
      exact hvq (e ▸ hx)
    · rw [hi', hq', List.mem_append, List.mem_singleton]
      by_cases e : v = i
      · subst e
        rw [getD_set_eq _ _ _ _ hvl]; simp
      · rw [getD_set_ne _ _ _ _ _ e, h.iq i hi]
        constructor
        · exact .inl
        · rintro (hx | hx)
          · exact hx
          · omega
    · rw [hl', hq', htake]; exact hlfn w hw
    · rw [hq', List.mem_append, List.mem_singleton] at hq
      rw [hq', htake]
      have hq0 : (w : Int) ∉ st.q := fun x => hq (.inl x)
      refine ⟨(h.ow w hw hq0 ho).1, fun hx => ?_⟩
      rcases List.mem_append.1 hx with hx | hx
      · exact (h.ow w hw hq0 ho).2 hx
      · exact hq (.inr (List.mem_singleton.1 hx))
    · rw [hq', List.mem_append, List.mem_singleton] at hq
      have hwv : v ≠ w := fun e => hq (.inr (by omega))
      rw [hl', getD_set_ne _ _ _ _ _ hwv]
      exact h.ot w hw (fun x => hq (.inl x)) ho
    · rw [hlen] at hj
      by_cases ej : j = st.q.length
      · subst ej
        rw [hatl]
        by_cases ei : i = st.q.length
        · subst ei; rw [hatl]; omega
        · rw [hatj i (by omega), huat]; exact h.m1 i (by omega) ha
      · rw [hatj j (by omega), hatj i (by omega)]; exact h.mo i j hij (by omega)
    · rw [hlen] at hj
      rw [hatj a ha]
      by_cases ej : j = st.q.length
      · subst ej; rw [hatl, huat]; omega
      · rw [hatj j (by omega)]; exact h.m1 j (by omega) ha
    · rw [hlen] at hj
      by_cases ej : j = st.q.length
      · subst ej; rw [hatl]; omega
      · rw [hatj j (by omega)]; exact h.mj j (by omega)
    · rw [h.tg w hw, hq', List.mem_append, List.mem_singleton]
      by_cases e : v = w
      · subst e
        rw [hatv]
        constructor
        · rintro ⟨hx, _⟩; exact absurd hx hvq
        · rintro ⟨_, h0⟩; omega
      · constructor
        · rintro ⟨hx, h0⟩; exact ⟨.inl hx, by rw [hat _ hx]; exact h0⟩
        · rintro ⟨hx | hx, h0⟩
          · exact ⟨hx, by rw [hat _ hx] at h0; exact h0⟩
          · omega
    · -- why a member has its number
      have hsubq : ∀ x, x ∈ st.q → x ∈ st'.q := fun x hx => by rw [hq']; exact List.mem_append_left _ hx
      by_cases e : v = w
      · subst e
        have hall : ∀ x ∈ st.q, x ∉ st.q.take a → st.at u ≤ st.at x := fun x hx hnx => by
          obtain ⟨j, hj, ej⟩ := mem_getD hx
          have haj : a ≤ j := by
            rcases Nat.lt_or_ge j a with hlt | hge
            · exfalso
              apply hnx
              rw [← ej, getD_lt _ _ _ hj]
              rw [List.mem_take_iff_getElem]
              exact ⟨j, by omega, rfl⟩
            · exact hge
          rw [huat, ← ej]; exact h.mo a j haj hj
        have hdone : ∀ x ∈ st.q.take a, st.at x ≤ st.at u := fun x hx => by
          obtain ⟨j, hj, ej⟩ := mem_getD hx
          have hja : j < a := by simp at hj; omega
          have e1 : st.q.getD j 0 = x := by
            rw [getD_lt _ _ _ hj] at ej
            rw [getD_lt _ _ _ (by omega), ← ej]
            simp
          rw [huat, ← e1]; exact h.mo j a (by omega) ha
        refine ⟨fun ho => ⟨⟨u, hsu, hsubq u hua, by rw [hat u hua, hatv]⟩, fun x hx hxq => ?_⟩, fun ho => ⟨⟨u, hsu, hsubq u hua, by rw [hat u hua, hatv]⟩, fun x hx => ?_⟩⟩
        · rw [hatv]
          rw [hq', List.mem_append, List.mem_singleton] at hxq
          rcases hxq with hxq | hxq
          · rw [hat x hxq]
            have := hall x hxq ((h.ow v hv hvq ho).1 x hx)
            omega
          · subst hxq; rw [hatv]; omega
        · -- all successors are done or u
          have h0' : (st.lf.set v (st.lf.getD v 0 - 1)).getD v 0 = 0 := by
            rcases hcond with hc | hc
            · exact absurd hc ho
            · exact hc
          have hl := hlfn v hv
          rw [h0', hrv] at hl
          have hxd : x ∈ st.q.take a ∨ x = u := by
            by_cases hxt : x ∈ st.q.take a
            · exact .inl hxt
            · refine .inr ?_
              by_cases hxu : x = u
              · exact hxu
              · exfalso
                have h1 : (g.succ.getD v []).count u < ((g.succ.getD v []).filter (fun x => decide (x ∉ st.q.take a))).length := by
                  rw [← List.countP_eq_length_filter, List.count]
                  have h2 := count_two (P := fun x => decide (x ∉ st.q.take a)) hxu (by simpa using hunot) (by simpa using hxt) (g.succ.getD v [])
                  rw [List.count, List.count] at h2
                  have h3 : 0 < List.countP (fun y => y == x) (g.succ.getD v []) := List.countP_pos_iff.2 ⟨x, hx, by simp⟩
                  omega
                rw [hrv] at hrc
                omega
          rcases hxd with hxt | rfl
          · have hxq : x ∈ st.q := List.mem_of_mem_take hxt
            exact ⟨hsubq x hxq, by rw [hat x hxq, hatv]; have := hdone x hxt; omega⟩
          · exact ⟨hsubq x hua, by rw [hat x hua, hatv]; omega⟩
      · have hwq : (w : Int) ∈ st.q := by
          rw [hq', List.mem_append, List.mem_singleton] at hq
          rcases hq with hq | hq
          · exact hq
          · omega
        rw [hat _ hwq] at h0
        obtain ⟨g1, g2⟩ := h.gd w hw hwq h0
        have hwu : st.at w ≤ st.at u + 1 := by
          obtain ⟨j, hj, ej⟩ := mem_getD hwq
          rw [huat, ← ej]; exact h.m1 j hj ha
        refine ⟨fun ho => ?_, fun ho => ?_⟩
        · obtain ⟨⟨x, hx, hxq, hxe⟩, g3⟩ := g1 ho
          refine ⟨⟨x, hx, hsubq x hxq, by rw [hat x hxq, hat _ hwq]; exact hxe⟩, fun y hy hyq => ?_⟩
          rw [hat _ hwq]
          rw [hq', List.mem_append, List.mem_singleton] at hyq
          rcases hyq with hyq | hyq
          · rw [hat y hyq]; exact g3 y hy hyq
          · subst hyq; rw [hatv]; omega
        · obtain ⟨⟨x, hx, hxq, hxe⟩, g3⟩ := g2 ho
          refine ⟨⟨x, hx, hsubq x hxq, by rw [hat x hxq, hat _ hwq]; exact hxe⟩, fun y hy => ?_⟩
          obtain ⟨hyq, hye⟩ := g3 y hy
          exact ⟨hsubq y hyq, by rw [hat y hyq, hat _ hwq]; exact hye⟩
    · rw [hq', List.mem_append, List.mem_singleton] at hq
      have hwv : v ≠ w := fun e => hq (.inr (by omega))
      rw [← h.no w hw (fun x => hq (.inl x))]
      rw [← hst]
      show (st.mv.set v _).getD (Int.toNat w) 0 = _
      rw [Int.toNat_natCast, getD_set_ne _ _ _ _ _ hwv]; rfl

theorem attStep_q (g : Gm) (p u : Int) (st : Att) (v : Int) : ∃ e, (attStep g p u st v).q = st.q ++ e := by
  simp only [attStep]
  split
  · exact ⟨[v], rfl⟩
  · exact ⟨[], by simp⟩

theorem attAll_q (g : Gm) (p u : Int) (l : List Int) (st : Att) : ∃ e, (attAll g p u st l).q = st.q ++ e := by
  induction l generalizing st with
  | nil => exact ⟨[], by simp [attAll]⟩
  | cons a l ih =>
    obtain ⟨e1, h1⟩ := attStep_q g p u st a
    obtain ⟨e2, h2⟩ := ih (attStep g p u st a)
    exact ⟨e1 ++ e2, by show (attAll g p u (attStep g p u st a) l).q = _; rw [h2, h1, List.append_assoc]⟩

/-- What the rows before hold. -/
structure RowsOK (g : Gm) (n : Nat) (bf : List (List Int)) : Prop where
  ct : ∀ u, u < n → ∀ v : Nat, v < n → (bf.getD u []).count (v : Int) = (g.succ.getD v []).count (u : Int)
  me : ∀ u, u < n → ∀ x ∈ bf.getD u [], ∃ v : Nat, v < n ∧ x = v

section
variable {g : Gm} {p : Int} {t : List Bool}
theorem Inv.all {a N : Nat} {st : Att} {bf : List (List Int)} (h : Inv g p t a [] st) (hok : AttOK t.length N st) (ha : a < st.q.length) (hg : ∀ i, i < t.length → ∀ x ∈ g.succ.getD i [], 0 ≤ x ∧ x < t.length)
    (hb : RowsOK g t.length bf) (u : Nat) (hu : st.q.getD a 0 = u) (hun : u < t.length) (j : Nat) (hj : j ≤ (bf.getD u []).length) :
    Inv g p t a ((bf.getD u []).take j) (attAll g p u st ((bf.getD u []).take j)) ∧ AttOK t.length (N + j) (attAll g p u st ((bf.getD u []).take j)) := by
  induction j with
  | zero => exact ⟨by simpa [attAll] using h, by simpa [attAll] using hok⟩
  | succ j ih =>
    obtain ⟨h1, h2⟩ := ih (by omega)
    have hjl : j < (bf.getD u []).length := by omega
    obtain ⟨v, hv, hve⟩ := hb.me u hun _ (List.getElem_mem hjl)
    rw [List.take_succ_eq_append_getElem hjl, attAll_snoc, hve]
    obtain ⟨e, he⟩ := attAll_q g p u ((bf.getD u []).take j) st
    have hvc := hb.ct u hun v hv
    have hsub : ((bf.getD u []).take j ++ [(v : Int)]).count (v : Int) ≤ (bf.getD u []).count (v : Int) := by
      have h3 := List.take_succ_eq_append_getElem hjl
      rw [hve] at h3
      rw [← h3]
      exact (List.take_sublist _ _).count_le _
    have hpos : 0 < (g.succ.getD v []).count (u : Int) := by
      rw [← hvc]
      exact List.count_pos_iff.2 (hve ▸ List.getElem_mem hjl)
    refine ⟨h1.step h2 (by rw [he]; simp; omega) ?_ hv (List.count_pos_iff.1 hpos) (by rw [← hvc]; exact hsub) (hg v hv), ?_⟩
    · rw [he]
      rw [← hu]
      simp [List.getD, List.getElem?_append_left ha]
    · have := attStep_ok (g := g) (p := p) (u := u) (v := v) h2 (by omega)
      rwa [← Nat.add_assoc]
end

section
variable {g : Gm} {p : Int} {t : List Bool}
theorem countP_split (l : List Int) (P : List Int) (u : Int) (hu : u ∉ P) : l.countP (fun x => decide (x ∉ P)) = l.countP (fun x => decide (x ∉ P ++ [u])) + l.count u := by
  induction l with
  | nil => simp
  | cons y l ih =>
    rw [List.countP_cons, List.countP_cons, List.count_cons, ih]
    by_cases e : y = u
    · subst e; simp [hu] <;> omega
    · have h : (y == u) = false := by simpa using e
      by_cases e2 : y ∈ P
      · simp [e2, h]
      · simp [e2, e] <;> omega
end

section
variable {g : Gm} {p : Int} {t : List Bool}
theorem Inv.done {a : Nat} {st : Att} {u : Nat} {row : List Int} (h : Inv g p t a row st) (ha : a < st.q.length) (hu : st.q.getD a 0 = u) (hc : ∀ v : Nat, v < t.length → row.count (v : Int) = (g.succ.getD v []).count (u : Int)) :
    Inv g p t (a + 1) [] st := by
  have htk : st.q.take (a + 1) = st.q.take a ++ [(u : Int)] := by
    rw [List.take_succ_eq_append_getElem ha]
    rw [getD_lt _ _ _ ha] at hu
    rw [hu]
  have hun : (u : Int) ∉ st.q.take a := by
    intro hx
    obtain ⟨j, hj, e⟩ := mem_getD hx
    have hja : j < a := by simp at hj; omega
    have e1 : st.q.getD j 0 = u := by
      rw [getD_lt _ _ _ hj] at e
      rw [getD_lt _ _ _ (by omega), ← e]
      simp
    rw [getD_lt _ _ _ (by omega)] at e1
    rw [getD_lt _ _ _ ha] at hu
    have := (List.getElem_inj h.nd).1 (e1.trans hu.symm)
    omega
  refine { h with lf := fun v hv => ?_, ow := fun v hv hq ho => ?_, m1 := fun j hj ha1 => ?_ }
  · rw [h.lf v hv, hc v hv, htk, ← List.countP_eq_length_filter, ← List.countP_eq_length_filter, countP_split _ _ _ hun]
    simp <;> omega
  · obtain ⟨h1, h2⟩ := h.ow v hv hq ho
    refine ⟨fun x hx hxt => ?_, by simp⟩
    rw [htk, List.mem_append, List.mem_singleton] at hxt
    rcases hxt with hxt | hxt
    · exact h1 x hx hxt
    · subst hxt
      apply h2
      rw [← List.count_pos_iff, hc v hv]
      exact List.count_pos_iff.2 hx
  · have h1 := h.m1 j hj ha
    have h2 := h.mo a (a + 1) (by omega) ha1
    omega
end

section
variable {g : Gm} {p : Int} {t : List Bool}
theorem Inv.round {a N L : Nat} {st : Att} {bf : List (List Int)} (h : Inv g p t a [] st) (hok : AttOK t.length N st) (ha : a < st.q.length) (hg : ∀ i, i < t.length → ∀ x ∈ g.succ.getD i [], 0 ≤ x ∧ x < t.length)
    (hb : RowsOK g t.length bf) (_hL : ∀ j, (bf.getD j []).length ≤ L) : Inv g p t (a + 1) [] (attRound g p bf st a) ∧ a + 1 ≤ (attRound g p bf st a).q.length := by
  obtain ⟨hu0, hun⟩ := hok.qr _ (getD_mem ha)
  obtain ⟨u, hu⟩ := Int.eq_ofNat_of_zero_le hu0
  have hul : u < t.length := by omega
  rw [attRound, if_pos ha, hu, Int.toNat_natCast]
  obtain ⟨e, he⟩ := attAll_q g p u (bf.getD u []) st
  have h1 := (h.all hok ha hg hb u hu hul (bf.getD u []).length (Nat.le_refl _)).1
  rw [List.take_length] at h1
  have hlen : a < (attAll g p u st (bf.getD u [])).q.length := by rw [he]; simp; omega
  refine ⟨h1.done hlen ?_ (fun v hv => hb.ct u hul v hv), hlen⟩
  rw [he, ← hu]
  simp [List.getD, List.getElem?_append_left ha]
end

section
variable {g : Gm} {p : Int} {t : List Bool}
theorem Inv.iter {N L : Nat} {st : Att} {bf : List (List Int)} (h : Inv g p t 0 [] st) (hok : AttOK t.length N st) (hg : ∀ i, i < t.length → ∀ x ∈ g.succ.getD i [], 0 ≤ x ∧ x < t.length)
    (hb : RowsOK g t.length bf) (hL : ∀ j, (bf.getD j []).length ≤ L ∧ ∀ v ∈ bf.getD j [], 0 ≤ v ∧ v < t.length) (k : Nat) :
    Inv g p t (min k (attIter g p bf st k).q.length) [] (attIter g p bf st k) := by
  induction k with
  | zero => simpa [attIter] using h
  | succ k ih =>
    have hok1 := attIter_ok hok hL k (g := g) (p := p)
    rw [attIter]
    by_cases hk : k < (attIter g p bf st k).q.length
    · rw [Nat.min_eq_left (by omega)] at ih
      obtain ⟨h1, h2⟩ := ih.round hok1 hk hg hb (fun j => (hL j).1)
      rw [Nat.min_eq_left h2]
      exact h1
    · have : attRound g p bf (attIter g p bf st k) k = attIter g p bf st k := by rw [attRound, if_neg hk]
      rw [this]
      rw [Nat.min_eq_right (by omega)] at ih ⊢
      exact ih
end

section
variable {g : Gm} {p : Int} {t : List Bool}
theorem Inv.begin (hg : ∀ i, i < t.length → ∀ x ∈ g.succ.getD i [], 0 ≤ x ∧ x < t.length) (hne : ∀ i, i < t.length → g.succ.getD i [] ≠ []) (hS : ∀ i, (g.succ.getD i []).length ≤ 1000) :
    Inv g p t 0 [] ⟨(begSt g t t.length t.length).inn, (begSt g t t.length t.length).mv, (begSt g t t.length t.length).lf, (begSt g t t.length t.length).q⟩ ∧ RowsOK g t.length (begSt g t t.length t.length).bf := by
  have b := begSt_is g t t.length hg hS t.length (Nat.le_refl _)
  generalize begSt g t t.length t.length = s at *
  have hq : ∀ v, v < t.length → ((v : Int) ∈ s.q ↔ t.getD v false = true) := fun v hv => by
    rw [b.q]
    constructor
    · rintro ⟨j, hj, e, h⟩
      have : j = v := by omega
      subst this; exact h
    · intro h; exact ⟨v, hv, rfl, h⟩
  have hat : ∀ v : Nat, v < t.length → (Att.mk s.inn s.mv s.lf s.q).at v = if t.getD v false then 0 else -1 := fun v hv => by
    show s.mv.getD (Int.toNat v) 0 = _
    rw [Int.toNat_natCast]; exact b.mv v hv
  have hatq : ∀ j, j < s.q.length → (Att.mk s.inn s.mv s.lf s.q).at (s.q.getD j 0) = 0 := fun j hj => by
    obtain ⟨v, hv, e, h⟩ := (b.q _).1 (getD_mem hj)
    rw [e, hat v hv, h]; rfl
  refine ⟨⟨b.nd, fun i hi => ?_, fun v hv => ?_, fun v hv hqv ho => ⟨by simp, by simp⟩, fun v hv hqv ho => ?_, fun i j hij hj => ?_, fun j hj ha => ?_, fun j hj => ?_, fun v hv => ?_, fun v hv hqv h0 => ?_, fun v hv hqv => ?_⟩, ⟨fun u hu v hv => ?_, b.bm⟩⟩
  · rw [hq i hi, b.inn i hi]; simp [hi]
  · have hf : ((g.succ.getD v []).filter fun x => decide (x ∉ s.q.take 0)) = g.succ.getD v [] := List.filter_eq_self.2 (by simp)
    simp only [b.lf v hv, hf]; simp
  · simp only [b.lf v hv]
    have := hne v hv
    have : 0 < (g.succ.getD v []).length := List.length_pos_iff.2 this
    omega
  · simp only at hj ⊢
    rw [hatq i (by omega), hatq j hj]; exact Int.le_refl _
  · simp only at hj ha ⊢
    rw [hatq j hj, hatq 0 ha]; omega
  · simp only at hj ⊢
    rw [hatq j hj]; omega
  · simp only; rw [hq v hv, hat v hv]
    constructor
    · intro h; exact ⟨h, by rw [h]; rfl⟩
    · exact fun h => h.1
  · simp only at hqv h0
    rw [hat v hv, (hq v hv).1 hqv] at h0
    exact absurd rfl h0
  · simp only at hqv ⊢
    rw [hat v hv]
    have : t.getD v false = false := by
      cases h : t.getD v false
      · rfl
      · exact absurd ((hq v hv).2 h) hqv
    rw [this]; rfl
  · rw [b.bf u hu v, if_pos hv]
end

/-- The attractor by the queue, when it is done. -/
theorem attQ_inv (g : Gm) (p : Int) (t : List Bool) (hg : ∀ i, i < t.length → ∀ x ∈ g.succ.getD i [], 0 ≤ x ∧ x < t.length) (hne : ∀ i, i < t.length → g.succ.getD i [] ≠ []) (hS : ∀ i, (g.succ.getD i []).length ≤ 1000) :
    Inv g p t (attQ g p t).q.length [] (attQ g p t) ∧ ∃ N, AttOK t.length N (attQ g p t) := by
  have h0 := Inv.begin (p := p) hg hne hS
  have hok := begSt_ok g t t.length hS t.length (Nat.le_refl _)
  have hrow := begSt_row g t t.length hS t.length
  have hL : ∀ j, ((begSt g t t.length t.length).bf.getD j []).length ≤ 1000 * t.length ∧ ∀ v ∈ (begSt g t t.length t.length).bf.getD j [], 0 ≤ v ∧ v < t.length := fun j => ⟨hrow j, hok.2.2 j⟩
  have h1 := h0.1.iter hok.1 hg h0.2 hL t.length
  have h2 := attIter_ok hok.1 hL t.length (g := g) (p := p)
  have hqn := h2.qn
  rw [Nat.min_eq_right hqn] at h1
  exact ⟨h1, _, h2⟩

section
variable {g : Gm} {p : Int}
theorem notL_get (l : List Bool) (i : Nat) (h : i < l.length) : (notL l).getD i false = !l.getD i false := by
  rw [getD_lt _ _ _ (by simpa [notL] using h), getD_lt _ _ _ h]; simp [notL]
end

/-- The attractor inn of t for p, with its numbers mv. -/
structure Attr (g : Gm) (p : Int) (t inn : List Bool) (mv : List Int) : Prop where
  li : inn.length = t.length
  lm : mv.length = t.length
  im : ∀ i, i < t.length → (inn.getD i false = true ↔ 0 ≤ mv.getD i 0)
  ng : ∀ i, i < t.length → inn.getD i false = false → mv.getD i 0 = -1
  ub : ∀ i, i < t.length → mv.getD i 0 ≤ t.length
  tg : ∀ i, i < t.length → (t.getD i false = true ↔ mv.getD i 0 = 0)
  ow : ∀ i, i < t.length → g.owner.getD i 0 = p → 0 < mv.getD i 0 → (∃ x ∈ g.succ.getD i [], atB inn x = true ∧ mv.getD x.toNat 0 + 1 = mv.getD i 0) ∧ ∀ x ∈ g.succ.getD i [], atB inn x = true → mv.getD i 0 ≤ mv.getD x.toNat 0 + 1
  ot : ∀ i, i < t.length → g.owner.getD i 0 ≠ p → 0 < mv.getD i 0 → (∃ x ∈ g.succ.getD i [], atB inn x = true ∧ mv.getD x.toNat 0 + 1 = mv.getD i 0) ∧ ∀ x ∈ g.succ.getD i [], atB inn x = true ∧ mv.getD x.toNat 0 + 1 ≤ mv.getD i 0
  cw : ∀ i, i < t.length → g.owner.getD i 0 = p → inn.getD i false = false → ∀ x ∈ g.succ.getD i [], atB inn x = false
  ct : ∀ i, i < t.length → g.owner.getD i 0 ≠ p → inn.getD i false = false → ∃ x ∈ g.succ.getD i [], atB inn x = false

theorem attQ_attr (g : Gm) (p : Int) (t : List Bool) (hg : ∀ i, i < t.length → ∀ x ∈ g.succ.getD i [], 0 ≤ x ∧ x < t.length) (hne : ∀ i, i < t.length → g.succ.getD i [] ≠ []) (hS : ∀ i, (g.succ.getD i []).length ≤ 1000) :
    Attr g p t (attQ g p t).inn (attQ g p t).mv := by
  obtain ⟨h, N, hok⟩ := attQ_inv g p t hg hne hS
  generalize attQ g p t = st at *
  have hB : ∀ i, i < t.length → ∀ x ∈ g.succ.getD i [], (atB st.inn x = true ↔ x ∈ st.q) := fun i hi x hx => by
    obtain ⟨h0, h1⟩ := hg i hi x hx
    have := h.iq x.toNat (by omega)
    rw [Int.toNat_of_nonneg h0] at this
    exact this
  have hin : ∀ i : Nat, i < t.length → (i : Int) ∈ st.q → 0 ≤ st.mv.getD i 0 ∧ st.mv.getD i 0 ≤ t.length := fun i hi hm => by
    obtain ⟨j, hj, e⟩ := mem_getD hm
    have h1 := h.mj j hj
    rw [e] at h1
    simp only [Att.at, Int.toNat_natCast] at h1
    have := hok.qn
    omega
  have hno : ∀ i : Nat, i < t.length → (i : Int) ∉ st.q → st.mv.getD i 0 = -1 := fun i hi hm => by
    have := h.no i hi hm
    simpa only [Att.at, Int.toNat_natCast] using this
  have him : ∀ i, i < t.length → (st.inn.getD i false = true ↔ 0 ≤ st.mv.getD i 0) := fun i hi => by
    rw [h.iq i hi]
    constructor
    · exact fun hm => (hin i hi hm).1
    · intro h0
      by_cases hm : (i : Int) ∈ st.q
      · exact hm
      · have := hno i hi hm; omega
  have hgd : ∀ i : Nat, i < t.length → 0 < st.mv.getD i 0 → Good g p st i := fun i hi h0 => by
    have hm : (i : Int) ∈ st.q := (h.iq i hi).1 ((him i hi).2 (by omega))
    exact h.gd i hi hm (by simp only [Att.at, Int.toNat_natCast]; omega)
  have hnq : ∀ i : Nat, i < t.length → st.inn.getD i false = false → (i : Int) ∉ st.q := fun i hi hf hm => by
    rw [(h.iq i hi).2 hm] at hf; cases hf
  refine ⟨hok.li, hok.lm, him, fun i hi hf => hno i hi (hnq i hi hf), fun i hi => ?_, fun i hi => ?_, fun i hi ho h0 => ?_, fun i hi ho h0 => ?_, fun i hi ho hf x hx => ?_, fun i hi ho hf => ?_⟩
  · by_cases hm : (i : Int) ∈ st.q
    · exact (hin i hi hm).2
    · have := hno i hi hm; omega
  · rw [h.tg i hi]
    simp only [Att.at, Int.toNat_natCast]
    constructor
    · exact fun x => x.2
    · intro h0
      exact ⟨(h.iq i hi).1 ((him i hi).2 (by omega)), h0⟩
  · obtain ⟨⟨x, hx, hq, e⟩, h2⟩ := (hgd i hi h0).1 ho
    simp only [Att.at, Int.toNat_natCast] at e h2
    exact ⟨⟨x, hx, (hB i hi x hx).2 hq, e⟩, fun y hy hb => h2 y hy ((hB i hi y hy).1 hb)⟩
  · obtain ⟨⟨x, hx, hq, e⟩, h2⟩ := (hgd i hi h0).2 ho
    simp only [Att.at, Int.toNat_natCast] at e h2
    exact ⟨⟨x, hx, (hB i hi x hx).2 hq, e⟩, fun y hy => ⟨(hB i hi y hy).2 (h2 y hy).1, (h2 y hy).2⟩⟩
  · have h1 := (h.ow i hi (hnq i hi hf) ho).1 x hx
    rw [List.take_length] at h1
    cases hb : atB st.inn x
    · rfl
    · exact absurd ((hB i hi x hx).1 hb) h1
  · have h1 := h.ot i hi (hnq i hi hf) ho
    rw [h.lf i hi, List.take_length] at h1
    have h2 : ((g.succ.getD i []).filter (fun x => decide (x ∉ st.q))) ≠ [] := by
      intro e
      rw [e] at h1
      simp at h1
    obtain ⟨x, hx⟩ := List.exists_mem_of_ne_nil _ h2
    rw [List.mem_filter] at hx
    refine ⟨x, hx.1, ?_⟩
    cases hb : atB st.inn x
    · rfl
    · exact absurd ((hB i hi x hx.1).1 hb) (by simpa using hx.2)

section
variable {g : Gm} {p : Int} {t inn : List Bool} {mv : List Int}
/-- The attractor is the least set with the target that is closed under attraction. -/
theorem Attr.least (h : Attr g p t inn mv) (hg : ∀ i, i < t.length → ∀ x ∈ g.succ.getD i [], 0 ≤ x ∧ x < t.length) (C : Nat → Prop) (h0 : ∀ i, i < t.length → t.getD i false = true → C i)
    (h1 : ∀ i, i < t.length → g.owner.getD i 0 = p → (∃ x ∈ g.succ.getD i [], C x.toNat) → C i) (h2 : ∀ i, i < t.length → g.owner.getD i 0 ≠ p → (∀ x ∈ g.succ.getD i [], C x.toNat) → C i) :
    ∀ i, i < t.length → inn.getD i false = true → C i := by
  have key : ∀ k : Nat, ∀ i, i < t.length → mv.getD i 0 = k → C i := by
    intro k
    induction k using Nat.strongRecOn with
    | ind k ih =>
      intro i hi hk
      by_cases hz : mv.getD i 0 = 0
      · exact h0 i hi ((h.tg i hi).2 hz)
      · by_cases ho : g.owner.getD i 0 = p
        · obtain ⟨⟨x, hx, hb, e⟩, -⟩ := h.ow i hi ho (by omega)
          obtain ⟨x0, x1⟩ := hg i hi x hx
          have hn := (h.im x.toNat (by omega)).1 hb
          exact h1 i hi ho ⟨x, hx, ih (mv.getD x.toNat 0).toNat (by omega) x.toNat (by omega) (by omega)⟩
        · obtain ⟨-, h3⟩ := h.ot i hi ho (by omega)
          refine h2 i hi ho fun x hx => ?_
          obtain ⟨hb, hle⟩ := h3 x hx
          obtain ⟨x0, x1⟩ := hg i hi x hx
          have hn := (h.im x.toNat (by omega)).1 hb
          exact ih (mv.getD x.toNat 0).toNat (by omega) x.toNat (by omega) (by omega)
  intro i hi hb
  have := (h.im i hi).1 hb
  exact key (mv.getD i 0).toNat i hi (by omega)
end

section
variable {g : Gm} {p : Int} {t inn : List Bool} {mv : List Int}
theorem Attr.mem (h : Attr g p t inn mv) : ∀ i, i < t.length → t.getD i false = true → inn.getD i false = true := fun i hi ht => by
  rw [h.im i hi, (h.tg i hi).1 ht]; omega
end

section
variable {g : Gm} {p : Int} {t inn : List Bool} {mv : List Int}
theorem Attr.cow (h : Attr g p t inn mv) {i : Nat} (hi : i < t.length) (ho : g.owner.getD i 0 = p) {x : Int} (hx : x ∈ g.succ.getD i []) (hb : atB inn x = true) : inn.getD i false = true := by
  cases hf : inn.getD i false
  · have := h.cw i hi ho hf x hx
    rw [hb] at this; cases this
  · rfl
end

section
variable {g : Gm} {p : Int} {t inn : List Bool} {mv : List Int}
theorem Attr.cot (h : Attr g p t inn mv) {i : Nat} (hi : i < t.length) (ho : g.owner.getD i 0 ≠ p) (hb : ∀ x ∈ g.succ.getD i [], atB inn x = true) : inn.getD i false = true := by
  cases hf : inn.getD i false
  · obtain ⟨x, hx, e⟩ := h.ct i hi ho hf
    rw [hb x hx] at e; cases e
  · rfl
end

section
variable {g : Gm} {p : Int} {t inn : List Bool} {mv : List Int}
/-- A greater target has a greater attractor, which is reached no later. -/
theorem Attr.mono (h : Attr g p t inn mv) {t' inn' : List Bool} {mv' : List Int} (h' : Attr g p t' inn' mv') (hl : t'.length = t.length) (hg : ∀ i, i < t.length → ∀ x ∈ g.succ.getD i [], 0 ≤ x ∧ x < t.length)
    (hs : ∀ i, i < t.length → t.getD i false = true → t'.getD i false = true) : ∀ i, i < t.length → inn.getD i false = true → inn'.getD i false = true ∧ mv'.getD i 0 ≤ mv.getD i 0 := by
  have key : ∀ k : Nat, ∀ i, i < t.length → mv.getD i 0 = k → inn'.getD i false = true ∧ mv'.getD i 0 ≤ mv.getD i 0 := by
    intro k
    induction k using Nat.strongRecOn with
    | ind k ih =>
      intro i hi hk
      have hi' : i < t'.length := by omega
      by_cases hz : mv.getD i 0 = 0
      · have ht := hs i hi ((h.tg i hi).2 hz)
        have h2 := (h'.tg i hi').1 ht
        exact ⟨h'.mem i hi' ht, by omega⟩
      · by_cases ho : g.owner.getD i 0 = p
        · obtain ⟨⟨x, hx, hb, e⟩, -⟩ := h.ow i hi ho (by omega)
          obtain ⟨x0, x1⟩ := hg i hi x hx
          have hn := (h.im x.toNat (by omega)).1 hb
          obtain ⟨i1, i2⟩ := ih (mv.getD x.toNat 0).toNat (by omega) x.toNat (by omega) (by omega)
          have hin := h'.cow hi' ho hx i1
          refine ⟨hin, ?_⟩
          by_cases hz' : 0 < mv'.getD i 0
          · have := (h'.ow i hi' ho hz').2 x hx i1
            omega
          · omega
        · obtain ⟨-, h3⟩ := h.ot i hi ho (by omega)
          have hall : ∀ x ∈ g.succ.getD i [], atB inn' x = true ∧ mv'.getD x.toNat 0 + 1 ≤ mv.getD i 0 := fun x hx => by
            obtain ⟨hb, hle⟩ := h3 x hx
            obtain ⟨x0, x1⟩ := hg i hi x hx
            have hn := (h.im x.toNat (by omega)).1 hb
            obtain ⟨i1, i2⟩ := ih (mv.getD x.toNat 0).toNat (by omega) x.toNat (by omega) (by omega)
            exact ⟨i1, by omega⟩
          have hin := h'.cot hi' ho fun x hx => (hall x hx).1
          refine ⟨hin, ?_⟩
          by_cases hz' : 0 < mv'.getD i 0
          · obtain ⟨⟨x, hx, hb, e⟩, -⟩ := h'.ot i hi' ho hz'
            have := (hall x hx).2
            omega
          · omega
  intro i hi hb
  have := (h.im i hi).1 hb
  exact key (mv.getD i 0).toNat i hi (by omega)
end

/-- A set is a trap for p: what that says of its positions. -/
theorem trapB_iff {g : Gm} {p : Int} {s : List Bool} (F : Fits g p s.length) : trapB g p s = true ↔
    ∀ i, i < s.length → s.getD i false = true → (g.owner.getD i 0 ≠ p → ∃ x ∈ g.succ.getD i [], atB s x = true) ∧ (g.owner.getD i 0 = p → ∀ x ∈ g.succ.getD i [], atB s x = true) := by
  simp only [trapB, List.all_eq_true, List.mem_range, Bool.or_eq_true, Bool.not_eq_true']
  refine forall_congr' fun i => forall_congr' fun hi => ?_
  have ho := F.ow i hi
  have hp := F.pl
  cases hs : s.getD i false
  · simp
  · simp only [Bool.true_eq_false, false_or, forall_const]
    unfold canB
    by_cases e : g.owner.getD i 0 = p
    · rw [if_neg (by omega), List.all_eq_true]
      exact ⟨fun h => ⟨fun h' => absurd e h', fun _ => h⟩, fun h => h.2 e⟩
    · rw [if_pos (by omega), List.any_eq_true]
      exact ⟨fun h => ⟨fun _ => h, fun h' => absurd h' e⟩, fun h => h.1 e⟩

theorem Fits.other {g : Gm} {p : Int} {n : Nat} (F : Fits g p n) : Fits g (1 - p) n := { F with pl := by have := F.pl; omega }

end Go.Proofs.Ytijkjhcigdfdgaa
