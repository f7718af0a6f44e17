/- Slices, rows of one's own, automata: the two Valid; slices: Clone, Ints; maps that number. -/
import Derived.Laws.AppendOwnNone
import Derived.Laws.EntriesVeiled
import Derived.Deep.OwnRows
import Derived.RegionTactic
import Derived.BigRegion
import Derived.Deep.RegionHeld3
import Derived.Deep.AppendLies
import Derived.Deep.RegionLaw
import Derived.Lib.AppendZeros
import Derived.Maps.OwnSet
import Derived.Maps.OwnIn
import Derived.DeepKeys4
import Derived.Maps.AppendAt
import Derived.Defers
import Derived.Test.YtdkpdpcecjcmcaaQBase
namespace Go.Proofs.Ytdkpdpcecjcmcaa
open Go.RowKit
open Go Go.RowKit
open Go.RowKit Go.Maps Go.WideMaps

/-- Behind an append the row is the old one or the newest block. -/
theorem run_append_fresh {P : Program} (w : World) (base : Nat) (t ty e : TypeId) (i : TypeInfo) (z : Value) (size bytes : Nat) (ht : P.underlying t = some (.slice e)) (hi : P.info? e = some i) (hz : i.zero = some z)
    (hsize : i.size = size) (hby : i.bytes = bytes) (v : Value) (n : Nat) (xs : List Value) (hown : w.ownsRow base e size v n xs)
    (a : Addr) (m c : Nat) (news : List Value) (hl : news.length = m * size) (hnews : ∀ j u, news[j]? = some u → w.cell? (a.add j) = some u) (h1 : ∀ u ∈ news, u.oneCell' = true)
    (h63 : n + m ≤ maxLen) (hbytes : (n + m) * bytes ≤ 140737488355328) (v' : Value) (w' : World)
    (hr : (Builtin.append_ #[t, t] ty #[v, .slice (some a) m c]).run P w = .ok v' w') : ∀ g, v'.ownBlock = some g → v.ownBlock = some g ∨ g = w.heap.size := by
  subst hsize
  subst hby
  have hsmall : n + m ≤ 9223372036854775807 := by simp only [maxLen] at h63; omega
  intro g hg'
  rcases hown.2 with ⟨rfl, rfl⟩ | ⟨g0, cap, cur, rfl, hbg, hg, hnc, hcm, hcs, htake⟩
  · have hx : xs = [] := List.eq_nil_of_length_eq_zero (by simpa using hown.1)
    subst hx
    by_cases hm : m = 0
    · subst hm
      have hn : news = [] := List.eq_nil_of_length_eq_zero (by simpa using hl)
      subst hn
      have hr' : (Builtin.append_ #[t, t] ty #[.slice none 0 0, .slice (some a) 0 c]).run P w = .ok (.slice none 0 0) w := by
        simp [Builtin.append_, run_underlying ht, sizeOf, typeInfo, hi, Builtin.lenOf, Builtin.firstCells, loadCells, loadCellsFrom]
      rw [hr'] at hr
      cases hr
      exact .inl hg'
    · have hr' := run_append_nil (P := P) w t ty e i z ht hi hz a m c news hl hnews (by omega) (by omega) (by have hb := hbytes; simp only [Nat.zero_add] at hb; omega)
      rw [hr'] at hr
      cases hr
      simp [Value.ownBlock] at hg'
      exact .inr hg'.symm
  · by_cases hroom : n + m ≤ cap
    · have hfit : n * i.size + news.length ≤ cur.size := by rw [hl, hcs, ← Nat.add_mul]; exact Nat.mul_le_mul_right _ hroom
      have hr' := run_append_room (P := P) w t ty e i ht hi g0 n cap cur hg a m c news hl hnews h1 hroom hfit
      rw [hr'] at hr
      cases hr
      simp [Value.ownBlock] at hg' ⊢
      exact .inl hg'
    · have holds : ∀ j u, xs[j]? = some u → w.cell? ((⟨g0, 0, none⟩ : Addr).add j) = some u := hown.cells (g := g0) rfl
      have hr' := run_append_grow (P := P) w t ty e i z ht hi hz ⟨g0, 0, none⟩ n cap xs hown.1 holds a m c news hl hnews (by omega) (by omega) (growslice_fits (by omega) hbytes)
      rw [hr'] at hr
      cases hr
      simp [Value.ownBlock] at hg' ⊢
      exact .inr hg'.symm

/-- Where the row of v lies behind a step: at its old place, or in memory made since. -/
def Moved (w : World) (v v' : Value) : Prop := ∀ g, v'.ownBlock = some g → v.ownBlock = some g ∨ w.heap.size ≤ g

/-- 'append' to a row of the call's own. -/
theorem wpList_app {P : Program} {ops : Array Oper} {rest : List Oper} {o : Oper} {a : Act} {Q : Exit → Act → World → Prop} {w : World} (hgd : o.guard = none) (s x : Operand) (t e : TypeId) (size bytes : Nat) (z : Value)
    (ho : o.op = .call { callee := .builtin .append, args := #[s, x], argTypes := #[t, t] })
    (ht : P.underlying t = some (.slice e)) (hinfo : (P.info? e).map (fun i => (i.zero, i.size, i.bytes)) = some (some z, size, bytes)) (hzs : z.cells.size = size) (hsz : 0 < size)
    (base : Nat) (v : Value) (n : Nat) (xs : List Value) (hs : a.eval s = v) (hown : w.ownsRow base e size v n xs)
    (ad : Addr) (m c : Nat) (news : List Value) (hx : a.eval x = .slice (some ad) m c) (hl : news.length = m * size) (hnews : ∀ j u, news[j]? = some u → w.cell? (ad.add j) = some u) (h1 : ∀ u ∈ news, u.oneCell' = true)
    (h63 : n + m ≤ maxLen) (hbytes : (n + m) * bytes ≤ 140737488355328) (hbase : base ≤ w.heap.size)
    (h : ∀ v' w', w'.ownsRow base e size v' (n + m) (xs ++ news) → w.grownBy w' v.ownBlock → (v' = .slice none 0 0 ↔ v = .slice none 0 0 ∧ m = 0) → Moved w v v' → wpList P ops Q rest (a.put o.dst v') w') :
    wpList P ops Q (o :: rest) a w := by
  refine wpList_plain hgd fun K hK => ?_
  obtain ⟨i, hi, hz0, hz1, hz2⟩ := info_parts hinfo
  obtain ⟨v', w', hr, h2, h3, h4⟩ := run_append_own (P := P) w base t o.type e i z size bytes ht hi hz0 hz1 hz2 hzs hsz v n xs hown ad m c news hl hnews h1 h63 hbytes hbase
  have h5 := run_append_fresh (P := P) w base t o.type e i z size bytes ht hi hz0 hz1 hz2 v n xs hown ad m c news hl hnews h1 h63 hbytes v' w' hr
  unfold Oper.wp execOp
  simp only [ho, resolve, invoke, builtin, Sem.run_bind, Sem.run_pure, Result.andThen_ok, List.map_toArray, List.map_cons, List.map_nil, hs, hx, hr]
  exact hK _ _ (h v' w' h2 h3 h4 (fun g hg => (h5 g hg).imp id (fun e => by omega)))

/-- 'append(v, u)' of one cell: u lies in the newest block. -/
theorem wpList_app1 {P : Program} {ops : Array Oper} {rest : List Oper} {o : Oper} {a : Act} {Q : Exit → Act → World → Prop} {w : World} (hgd : o.guard = none) (s x : Operand) (t e : TypeId) (bytes : Nat) (z u : Value)
    (ho : o.op = .call { callee := .builtin .append, args := #[s, x], argTypes := #[t, t] })
    (ht : P.underlying t = some (.slice e)) (hinfo : (P.info? e).map (fun i => (i.zero, i.size, i.bytes)) = some (some z, 1, bytes)) (hzs : z.cells.size = 1)
    (base : Nat) (v : Value) (n : Nat) (xs : List Value) (hs : a.eval s = v) (hown : w.ownsRow base e 1 v n xs)
    (m : Nat) (hm : m = w.heap.size) (hx : a.eval x = .slice (some ⟨m, 0, none⟩) 1 1) (hu : u.oneCell' = true)
    (hbytes : (n + 1) * bytes ≤ 140737488355328) (hb0 : 0 < bytes) (hbase : base ≤ w.heap.size)
    (h : ∀ v' w', w'.ownsRow base e 1 v' (n + 1) (xs ++ [u]) → w.grownBy w' v.ownBlock → Moved w v v' → wpList P ops Q rest (a.put o.dst v') w') :
    wpList P ops Q (o :: rest) a (w.alloc (.cells #[u] e)) := by
  subst hm
  have hn : n + 1 ≤ 140737488355328 := Nat.le_trans (Nat.le_mul_of_pos_right _ hb0) hbytes
  refine wpList_app hgd s x t e 1 bytes z ho ht hinfo hzs (by decide) base v n xs hs (hown.alloc _) ⟨w.heap.size, 0, none⟩ 1 1 [u] hx rfl (cell_one_new _ _ _) (by simpa using hu) (by simp only [maxLen]; omega) hbytes (by simp; omega) ?_
  intro v' w' h1 h2 _ h4
  refine h v' w' h1 ⟨h2.os, h2.tape, h2.output, by have := h2.size; simp at this; omega, fun k hk hr => ?_⟩ (fun g hg => ?_)
  · rw [h2.block k (by simp; omega) hr]; exact heap_alloc_old w _ hk
  · rcases h4 g hg with e | e
    · exact .inl e
    · refine .inr ?_
      simp at e; omega

/-- What a row of the call's own reads as. -/
theorem ownsRow_arr {w : World} {base : Nat} {e : TypeId} {v : Value} {n : Nat} {xs : List Value} (h : w.ownsRow base e 1 v n xs) (hn : n ≤ maxN) (f : Nat → Value) (hf : ∀ j, j < n → xs[j]? = some (f j)) : IsArr w v n f := by
  rcases h.2 with ⟨rfl, rfl⟩ | ⟨g, cap, cur, rfl, hb, hg, hnc, hcm, hcs, htake⟩
  · exact ⟨none, 0, 0, 0, rfl, Nat.le_refl _, Nat.zero_le _, hn, (fun _ => rfl), (fun h => absurd h (by omega)), fun j hj => absurd hj (by omega)⟩
  · refine ⟨some ⟨g, 0, none⟩, cap, g, 0, rfl, hnc, hcm, hn, (fun h => by cases h), fun _ => rfl, fun j hj => ?_⟩
    rw [Nat.zero_add, World.ownsRow.cellAt h j (by omega), hf j hj]

/-- A row of truth values, of numbers, of the call's own. -/
def OB (w : World) (base : Nat) (v : Value) (l : List Bool) : Prop := w.ownsRow base 4 1 v l.length (l.map Value.bool)

def OI (w : World) (base : Nat) (v : Value) (l : List Int) : Prop := w.ownsRow base 3 1 v l.length (l.map (Value.int .i64))

theorem OB.is {w : World} {base : Nat} {v : Value} {l : List Bool} (h : OB w base v l) (hn : l.length ≤ maxN) : IsBools w v l :=
  ownsRow_arr h hn _ fun j hj => by simp [bvF, hj]

theorem OI.is {w : World} {base : Nat} {v : Value} {l : List Int} (h : OI w base v l) (hn : l.length ≤ maxN) (hi : ∀ x ∈ l, I64 x) : IsInts w v l :=
  ⟨ownsRow_arr h hn _ fun j hj => by simp [ivF, hj], hi⟩

theorem info_bool : (Try.prog.info? 4).map (fun i => (i.zero, i.size, i.bytes)) = some (some (.bool false), 1, 1) := by kernel_rfl

theorem info_int : (Try.prog.info? 3).map (fun i => (i.zero, i.size, i.bytes)) = some (some (.int .i64 0), 1, 8) := by kernel_rfl

theorem app_bool {ops : Array Oper} {rest : List Oper} {o : Oper} {a : Act} {Q : Exit → Act → World → Prop} {w : World} (hgd : o.guard = none) (s x : Operand) (b : Bool)
    (ho : o.op = .call { callee := .builtin .append, args := #[s, x], argTypes := #[55, 55] })
    (base : Nat) (v : Value) (l : List Bool) (hown : OB w base v l) (hs : a.eval s = v) (m : Nat) (hm : m = w.heap.size) (hx : a.eval x = .slice (some ⟨m, 0, none⟩) 1 1)
    (hn : l.length < 140737488351232) (hbase : base ≤ w.heap.size)
    (h : ∀ v' w', OB w' base v' (l ++ [b]) → w.grownBy w' v.ownBlock → Moved w v v' → wpList Try.prog ops Q rest (a.put o.dst v') w') :
    wpList Try.prog ops Q (o :: rest) a (w.alloc (.cells #[.bool b] 4)) := by
  refine wpList_app1 hgd s x _ _ 1 _ _ ho Try.underlying55 info_bool rfl base v l.length _ hs hown m hm hx rfl (by omega) (by decide) hbase fun v' w' h1 h2 h3 => h v' w' ?_ h2 h3
  unfold OB
  simpa using h1

theorem app_int {ops : Array Oper} {rest : List Oper} {o : Oper} {a : Act} {Q : Exit → Act → World → Prop} {w : World} (hgd : o.guard = none) (s x : Operand) (b : Int)
    (ho : o.op = .call { callee := .builtin .append, args := #[s, x], argTypes := #[29, 29] })
    (base : Nat) (v : Value) (l : List Int) (hown : OI w base v l) (hs : a.eval s = v) (m : Nat) (hm : m = w.heap.size) (hx : a.eval x = .slice (some ⟨m, 0, none⟩) 1 1)
    (hn : l.length < 17592186043904) (hbase : base ≤ w.heap.size)
    (h : ∀ v' w', OI w' base v' (l ++ [b]) → w.grownBy w' v.ownBlock → Moved w v v' → wpList Try.prog ops Q rest (a.put o.dst v') w') :
    wpList Try.prog ops Q (o :: rest) a (w.alloc (.cells #[.int .i64 b] 3)) := by
  refine wpList_app1 hgd s x _ _ 8 _ _ ho Try.underlying29 info_int rfl base v l.length _ hs hown m hm hx rfl (by omega) (by decide) hbase fun v' w' h1 h2 h3 => h v' w' ?_ h2 h3
  unfold OI
  simpa using h1

/-- 'make([]T, n)' of one-cell elements. -/
theorem wpList_mk1 {P : Program} {ops : Array Oper} {rest : List Oper} {o : Oper} {a : Act} {Q : Exit → Act → World → Prop} {w : World} (hgd : o.guard = none) (l c : Operand) (t e : TypeId) (bytes : Nat) (z : Value)
    (ho : o.op = Op.makeSlice t l c) (ht : P.underlying t = some (.slice e)) (hinfo : (P.info? e).map (fun i => (i.zero, i.size, i.bytes)) = some (some z, 1, bytes)) (hz : z.cells = #[z])
    (base : Nat) (L : Int) (n : Nat) (hl : a.eval l = .int .i64 L) (hc : a.eval c = .int .i64 L) (hL : L = (n : Int)) (hb : bytes * n ≤ 281474976710656) (hn : n ≤ 140737488355328) (hbase : base ≤ w.heap.size)
    (h : ∀ w', w'.ownsRow base e 1 (.slice (some ⟨w.heap.size, 0, none⟩) n n) n (List.replicate n z) → w.grownBy w' none → wpList P ops Q rest (a.put o.dst (.slice (some ⟨w.heap.size, 0, none⟩) n n)) w') :
    wpList P ops Q (o :: rest) a w := by
  obtain ⟨i, hi, hz0, hz1, hz2⟩ := info_parts hinfo
  refine wpList_make_full w hgd l c t ho base e i z 1 ht hi hz0 hz1 .i64 .i64 L L n hl hc hL hL (by rw [hz2]; exact hb) (by simp only [maxLen]; omega) hbase fun w' h1 h2 => h w' ?_ h2
  rw [hz, Nat.mul_one, toList_madeCells_one] at h1
  exact h1

theorem mk_bool {ops : Array Oper} {rest : List Oper} {o : Oper} {a : Act} {Q : Exit → Act → World → Prop} {w : World} (hgd : o.guard = none) (l c : Operand) (t : TypeId) (ht : Try.prog.underlying t = some (.slice 4))
    (ho : o.op = Op.makeSlice t l c) (base : Nat) (L : Int) (n : Nat) (hl : a.eval l = .int .i64 L) (hc : a.eval c = .int .i64 L) (hL : L = (n : Int)) (hn : n ≤ 140737488355328) (hbase : base ≤ w.heap.size)
    (h : ∀ w', OB w' base (.slice (some ⟨w.heap.size, 0, none⟩) n n) (List.replicate n false) → w.grownBy w' none → wpList Try.prog ops Q rest (a.put o.dst (.slice (some ⟨w.heap.size, 0, none⟩) n n)) w') :
    wpList Try.prog ops Q (o :: rest) a w := by
  refine wpList_mk1 hgd l c t _ 1 _ ho ht info_bool rfl base L n hl hc hL (by omega) hn hbase fun w' h1 h2 => h w' ?_ h2
  unfold OB
  simpa using h1

theorem mk_int {ops : Array Oper} {rest : List Oper} {o : Oper} {a : Act} {Q : Exit → Act → World → Prop} {w : World} (hgd : o.guard = none) (l c : Operand) (t : TypeId) (ht : Try.prog.underlying t = some (.slice 3))
    (ho : o.op = Op.makeSlice t l c) (base : Nat) (L : Int) (n : Nat) (hl : a.eval l = .int .i64 L) (hc : a.eval c = .int .i64 L) (hL : L = (n : Int)) (hn : n ≤ 17592186044416) (hbase : base ≤ w.heap.size)
    (h : ∀ w', OI w' base (.slice (some ⟨w.heap.size, 0, none⟩) n n) (List.replicate n 0) → w.grownBy w' none → wpList Try.prog ops Q rest (a.put o.dst (.slice (some ⟨w.heap.size, 0, none⟩) n n)) w') :
    wpList Try.prog ops Q (o :: rest) a w := by
  refine wpList_mk1 hgd l c t _ 8 _ ho ht info_int rfl base L n hl hc hL (by omega) (by omega) hbase fun w' h1 h2 => h w' ?_ h2
  unfold OI
  simpa using h1

/-- An element of a row of the call's own: read, written. -/
theorem OB.at' {w : World} {base g n cap : Nat} {l : List Bool} (h : OB w base (.slice (some ⟨g, 0, none⟩) n cap) l) (hn : n = l.length) (j : Nat) (hj : j < l.length) : w.cell? ⟨g, j, none⟩ = some (.bool l[j]) := by
  subst hn
  rw [World.ownsRow.cellAt h j (by omega)]; simp [hj]

theorem OI.at' {w : World} {base g n cap : Nat} {l : List Int} (h : OI w base (.slice (some ⟨g, 0, none⟩) n cap) l) (hn : n = l.length) (j : Nat) (hj : j < l.length) : w.cell? ⟨g, j, none⟩ = some (.int .i64 l[j]) := by
  subst hn
  rw [World.ownsRow.cellAt h j (by omega)]; simp [hj]

theorem OB.set {w : World} {base g n cap : Nat} {l : List Bool} (h : OB w base (.slice (some ⟨g, 0, none⟩) n cap) l) (hn : n = l.length) (j : Nat) (b : Bool) :
    OB (w.setCell ⟨g, j, none⟩ (.bool b)) base (.slice (some ⟨g, 0, none⟩) n cap) (l.set j b) := by
  subst hn
  have := (World.ownsRow.stored h j (.bool b)).1
  unfold OB
  simpa using this

theorem OI.set {w : World} {base g n cap : Nat} {l : List Int} (h : OI w base (.slice (some ⟨g, 0, none⟩) n cap) l) (hn : n = l.length) (j : Nat) (b : Int) :
    OI (w.setCell ⟨g, j, none⟩ (.int .i64 b)) base (.slice (some ⟨g, 0, none⟩) n cap) (l.set j b) := by
  subst hn
  have := (World.ownsRow.stored h j (.int .i64 b)).1
  unfold OI
  simpa using this

theorem grown_set (w : World) (g j : Nat) (u : Value) : w.grownBy (w.setCell ⟨g, j, none⟩ u) (some g) :=
  ⟨rfl, rfl, rfl, by simp, fun k _ hk => heap_setCell_other w ⟨g, j, none⟩ k u (fun e => hk (by simp [e]))⟩

theorem grown_refl (w : World) (r : Option Nat) : w.grownBy w r := ⟨rfl, rfl, rfl, Nat.le_refl _, fun _ _ _ => rfl⟩

/-- 'append(v, src...)' of one-cell elements, whatever slice src is. -/
theorem wpList_appA {P : Program} {ops : Array Oper} {rest : List Oper} {o : Oper} {a : Act} {Q : Exit → Act → World → Prop} {w : World} (hgd : o.guard = none) (s x : Operand) (t e : TypeId) (bytes : Nat) (z : Value)
    (ho : o.op = .call { callee := .builtin .append, args := #[s, x], argTypes := #[t, t] })
    (ht : P.underlying t = some (.slice e)) (hinfo : (P.info? e).map (fun i => (i.zero, i.size, i.bytes)) = some (some z, 1, bytes)) (hzs : z.cells.size = 1)
    (base : Nat) (v : Value) (n : Nat) (xs : List Value) (hs : a.eval s = v) (hown : w.ownsRow base e 1 v n xs)
    (ao : Option Addr) (cap b off m : Nat) (f : Nat → Value) (hx : a.eval x = .slice ao m cap) (hsrc : ArrAt w ao cap b off m f) (h1 : ∀ j, (f j).oneCell' = true)
    (hbytes : (n + m) * bytes ≤ 140737488355328) (hb0 : 0 < bytes) (hbase : base ≤ w.heap.size)
    (h : ∀ v' w', w'.ownsRow base e 1 v' (n + m) (xs ++ (List.range m).map f) → w.grownBy w' v.ownBlock → Moved w v v' → wpList P ops Q rest (a.put o.dst v') w') :
    wpList P ops Q (o :: rest) a w := by
  have hn : n + m ≤ 140737488355328 := Nat.le_trans (Nat.le_mul_of_pos_right _ hb0) hbytes
  cases ao with
  | none =>
    have hm0 : m = 0 := by rcases Nat.eq_zero_or_pos m with h0 | h0; exact h0; have := hsrc.ad h0; cases this
    subst hm0
    obtain rfl := hsrc.nc rfl
    obtain ⟨i, hi, hz0, hz1, hz2⟩ := info_parts hinfo
    refine wpList_append_own_none hgd s x t ho base e i 1 ht hi v n xs hs hown hx ?_
    exact h v w (by simpa using hown) (grown_refl _ _) (fun g hg => .inl hg)
  | some ad =>
    refine wpList_app hgd s x t e 1 bytes z ho ht hinfo hzs (by decide) base v n xs hs hown ad m cap ((List.range m).map f) hx (by simp) ?_ ?_ (by simp only [maxLen]; omega) hbytes hbase ?_
    · intro j u hj
      have hjm : j < m := by
        rcases Nat.lt_or_ge j m with h | h
        · exact h
        · simp [Nat.not_lt.2 h] at hj
      have hadd := hsrc.ad (by omega)
      simp only [Option.some.injEq] at hadd
      subst hadd
      have : f j = u := by simpa [hjm] using hj
      subst this
      have h2 := hsrc.el j hjm
      unfold Addr.add
      split
      · subst j; exact h2
      · exact h2
    · intro u hu
      obtain ⟨j, _, rfl⟩ := List.mem_map.1 hu
      exact h1 j
    · intro v' w' h2 h3 _ h5
      exact h v' w' h2 h3 h5

theorem app_bools {ops : Array Oper} {rest : List Oper} {o : Oper} {a : Act} {Q : Exit → Act → World → Prop} {w : World} (hgd : o.guard = none) (s x : Operand)
    (ho : o.op = .call { callee := .builtin .append, args := #[s, x], argTypes := #[55, 55] })
    (base : Nat) (v v2 : Value) (l l2 : List Bool) (hown : OB w base v l) (hs : a.eval s = v) (hsrc : IsBools w v2 l2) (hx : a.eval x = v2)
    (hn : l.length + l2.length ≤ 140737488351232) (hbase : base ≤ w.heap.size)
    (h : ∀ v' w', OB w' base v' (l ++ l2) → w.grownBy w' v.ownBlock → Moved w v v' → wpList Try.prog ops Q rest (a.put o.dst v') w') :
    wpList Try.prog ops Q (o :: rest) a w := by
  obtain ⟨ao, cap, b, off, rfl, hsrc⟩ := hsrc
  refine wpList_appA hgd s x _ _ 1 _ ho Try.underlying55 info_bool rfl base v l.length _ hs hown ao cap b off l2.length (bvF l2) hx hsrc (fun _ => rfl) (by omega) (by decide) hbase fun v' w' h1 h2 h3 => h v' w' ?_ h2 h3
  have e : (List.range l2.length).map (bvF l2) = l2.map Value.bool := by
    apply List.ext_getElem (by simp)
    intro j h1 h2
    have : j < l2.length := by simpa using h1
    simp [bvF, this]
  rw [e] at h1
  unfold OB
  simpa using h1

theorem Ints_c (w : World) (va vb : Value) (la lb : List Int) (ha : IsInts w va la) (hb : IsInts w vb lb) :
    Calls Try.prog 38 #[va, vb] w (Quiet (.bool (decide (la = lb))) w) := by
  obtain ⟨⟨aoa, ca, ba, oa, rfl, ha⟩, _⟩ := ha
  obtain ⟨⟨aob, cb, bb, ob, rfl, hb⟩, _⟩ := hb
  have hna := ha.nb
  have hnb := hb.nb
  by_cases hl : la.length = lb.length
  · have hne : ((la.length : Int) != lb.length) = false := by simp [hl]
    have HL := Lib.hid hl
    clear hl
    go_enter Try.func38, Try.ntmps38
    go_wp2
    go_loopw [5] (fun i wr => ∃ k n : Nat, i = .int .i64 k ∧ wr = w.drewN n ∧ k ≤ la.length ∧ la.take k = lb.take k) (fun i _ => la.length - (intOf i).toNat)
    case atStart => exact ⟨0, 0, rfl, rfl, by omega, by simp⟩
    case round =>
      obtain ⟨k, n, rfl, rfl, hk, heq⟩ := hrel
      have HE := Lib.hid heq
      clear heq
      by_cases hlt : k < la.length
      · have hltb : k < lb.length := by rw [← HL.out]; exact hlt
        obtain rfl := ha.ad (by omega)
        obtain rfl := hb.ad (by omega)
        have c1 := ha.el k hlt
        have c2 := hb.el k hltb
        unfold ivF at c1 c2
        go_wp2
        go_quiet (fail)
        go_wp2
        · have hd : (la[k] != lb[k]) = true := by assumption
          go_ret
          refine ⟨ret_bool (Eq.symm (decide_eq_false ?_)), _, World.drewN_drewN ..⟩
          rintro rfl
          simp at hd
        · have hd : (la[k] != lb[k]) = false := by assumption
          go_roundw
          case rel => exact ⟨k + 1, _, by go_num, rfl, by omega, take_succ_eq hlt hltb HE.out (by simpa using hd)⟩
          case measure => simp [intOf]; omega
      · go_wp2
        go_ret
        refine ⟨ret_bool (Eq.symm (decide_eq_true ?_)), n, rfl⟩
        have h1 := HE.out
        have h2 := HL.out
        rwa [List.take_of_length_le (by omega), List.take_of_length_le (by omega)] at h1
  · have hne : ((la.length : Int) != lb.length) = true := by simp; omega
    go_enter Try.func38, Try.ntmps38
    go_wp2
    go_ret
    exact ⟨ret_bool (Eq.symm (decide_eq_false (by rintro rfl; exact hl rfl))), 0, rfl⟩

/-- A row of one row of numbers, made for the call. -/
theorem IsRows.one {w : World} {v : Value} {l : List Int} (m : Nat) (e : TypeId) (h : IsInts w v l) (hm : m = w.heap.size) : IsRows (w.alloc (.cells #[v] e)) (.slice (some ⟨m, 0, none⟩) 1 1) [l] := by
  subst hm
  have hb := (Below.refl w.heap.size w).alloc (Nat.le_refl _) (Obj.cells #[v] e)
  refine ⟨fun _ => v, ⟨_, _, w.heap.size, 0, rfl, Nat.le_refl _, by simp [maxLen], by simp [maxN], (fun h => by cases h), fun _ => rfl, ?_⟩, ?_⟩
  · intro j hj
    obtain rfl : j = 0 := by simpa using hj
    exact cell_one_new _ _ _ 0 v rfl
  · intro j hj
    obtain rfl : j = 0 := by simpa using hj
    exact h.below hb

/-- A row with elements lies in a block. -/
theorem OB.row {w : World} {base : Nat} {v : Value} {l : List Bool} (h : OB w base v l) (hl : 0 < l.length) : ∃ g cap, v = .slice (some ⟨g, 0, none⟩) l.length cap ∧ base ≤ g ∧ g < w.heap.size := by
  rcases h.2 with ⟨_, h0⟩ | ⟨g, cap, cur, hv, hb, hg, _⟩
  · omega
  · exact ⟨g, cap, hv, hb, (Array.getElem?_eq_some_iff.1 hg).1⟩

theorem OB.slice {w : World} {base : Nat} {v : Value} {l : List Bool} (h : OB w base v l) : ∃ ao cap, v = .slice ao l.length cap := by
  rcases h.2 with ⟨hv, h0⟩ | ⟨g, cap, cur, hv, hb, hg, _⟩
  · exact ⟨none, 0, by rw [hv, h0]⟩
  · exact ⟨_, cap, hv⟩

theorem OB.base {w : World} {base base' : Nat} {v : Value} {l : List Bool} (h : OB w base v l) (hb : base' ≤ base) : OB w base' v l := by
  refine ⟨h.1, ?_⟩
  rcases h.2 with h0 | ⟨g, cap, cur, hv, hg, r⟩
  · exact .inl h0
  · exact .inr ⟨g, cap, cur, hv, Nat.le_trans hb hg, r⟩

theorem OI.base {w : World} {base base' : Nat} {v : Value} {l : List Int} (h : OI w base v l) (hb : base' ≤ base) : OI w base' v l := by
  refine ⟨h.1, ?_⟩
  rcases h.2 with h0 | ⟨g, cap, cur, hv, hg, r⟩
  · exact .inl h0
  · exact .inr ⟨g, cap, cur, hv, Nat.le_trans hb hg, r⟩

/-- A row of the call's own stays where new memory is made, or other rows are written. -/
theorem OB.grown {w w' : World} {base : Nat} {v : Value} {l : List Bool} {row : Option Nat} (h : OB w base v l) (hg : w.grownBy w' row) (hne : v.ownBlock = none ∨ v.ownBlock ≠ row) : OB w' base v l := World.ownsRow.kept h hg hne

theorem OI.grown {w w' : World} {base : Nat} {v : Value} {l : List Int} {row : Option Nat} (h : OI w base v l) (hg : w.grownBy w' row) (hne : v.ownBlock = none ∨ v.ownBlock ≠ row) : OI w' base v l := World.ownsRow.kept h hg hne

theorem below_grown {w w' : World} (h : Below w.heap.size w w') : w.grownBy w' none := ⟨h.os, h.tape, h.output, h.size, fun k hk _ => h.block k hk⟩

theorem OB.below {w w' : World} {base : Nat} {v : Value} {l : List Bool} (h : OB w base v l) (hb : Below w.heap.size w w') : OB w' base v l := h.grown (below_grown hb) (by cases v.ownBlock <;> simp)

theorem OI.below {w w' : World} {base : Nat} {v : Value} {l : List Int} (h : OI w base v l) (hb : Below w.heap.size w w') : OI w' base v l := h.grown (below_grown hb) (by cases v.ownBlock <;> simp)

theorem OI_nil (w : World) (base : Nat) : OI w base (.slice none 0 0) [] := World.ownsRow_nil _ _ _ _

theorem OI.row {w : World} {base : Nat} {v : Value} {l : List Int} (h : OI w base v l) (hl : 0 < l.length) : ∃ g cap, v = .slice (some ⟨g, 0, none⟩) l.length cap ∧ base ≤ g ∧ g < w.heap.size := by
  rcases h.2 with ⟨_, h0⟩ | ⟨g, cap, cur, hv, hb, hg, _⟩
  · omega
  · exact ⟨g, cap, hv, hb, (Array.getElem?_eq_some_iff.1 hg).1⟩

theorem OI.slice {w : World} {base : Nat} {v : Value} {l : List Int} (h : OI w base v l) : ∃ ao cap, v = .slice ao l.length cap := by
  rcases h.2 with ⟨hv, h0⟩ | ⟨g, cap, cur, hv, hb, hg, _⟩
  · exact ⟨none, 0, by rw [hv, h0]⟩
  · exact ⟨_, cap, hv⟩

/-- Two rows lie in different blocks. -/
def Apart (v v' : Value) : Prop := ∀ g, v.ownBlock = some g → v'.ownBlock = some g → False

theorem Apart.symm {v v' : Value} (h : Apart v v') : Apart v' v := fun g h1 h2 => h g h2 h1

theorem Apart.ne {v v' : Value} (h : Apart v v') : v.ownBlock = none ∨ v.ownBlock ≠ v'.ownBlock := by
  cases hv : v.ownBlock with
  | none => exact .inl rfl
  | some g => exact .inr fun e => h g hv e.symm

theorem Apart.moved {w : World} {v u u' : Value} (h : Apart v u) (hm : Moved w u u') (hl : ∀ g, v.ownBlock = some g → g < w.heap.size) : Apart v u' := fun g h1 h2 => by
  rcases hm g h2 with e | e
  · exact h g h1 e
  · have := hl g h1; omega

theorem Apart.of_lt {w : World} {v v' : Value} (hl : ∀ g, v.ownBlock = some g → g < w.heap.size) (hg : ∀ g, v'.ownBlock = some g → w.heap.size ≤ g) : Apart v v' := fun g h1 h2 => by
  have := hl g h1; have := hg g h2; omega

theorem OB.lt' {w : World} {base : Nat} {v : Value} {l : List Bool} (h : OB w base v l) : ∀ g, v.ownBlock = some g → g < w.heap.size := fun g hg => (World.ownsRow.lt h g hg).2

theorem OI.lt' {w : World} {base : Nat} {v : Value} {l : List Int} (h : OI w base v l) : ∀ g, v.ownBlock = some g → g < w.heap.size := fun g hg => (World.ownsRow.lt h g hg).2

theorem OB.ge {w : World} {base : Nat} {v : Value} {l : List Bool} (h : OB w base v l) : ∀ g, v.ownBlock = some g → base ≤ g := fun g hg => (World.ownsRow.lt h g hg).1

theorem OI.ge {w : World} {base : Nat} {v : Value} {l : List Int} (h : OI w base v l) : ∀ g, v.ownBlock = some g → base ≤ g := fun g hg => (World.ownsRow.lt h g hg).1

/-- Only blocks with S have been written, of those that were there. -/
structure Only (S : Nat → Prop) (w w' : World) : Prop where
  os : w'.os = w.os
  tape : w'.tape = w.tape
  output : w'.output = w.output
  size : w.heap.size ≤ w'.heap.size
  block : ∀ k, k < w.heap.size → ¬ S k → w'.heap[k]? = w.heap[k]?

theorem Only.refl (S : Nat → Prop) (w : World) : Only S w w := ⟨rfl, rfl, rfl, Nat.le_refl _, fun _ _ _ => rfl⟩

theorem Only.trans {S : Nat → Prop} {a b c : World} (h : Only S a b) (k : Only S b c) : Only S a c :=
  ⟨k.os.trans h.os, k.tape.trans h.tape, k.output.trans h.output, Nat.le_trans h.size k.size, fun i hi hs => (k.block i (Nat.lt_of_lt_of_le hi h.size) hs).trans (h.block i hi hs)⟩

theorem Only.mono {S T : Nat → Prop} {a b : World} (h : Only S a b) (hs : ∀ k, k < a.heap.size → S k → T k) : Only T a b :=
  ⟨h.os, h.tape, h.output, h.size, fun i hi ht => h.block i hi (fun x => ht (hs i hi x))⟩

theorem Only.of_below {S : Nat → Prop} {a b : World} (h : Below a.heap.size a b) : Only S a b := ⟨h.os, h.tape, h.output, h.size, fun i hi _ => h.block i hi⟩

theorem Only.of_grown {a b : World} {r : Option Nat} (h : a.grownBy b r) : Only (fun k => r = some k) a b := ⟨h.os, h.tape, h.output, h.size, fun i hi hs => h.block i hi (fun e => hs e.symm)⟩

theorem Only.below {S : Nat → Prop} {a b : World} (h : Only S a b) (B : Nat) (hB : ∀ k, S k → B ≤ k) (hs : B ≤ a.heap.size) : Below B a b :=
  ⟨h.os, h.tape, h.output, h.size, fun k hk => h.block k (by omega) (fun x => by have := hB k x; omega)⟩

theorem Only.grown {S : Nat → Prop} {a b : World} (h : Only S a b) (g : Nat) (_hg : g < a.heap.size) (hs : ∀ k, S k → k = g) : a.grownBy b (some g) :=
  ⟨h.os, h.tape, h.output, h.size, fun k hk hr => h.block k hk (fun x => hr (by rw [hs k x]))⟩

theorem OB.only {S : Nat → Prop} {w w' : World} {base : Nat} {v : Value} {l : List Bool} (h : OB w base v l) (hg : Only S w w') (hne : ∀ k, v.ownBlock = some k → ¬ S k) : OB w' base v l := by
  refine ⟨h.1, ?_⟩
  rcases h.2 with hn | ⟨g, cap, cur, rfl, hb, hgg, rest⟩
  · exact .inl hn
  · exact .inr ⟨g, cap, cur, rfl, hb, by rw [hg.block g (Array.getElem?_eq_some_iff.1 hgg).1 (hne g rfl)]; exact hgg, rest⟩

theorem OI.only {S : Nat → Prop} {w w' : World} {base : Nat} {v : Value} {l : List Int} (h : OI w base v l) (hg : Only S w w') (hne : ∀ k, v.ownBlock = some k → ¬ S k) : OI w' base v l := by
  refine ⟨h.1, ?_⟩
  rcases h.2 with hn | ⟨g, cap, cur, rfl, hb, hgg, rest⟩
  · exact .inl hn
  · exact .inr ⟨g, cap, cur, rfl, hb, by rw [hg.block g (Array.getElem?_eq_some_iff.1 hgg).1 (hne g rfl)]; exact hgg, rest⟩

/-- The blocks that take writes to. -/
def GrowAt (ga gi gm gl : Nat) (vq : Value) (k : Nat) : Prop := k = ga ∨ k = gi ∨ k = gm ∨ k = gl ∨ vq.ownBlock = some k

theorem Only.set {w : World} {S : Nat → Prop} (g j : Nat) (u : Value) (h : S g) : Only S w (w.setCell ⟨g, j, none⟩ u) :=
  (Only.of_grown (grown_set w g j u)).mono (fun k _ hk => by cases hk; exact h)

theorem info_ints : (Try.prog.info? 29).map (fun i => (i.zero, i.size, i.bytes)) = some (some (.slice none 0 0), 1, 24) := by kernel_rfl

/-- Rows of numbers of the call's own, one block each, under one block. -/
structure Rows (w : World) (B n ob : Nat) (vals : List Value) (rows : List (List Int)) : Prop where
  o : w.ownsRow B 29 1 (.slice (some ⟨ob, 0, none⟩) n n) n vals
  e : ∀ j, j < n → OI w B (vals.getD j undef) (rows.getD j [])
  a : ∀ i j, i < n → j < n → i ≠ j → Apart (vals.getD i undef) (vals.getD j undef)
  ob' : ∀ j, j < n → (vals.getD j undef).ownBlock ≠ some ob
  lv : vals.length = n
  lr : rows.length = n

theorem OB_made {w : World} {B g n : Nat} (h : w.heap[g]? = some (.cells (madeCells #[.bool false] n) 4 (0, 0))) (hb : B ≤ g) (hn : n ≤ 3000) : OB w B (.slice (some ⟨g, 0, none⟩) n n) (List.replicate n false) := by
  refine ⟨by simp, .inr ⟨g, n, _, ?_, hb, h, ?_, by simp only [maxLen]; omega, by simp [size_madeCells], ?_⟩⟩
  · simp
  · simp
  · rw [toList_madeCells_one]; simp

theorem drew_heap (w : World) : w.drew.heap = w.heap := rfl

theorem Rows.made {W : World} {B ob n : Nat} (h : W.heap[ob]? = some (.cells (madeCells #[.slice none 0 0] n) 29 (0, 0))) (hb : B ≤ ob) (hn : n ≤ 3000) : Rows W B n ob (List.replicate n (.slice none 0 0)) (List.replicate n []) := by
  have hg : ∀ j, j < n → (List.replicate n (Value.slice none 0 0)).getD j undef = .slice none 0 0 := fun j hj => by simp [List.getD, hj]
  have hg2 : ∀ j, j < n → (List.replicate n ([] : List Int)).getD j [] = [] := fun j hj => by simp [List.getD, hj]
  refine ⟨⟨by simp, .inr ⟨ob, n, _, rfl, hb, h, Nat.le_refl _, by simp only [maxLen]; omega, by simp [size_madeCells], ?_⟩⟩, fun j hj => ?_, fun i j hi hj _ => ?_, fun j hj => ?_, by simp, by simp⟩
  · rw [toList_madeCells_one]; simp
  · rw [hg j hj, hg2 j hj]; exact OI_nil _ _
  · rw [hg i hi]; intro k hk; cases hk
  · rw [hg j hj]; intro hk; cases hk

theorem Rows.row {w : World} {B n ob : Nat} {vals : List Value} {rows : List (List Int)} (h : Rows w B n ob vals rows) : B ≤ ob ∧ ob < w.heap.size := World.ownsRow.lt h.o ob rfl

theorem Rows.cell {w : World} {B n ob : Nat} {vals : List Value} {rows : List (List Int)} (h : Rows w B n ob vals rows) {j : Nat} (hj : j < n) : w.cell? ⟨ob, j, none⟩ = some (vals.getD j undef) := by
  rw [World.ownsRow.cellAt h.o j (by omega), List.getD]
  have : j < vals.length := by rw [h.lv]; exact hj
  simp [this]

theorem ownsRow_only {S : Nat → Prop} {w w' : World} {base e size n : Nat} {v : Value} {l : List Value} (h : w.ownsRow base e size v n l) (hg : Only S w w') (hne : ∀ k, v.ownBlock = some k → ¬ S k) : w'.ownsRow base e size v n l := by
  refine ⟨h.1, ?_⟩
  rcases h.2 with hn | ⟨g, cap, cur, rfl, hb, hgg, rest⟩
  · exact .inl hn
  · exact .inr ⟨g, cap, cur, rfl, hb, by rw [hg.block g (Array.getElem?_eq_some_iff.1 hgg).1 (hne g rfl)]; exact hgg, rest⟩

theorem Rows.only {S : Nat → Prop} {w w' : World} {B n ob : Nat} {vals : List Value} {rows : List (List Int)} (h : Rows w B n ob vals rows) (hg : Only S w w') (ho : ¬ S ob) (hv : ∀ j, j < n → ∀ b, (vals.getD j undef).ownBlock = some b → ¬ S b) : Rows w' B n ob vals rows :=
  { h with
    o := ownsRow_only h.o hg (fun k hk => by cases hk; exact ho)
    e := fun j hj => (h.e j hj).only hg (hv j hj) }

section
variable {w w' : World} {B n ga gi gm gl ob : Nat} {vq vq' : Value} {vals : List Value} {inn inn' : List Bool} {mv lf q mv' lf' q' : List Int} {bf : List (List Int)}
theorem GrowAt.moved (hm : Moved w vq vq') {b : Nat} (hb : b < w.heap.size) (hn : ¬ GrowAt ga gi gm gl vq b) : ¬ GrowAt ga gi gm gl vq' b := by
  rintro (e | e | e | e | e)
  · exact hn (.inl e)
  · exact hn (.inr (.inl e))
  · exact hn (.inr (.inr (.inl e)))
  · exact hn (.inr (.inr (.inr (.inl e))))
  · rcases hm b e with e | e
    · exact hn (.inr (.inr (.inr (.inr e))))
    · omega
end

section
variable {w w' : World} {B n ga gi gm gl ob : Nat} {vq vq' : Value} {vals : List Value} {inn inn' : List Bool} {mv lf q mv' lf' q' : List Int} {bf : List (List Int)}
theorem Moved.refl (w : World) (v : Value) : Moved w v v := fun _ h => .inl h
end

section
variable {w w' : World} {B n ga gi gm gl ob : Nat} {vq vq' : Value} {vals : List Value} {inn inn' : List Bool} {mv lf q mv' lf' q' : List Int} {bf : List (List Int)}
theorem getD_set_eq {α : Type} (l : List α) (i : Nat) (a d : α) (h : i < l.length) : (l.set i a).getD i d = a := by simp [List.getD, h]
end

section
variable {w w' : World} {B n ga gi gm gl ob : Nat} {vq vq' : Value} {vals : List Value} {inn inn' : List Bool} {mv lf q mv' lf' q' : List Int} {bf : List (List Int)}
theorem getD_set_ne {α : Type} (l : List α) (i j : Nat) (a d : α) (h : i ≠ j) : (l.set i a).getD j d = l.getD j d := by simp [List.getD, List.getElem?_set_ne h]
end

/-- The members, their numbers, the counters, the queue. -/
structure Att where
  inn : List Bool
  mv : List Int
  lf : List Int
  q : List Int

/-- What stays true of a state, N a bound on its numbers. -/
structure AttOK (n N : Nat) (st : Att) : Prop where
  li : st.inn.length = n
  lm : st.mv.length = n
  ll : st.lf.length = n
  qc : st.q.length = st.inn.count true
  qr : ∀ x ∈ st.q, 0 ≤ x ∧ x < n
  mr : ∀ i, -(N : Int) ≤ st.mv.getD i 0 ∧ st.mv.getD i 0 ≤ N
  lr : ∀ i, -(N : Int) ≤ st.lf.getD i 0 ∧ st.lf.getD i 0 ≤ N

theorem AttOK.mono {n N M : Nat} {st : Att} (h : AttOK n N st) (hM : N ≤ M) : AttOK n M st :=
  { h with
    mr := fun i => by have := h.mr i; omega
    lr := fun i => by have := h.lr i; omega }

section
variable (g : Gm) (p : Int) (t : List Bool)
/-- The number of a position. -/
def Att.at (st : Att) (x : Int) : Int := st.mv.getD x.toNat 0
end

/-- Values that own different blocks. -/
def Sep (l : List Value) : Prop := l.Pairwise Apart

theorem apart_none {v u : Value} (h : v.ownBlock = none) : Apart v u := fun g hg => by rw [h] at hg; cases hg

theorem Sep.get {l : List Value} (h : Sep l) {i j : Nat} (hij : i ≠ j) {u v : Value} (hi : l[i]? = some u) (hj : l[j]? = some v) : Apart u v := by
  obtain ⟨hi', rfl⟩ := List.getElem?_eq_some_iff.1 hi
  obtain ⟨hj', rfl⟩ := List.getElem?_eq_some_iff.1 hj
  have h2 := List.pairwise_iff_getElem.1 h
  rcases Nat.lt_or_ge i j with hlt | hge
  · exact h2 i j hi' hj' hlt
  · exact (h2 j i hj' hi' (by omega)).symm

theorem Sep.set {l : List Value} (h : Sep l) {w : World} {i : Nat} {v v' : Value} (hi : l[i]? = some v) (hm : Moved w v v') (hlt : ∀ u ∈ l, ∀ g, u.ownBlock = some g → g < w.heap.size) : Sep (l.set i v') := by
  refine List.pairwise_iff_getElem.2 fun a b ha hb hab => ?_
  rw [List.length_set] at ha hb
  rw [List.getElem_set, List.getElem_set]
  have hget : ∀ a (ha : a < l.length), l[a]? = some l[a] := fun a ha => by simp
  split
  · rename_i e
    subst e
    rw [if_neg (by omega)]
    exact ((h.get (by omega) (hget b hb) hi).moved hm (hlt _ (List.getElem_mem hb))).symm
  · split
    · rename_i e
      subst e
      exact (h.get (by omega) (hget a ha) hi).moved hm (hlt _ (List.getElem_mem ha))
    · exact h.get (by omega) (hget a ha) (hget b hb)

/-- A value in new memory lies apart. -/
theorem Sep.cons {l : List Value} (h : Sep l) {w : World} {v : Value} (hv : ∀ g, v.ownBlock = some g → w.heap.size ≤ g) (hlt : ∀ u ∈ l, ∀ g, u.ownBlock = some g → g < w.heap.size) : Sep (v :: l) :=
  List.pairwise_cons.2 ⟨fun u hu => (Apart.of_lt (hlt u hu) hv).symm, h⟩

theorem Sep.sub {l l' : List Value} (h : Sep l) (hs : l'.Sublist l) : Sep l' := h.sublist hs

theorem Sep.perm {l l' : List Value} (h : Sep l) (hp : l.Perm l') : Sep l' := (hp.pairwise_iff (fun h => Apart.symm h)).1 h

/-- The block of a box, told as a value. -/
def boxV (z : Nat) : Value := .slice (some ⟨z, 0, none⟩) 0 0

section
variable {w w' : World} {B z : Nat} {v0 v1 v2 : Value} {vals others : List Value} {gm : Gm}
theorem ownsRow_set_ne {w : World} {base e size n g j : Nat} {v u : Value} {xs : List Value} (h : w.ownsRow base e size v n xs) (hne : v.ownBlock ≠ some g) : (w.setCell ⟨g, j, none⟩ u).ownsRow base e size v n xs :=
  ownsRow_only (S := fun k => k = g) h ((Only.of_grown (grown_set w g j u)).mono (fun k _ hk => by cases hk; rfl)) (fun k hk e => hne (by rw [hk, e]))
end

/-- 'append' of a row to rows of the call's own. -/
theorem app_row {ops : Array Oper} {rest : List Oper} {o : Oper} {a : Act} {Q : Exit → Act → World → Prop} {w : World} (hgd : o.guard = none) (s x : Operand) (u : Value)
    (ho : o.op = .call { callee := .builtin .append, args := #[s, x], argTypes := #[22, 22] })
    (base : Nat) (v : Value) (n : Nat) (l : List Value) (hown : w.ownsRow base 29 1 v n l) (hs : a.eval s = v) (m : Nat) (hm : m = w.heap.size) (hx : a.eval x = .slice (some ⟨m, 0, none⟩) 1 1) (hu : u.oneCell' = true)
    (hn : n < 5864062014000) (hbase : base ≤ w.heap.size)
    (h : ∀ v' w', w'.ownsRow base 29 1 v' (n + 1) (l ++ [u]) → w.grownBy w' v.ownBlock → Moved w v v' → wpList Try.prog ops Q rest (a.put o.dst v') w') :
    wpList Try.prog ops Q (o :: rest) a (w.alloc (.cells #[u] 29)) :=
  wpList_app1 hgd s x _ _ 24 _ u ho Try.underlying22 info_ints rfl base v n _ hs hown m hm hx hu (by omega) (by decide) hbase h

/-- 'append' of a number in a region that draws its order. -/
theorem wp_app_int {o : Oper} {a : Act} {K : Act → World → Prop} {Q : Exit → Act → World → Prop} (w : World) (s x : Operand) (b : Int)
    (ho : o.op = .call { callee := .builtin .append, args := #[s, x], argTypes := #[29, 29] })
    (base : Nat) (v : Value) (l : List Int) (hs : a.eval s = v) (hown : OI w base v l) (hx : a.eval x = .slice (some ⟨w.heap.size, 0, none⟩) 1 1)
    (hn : l.length < 17592186043904) (hbase : base ≤ w.heap.size)
    (h : ∀ v' w', OI w' base v' (l ++ [b]) → w.grownBy w' v.ownBlock → Moved w v v' → K (a.put o.dst v') w') :
    Oper.wp Try.prog o a (w.alloc (.cells #[.int .i64 b] 3)).drew K Q := by
  obtain ⟨i0, hi0, hz0, hz1, hz2⟩ := info_parts info_int
  refine wp_append_lies _ s x _ ho base _ i0 _ 1 8 Try.underlying29 hi0 hz0 hz1 hz2 rfl (by decide) v l.length _ hs ((World.ownsRow.alloc hown _).drew) ⟨w.heap.size, 0, none⟩ 1 1 [.int .i64 b] hx rfl (World.news_of_block (cs := #[.int .i64 b]) (t := 3) (fr := (0, 0)) (heap_alloc_new w _)) (by simp [Value.oneCell']) (by omega) (by simp only [maxLen]; omega) (by omega) (by simp; omega) (w.heap.size + 1) (by simp) ?_
  intro g cap w' h1 h2 h3 h4
  refine h _ _ (by unfold OI; simpa using h1) ⟨h2.os, h2.tape, h2.output, by have := h2.size; rw [drew_heap] at this; simp at this; omega, fun k hk hr => ?_⟩ (fun k hk => ?_)
  · rw [h2.block k (by rw [drew_heap]; simp; omega) hr]; exact heap_alloc_old w _ hk
  · obtain rfl : g = k := by simpa [Value.ownBlock] using hk
    rcases h3 with e | e
    · exact .inl e
    · exact .inr (by omega)

theorem three_set {wr : World} {n : Nat} {t : TypeId} {x y z a b c : Value} (h : wr.heap[n]? = some (.cells #[x, y, z] t (0, 0))) : (((wr.setCell ⟨n, 0, none⟩ a).setCell ⟨n, 1, none⟩ b).setCell ⟨n, 2, none⟩ c).heap[n]? = some (.cells #[a, b, c] t (0, 0)) :=
  heap_setCell_same _ n 2 _ _ c (heap_setCell_same _ n 1 _ _ b (heap_setCell_same _ n 0 _ _ a h))

section
variable {P : Program} {ops : Array Oper} {Q : Exit → Act → World → Prop} {md : Region.Mode}
/-- Each edge leads back. -/
def backB (md : Region.Mode) (ops : Array Oper) : Bool := (List.range ops.size).all fun i => match ops[i]? with | some o => o.after.toList.all (fun e => !Region.binds md e || decide (e.on < i)) | none => true
end

section
variable {P : Program} {ops : Array Oper} {Q : Exit → Act → World → Prop} {md : Region.Mode}
theorem backB_spec (h : backB md ops = true) {i : Nat} {o : Oper} (hi : ops[i]? = some o) : ∀ e ∈ o.after, Region.binds md e = true → e.on < i := by
  intro e he hb
  have := List.all_eq_true.1 h i (List.mem_range.2 (Array.getElem?_eq_some_iff.1 hi).1)
  rw [hi] at this
  have := List.all_eq_true.1 this e (by simpa using he)
  rw [hb] at this
  simpa using this
end

section
variable {P : Program} {ops : Array Oper} {Q : Exit → Act → World → Prop} {md : Region.Mode}
theorem all_listed (h : backB md ops = true) {listed : Array Bool} (hs : listed.size = ops.size) (hr : Region.ready md ops listed = []) : ∀ i, i < ops.size → listed.getD i false = true := by
  intro i
  induction i using Nat.strongRecOn with
  | _ i ih =>
    intro hi
    cases hl : listed.getD i false with
    | true => rfl
    | false =>
      have hi2 : i < listed.size := by omega
      have hm : i ∈ Region.ready md ops listed := by
        refine mem_ready.2 ⟨?_, ops[i], by simp [hi], fun e he hb => ?_⟩
        · simp [Array.getD, hi2] at hl ⊢; exact hl
        · have hlt := backB_spec h (i := i) (o := ops[i]) (by simp [hi]) e he hb
          exact ih e.on hlt (by omega)
      rw [hr] at hm
      cases hm
end

section
variable {P : Program} {ops : Array Oper} {Q : Exit → Act → World → Prop} {md : Region.Mode}
/-- What is known: the listed operations have left their values. -/
def StInv (R : Nat → Value → World → Prop) (w : World) (listed : Array Bool) (vs : Nat → Value) (W : World) : Prop :=
  Below w.heap.size w W ∧ ∀ i, listed.getD i false = true → R i (vs i) W
end

section
variable {P : Program} {ops : Array Oper} {Q : Exit → Act → World → Prop} {md : Region.Mode}
/-- The values, one of them set. -/
def upd (vs : Nat → Value) (i : Nat) (v : Value) : Nat → Value := fun j => if j = i then v else vs j
end

section
variable {P : Program} {ops : Array Oper} {Q : Exit → Act → World → Prop} {md : Region.Mode}
/-- One operation: it leaves a value that R tells, and writes nothing that was there. -/
def StStep (P : Program) (Q : Exit → Act → World → Prop) (ops : Array Oper) (R : Nat → Value → World → Prop) (A : (Nat → Value) → Act) (w : World) (i : Nat) (o : Oper) : Prop :=
  ∀ (vs : Nat → Value) (W : World) (K : Act → World → Prop), Below w.heap.size w W → (∀ e ∈ o.after, Region.binds .any e = true → R e.on (vs e.on) W) →
    (∀ v W', Below W.heap.size W W' → R i v W' → K (A (upd vs i v)) W') →
    if Region.wanted o (yielded ops (A vs).tmps) = true then Oper.wp P o (A vs) W K Q else K ((A vs).put o.dst undef) W
end

section
variable {P : Program} {ops : Array Oper} {Q : Exit → Act → World → Prop} {md : Region.Mode}
theorem getD_false {l : Array Bool} {i : Nat} (h : l.getD i true = false) : i < l.size ∧ l.toList[i]? = some false := by
  rcases Nat.lt_or_ge i l.size with hi | hi
  · refine ⟨hi, ?_⟩
    simp [Array.getD, hi] at h
    simp [hi, h]
  · simp [Array.getD, Nat.not_lt.2 hi] at h
end

section
variable {P : Program} {ops : Array Oper} {Q : Exit → Act → World → Prop} {md : Region.Mode}
theorem count_down {l : Array Bool} {i n : Nat} (h : l.getD i true = false) (hc : l.toList.count false ≤ n + 1) : (l.setIfInBounds i true).toList.count false ≤ n := by
  obtain ⟨h1, h2⟩ := getD_false h
  have h3 : i < l.toList.length := by simpa using h1
  have h4 : l.toList[i] = false := by
    rw [List.getElem?_eq_getElem h3] at h2
    exact Option.some.inj h2
  rw [Array.toList_setIfInBounds, List.count_set h3, h4]
  simp only [BEq.rfl, if_true, show (true == false) = false from rfl, Bool.false_eq_true, if_false]
  omega
end

section
variable {P : Program} {ops : Array Oper} {Q : Exit → Act → World → Prop} {md : Region.Mode}
theorem stable_any (R : Nat → Value → World → Prop) (A : (Nat → Value) → Act) {w : World} (hb : backB .any ops = true) (hR : ∀ i v W W', R i v W → Below W.heap.size W W' → R i v W')
    (hstep : ∀ i o, ops[i]? = some o → StStep P Q ops R A w i o)
    (hfin : ∀ vs W, Below w.heap.size w W → (∀ i, i < ops.size → R i (vs i) W) → Q .normal (A vs) W) :
    ∀ (fuel : Nat) (listed : Array Bool) (vs : Nat → Value) (W : World), listed.size = ops.size → listed.toList.count false ≤ fuel → StInv R w listed vs W → wpAny P .any ops Q fuel listed (A vs) W
  | 0, listed, vs, W, hs, hc, hinv => by
    have hno : ∀ j, ¬ listed.getD j true = false := fun j h => by
      obtain ⟨_, h2⟩ := getD_false h
      have : 0 < listed.toList.count false := List.count_pos_iff.2 (List.mem_of_getElem? h2)
      omega
    have hr : Region.ready .any ops listed = [] := List.eq_nil_iff_forall_not_mem.2 fun j hj => hno j (mem_ready.1 hj).1
    exact ⟨hr, hfin vs W hinv.1 fun i hi => hinv.2 i (all_listed hb hs hr i hi)⟩
  | fuel + 1, listed, vs, W, hs, hc, hinv => by
    refine ⟨fun hr => hfin vs W hinv.1 fun i hi => hinv.2 i (all_listed hb hs hr i hi), fun i hi => ?_⟩
    obtain ⟨hl, o, ho, hall⟩ := mem_ready.1 hi
    refine wpOp_step ho fun K hK => ?_
    refine hstep i o ho vs W K hinv.1 (fun e he hbd => hinv.2 _ (hall e he hbd)) fun v W' hbl hr => hK _ _ ?_
    refine stable_any R A hb hR hstep hfin fuel _ (upd vs i v) W' (by simpa using hs) (count_down hl hc) ⟨hinv.1.trans (hbl.mono hinv.1.size), fun j hj => ?_⟩
    by_cases hji : j = i
    · subst hji
      simpa [upd] using hr
    · have hj' : listed.getD j false = true := by
        have : (listed.setIfInBounds i true).getD j false = listed.getD j false := by
          simp [Array.getD_eq_getD_getElem?, Ne.symm hji]
        rwa [this] at hj
      simp only [upd, if_neg hji]
      exact hR j _ W W' (hinv.2 j hj') hbl
end

section
variable {P : Program} {ops : Array Oper} {Q : Exit → Act → World → Prop} {md : Region.Mode}
/-- The region. A tells the frame by the values of the operations; R i what is known of the value of operation i. -/
theorem region_stable {id : Nat} {a : Act} {w : World} (hm : P.follows .mixedOrders = true) (R : Nat → Value → World → Prop) (A : (Nat → Value) → Act) (vs : Nat → Value) (ha : a = A vs) (hb : backB .any ops = true)
    (hR : ∀ i v W W', R i v W → Below W.heap.size W W' → R i v W')
    (hstep : ∀ i o, ops[i]? = some o → StStep P Q ops R A w.drew i o)
    (hfin : ∀ vs W, Below w.drew.heap.size w.drew W → (∀ i, i < ops.size → R i (vs i) W) → Q .normal (A vs) W) : (Code.region id ops true).wp P Q a w := by
  subst ha
  refine wp_region_any hm (stable_any R A hb hR hstep hfin ops.size _ vs w.drew (by simp) ?_ ⟨Below.refl _ _, fun i hi => ?_⟩)
  · simp
  · exfalso
    rcases Nat.lt_or_ge i ops.size with h | h
    · simp [Array.getD, h] at hi
    · simp [Array.getD, Nat.not_lt.2 h] at hi
end

section
variable {P : Program} {ops : Array Oper} {Q : Exit → Act → World → Prop} {md : Region.Mode}
/-- The last operation waits for all others. -/
def lastB (ops : Array Oper) (m : Nat) : Bool := decide (ops.size = m + 1) && match ops[m]? with | some o => (List.range m).all (fun j => o.after.toList.any fun e => Region.binds .any e && e.on == j) | none => false
end

section
variable {P : Program} {ops : Array Oper} {Q : Exit → Act → World → Prop} {md : Region.Mode}
theorem ready_nil {listed : Array Bool} (h : ∀ i, i < ops.size → listed.getD i false = true) : Region.ready md ops listed = [] :=
  List.eq_nil_iff_forall_not_mem.2 fun j hj => by
    obtain ⟨h1, o, ho, _⟩ := mem_ready.1 hj
    have hj2 := (Array.getElem?_eq_some_iff.1 ho).1
    have h2 := h j hj2
    obtain ⟨h3, _⟩ := getD_false h1
    simp [Array.getD, h3] at h1 h2
    rw [h1] at h2; cases h2
end

section
variable {P : Program} {ops : Array Oper} {Q : Exit → Act → World → Prop} {md : Region.Mode}
theorem wpAny_done {listed : Array Bool} {a : Act} {w : World} (h : ∀ i, i < ops.size → listed.getD i false = true) (hQ : Q .normal a w) : ∀ fuel, wpAny P md ops Q fuel listed a w
  | 0 => ⟨ready_nil h, hQ⟩
  | _ + 1 => ⟨fun _ => hQ, by rw [ready_nil h]; simp⟩
end

section
variable {P : Program} {ops : Array Oper} {Q : Exit → Act → World → Prop} {md : Region.Mode}
/-- The last operation, which may write. -/
def StLast (P : Program) (Q : Exit → Act → World → Prop) (ops : Array Oper) (R : Nat → Value → World → Prop) (A : (Nat → Value) → Act) (w : World) (m : Nat) (o : Oper) : Prop :=
  ∀ (vs : Nat → Value) (W : World) (K : Act → World → Prop), Below w.heap.size w W → (∀ i, i < m → R i (vs i) W) → (∀ a' W', Q .normal a' W' → K a' W') →
    if Region.wanted o (yielded ops (A vs).tmps) = true then Oper.wp P o (A vs) W K Q else K ((A vs).put o.dst undef) W
end

section
variable {P : Program} {ops : Array Oper} {Q : Exit → Act → World → Prop} {md : Region.Mode}
theorem last_any (R : Nat → Value → World → Prop) (A : (Nat → Value) → Act) {w : World} (m : Nat) (hb : backB .any ops = true) (hl : lastB ops m = true) (hR : ∀ i v W W', R i v W → Below W.heap.size W W' → R i v W')
    (hstep : ∀ i o, i < m → ops[i]? = some o → StStep P Q ops R A w i o) (hlast : ∀ o, ops[m]? = some o → StLast P Q ops R A w m o) :
    ∀ (fuel : Nat) (listed : Array Bool) (vs : Nat → Value) (W : World), listed.size = ops.size → listed.toList.count false ≤ fuel → listed.getD m false = false → StInv R w listed vs W → wpAny P .any ops Q fuel listed (A vs) W
  | 0, listed, vs, W, hs, hc, hm, hinv => by
    simp only [lastB, Bool.and_eq_true, decide_eq_true_eq] at hl
    have h1 : listed.getD m true = false := by
      have : m < listed.size := by omega
      simp [Array.getD, this] at hm ⊢; exact hm
    obtain ⟨_, h2⟩ := getD_false h1
    have : 0 < listed.toList.count false := List.count_pos_iff.2 (List.mem_of_getElem? h2)
    omega
  | fuel + 1, listed, vs, W, hs, hc, hm, hinv => by
    have hl' := hl
    simp only [lastB, Bool.and_eq_true, decide_eq_true_eq] at hl'
    obtain ⟨hsz, hla⟩ := hl'
    refine ⟨fun hr => ?_, fun i hi => ?_⟩
    · have := all_listed hb hs hr m (by omega)
      rw [hm] at this; cases this
    · obtain ⟨hli, o, ho, hall⟩ := mem_ready.1 hi
      have hilt := (Array.getElem?_eq_some_iff.1 ho).1
      have hset : ∀ j, j ≠ i → (listed.setIfInBounds i true).getD j false = listed.getD j false := fun j hj => by
        simp [Array.getD_eq_getD_getElem?, Ne.symm hj]
      by_cases him : i = m
      · subst him
        rw [ho] at hla
        have hothers : ∀ j, j < i → listed.getD j false = true := fun j hj => by
          have := List.all_eq_true.1 hla j (List.mem_range.2 hj)
          obtain ⟨e, he, h2⟩ := List.any_eq_true.1 this
          simp only [Bool.and_eq_true, beq_iff_eq] at h2
          obtain ⟨h3, rfl⟩ := h2
          exact hall e (by simpa using he) h3
        refine wpOp_step ho fun K hK => ?_
        refine hlast o ho vs W K hinv.1 (fun j hj => hinv.2 j (hothers j hj)) fun a' W' hQ => hK _ _ (wpAny_done (fun j hj => ?_) hQ fuel)
        by_cases hji : j = i
        · subst hji
          have : j < listed.size := by omega
          simp [Array.getD, this]
        · rw [hset j hji]; exact hothers j (by omega)
      · refine wpOp_step ho fun K hK => ?_
        refine hstep i o (by omega) ho vs W K hinv.1 (fun e he hbd => hinv.2 _ (hall e he hbd)) fun v W' hbl hr => hK _ _ ?_
        refine last_any R A m hb hl hR hstep hlast fuel _ (upd vs i v) W' (by simpa using hs) (count_down hli hc) (by rw [hset m (Ne.symm him)]; exact hm) ⟨hinv.1.trans (hbl.mono hinv.1.size), fun j hj => ?_⟩
        by_cases hji : j = i
        · subst hji
          simpa [upd] using hr
        · rw [hset j hji] at hj
          simp only [upd, if_neg hji]
          exact hR j _ W W' (hinv.2 j hj) hbl
end

section
variable {P : Program} {ops : Array Oper} {Q : Exit → Act → World → Prop} {md : Region.Mode}
/-- The region whose last operation (number m) waits for all others and may write. -/
theorem region_last {id : Nat} {a : Act} {w : World} (hm : P.follows .mixedOrders = true) (R : Nat → Value → World → Prop) (A : (Nat → Value) → Act) (vs : Nat → Value) (m : Nat) (ha : a = A vs) (hb : backB .any ops = true) (hl : lastB ops m = true)
    (hR : ∀ i v W W', R i v W → Below W.heap.size W W' → R i v W')
    (hstep : ∀ i o, i < m → ops[i]? = some o → StStep P Q ops R A w.drew i o) (hlast : ∀ o, ops[m]? = some o → StLast P Q ops R A w.drew m o) : (Code.region id ops true).wp P Q a w := by
  subst ha
  have hnone : ∀ i, (Array.replicate ops.size false).getD i false = false := fun i => by
    rcases Nat.lt_or_ge i ops.size with h | h
    · simp [Array.getD, h]
    · simp [Array.getD, Nat.not_lt.2 h]
  refine wp_region_any hm (last_any R A m hb hl hR hstep hlast ops.size _ vs w.drew (by simp) (by simp) (hnone m) ⟨Below.refl _ _, fun i hi => ?_⟩)
  rw [hnone i] at hi; cases hi
end

section
variable {P : Program} {ops : Array Oper} {Q : Exit → Act → World → Prop} {md : Region.Mode}
/-- What is known of an operation that one waits for. -/
theorem dep_of {o : Oper} {R : Nat → Value → World → Prop} {vs : Nat → Value} {W : World} (hD : ∀ e ∈ o.after, Region.binds .any e = true → R e.on (vs e.on) W) (j : Nat) (h : (o.after.toList.any fun e => Region.binds .any e && e.on == j) = true) : R j (vs j) W := by
  obtain ⟨e, he, h2⟩ := List.any_eq_true.1 h
  simp only [Bool.and_eq_true, beq_iff_eq] at h2
  obtain ⟨h3, rfl⟩ := h2
  exact hD e (by simpa using he) h3
end

section
variable {P : Program} {ops : Array Oper} {Q : Exit → Act → World → Prop} {md : Region.Mode}
/-- What is known: the values of the listed operations that no listed operation has used up. u i: the operation that uses up the value of i. -/
def UsInv (R : Nat → Value → World → Prop) (u : Nat → Option Nat) (w : World) (listed : Array Bool) (vs : Nat → Value) (W : World) : Prop :=
  Below w.heap.size w W ∧ ∀ i, listed.getD i false = true → (∀ j, u i = some j → listed.getD j false = false) → R i (vs i) W
end

section
variable {P : Program} {ops : Array Oper} {Q : Exit → Act → World → Prop} {md : Region.Mode}
/-- L lists pairs (j, i): operation j waits, through others perhaps, for operation i. -/
def waitB (ops : Array Oper) (L : List (Nat × Nat)) : Bool := L.all fun p => match ops[p.1]? with | some o => o.after.toList.any fun e => Region.binds .any e && (e.on == p.2 || L.contains (e.on, p.2)) | none => false
end

section
variable {P : Program} {ops : Array Oper} {Q : Exit → Act → World → Prop} {md : Region.Mode}
theorem waitB_spec {L : List (Nat × Nat)} (h : waitB ops L = true) {j i : Nat} (hL : (j, i) ∈ L) : ∃ o, ops[j]? = some o ∧ ∃ e ∈ o.after, Region.binds .any e = true ∧ (e.on = i ∨ (e.on, i) ∈ L) := by
  have h1 := List.all_eq_true.1 h _ hL
  dsimp only at h1
  split at h1
  · rename_i o ho
    obtain ⟨e, he, h2⟩ := List.any_eq_true.1 h1
    simp only [Bool.and_eq_true, Bool.or_eq_true, beq_iff_eq, List.contains_iff_mem] at h2
    exact ⟨o, ho, e, by simpa using he, h2.1, h2.2⟩
  · cases h1
end

section
variable {P : Program} {ops : Array Oper} {Q : Exit → Act → World → Prop} {md : Region.Mode}
/-- What is listed holds what it waits for. -/
def Closed (ops : Array Oper) (listed : Array Bool) : Prop := ∀ j o, listed.getD j false = true → ops[j]? = some o → ∀ e ∈ o.after, Region.binds .any e = true → listed.getD e.on false = true
end

section
variable {P : Program} {ops : Array Oper} {Q : Exit → Act → World → Prop} {md : Region.Mode}
theorem Closed.wait {L : List (Nat × Nat)} {listed : Array Bool} (hb : backB .any ops = true) (h : waitB ops L = true) (hc : Closed ops listed) {i : Nat} : ∀ j, listed.getD j false = true → (j, i) ∈ L → listed.getD i false = true := by
  intro j
  induction j using Nat.strongRecOn with
  | _ j ih =>
    intro hj hL
    obtain ⟨o, ho, e, he, hbd, h2⟩ := waitB_spec h hL
    have h3 := hc j o hj ho e he hbd
    rcases h2 with rfl | h2
    · exact h3
    · exact ih e.on (backB_spec hb ho e he hbd) h3 h2
end

section
variable {P : Program} {ops : Array Oper} {Q : Exit → Act → World → Prop} {md : Region.Mode}
/-- One operation. -/
def UsStep (P : Program) (Q : Exit → Act → World → Prop) (ops : Array Oper) (R : Nat → Value → World → Prop) (u : Nat → Option Nat) (L : List (Nat × Nat)) (A : (Nat → Value) → Act) (w : World) (i : Nat) (o : Oper) : Prop :=
  ∀ (vs : Nat → Value) (W : World) (K : Act → World → Prop), Below w.heap.size w W → (∀ e ∈ o.after, Region.binds .any e = true → (u e.on = none ∨ u e.on = some i) → R e.on (vs e.on) W) →
    (∀ v W', Below w.heap.size w W' → R i v W' → (∀ j x, j ≠ i → u j ≠ some i → (∀ k, u j = some k → (i, k) ∉ L) → (j, i) ∉ L → R j x W → R j x W') → K (A (upd vs i v)) W') →
    if Region.wanted o (yielded ops (A vs).tmps) = true then Oper.wp P o (A vs) W K Q else K ((A vs).put o.dst undef) W
end

section
variable {P : Program} {ops : Array Oper} {Q : Exit → Act → World → Prop} {md : Region.Mode}
/-- The last operation, which may write. -/
def UsLast (P : Program) (Q : Exit → Act → World → Prop) (ops : Array Oper) (R : Nat → Value → World → Prop) (u : Nat → Option Nat) (A : (Nat → Value) → Act) (w : World) (m : Nat) (o : Oper) : Prop :=
  ∀ (vs : Nat → Value) (W : World) (K : Act → World → Prop), Below w.heap.size w W → (∀ i, i < m → u i = none → R i (vs i) W) → (∀ a' W', Q .normal a' W' → K a' W') →
    if Region.wanted o (yielded ops (A vs).tmps) = true then Oper.wp P o (A vs) W K Q else K ((A vs).put o.dst undef) W
end

section
variable {P : Program} {ops : Array Oper} {Q : Exit → Act → World → Prop} {md : Region.Mode}
theorem set_getD {l : Array Bool} {i j : Nat} (h : j ≠ i) : (l.setIfInBounds i true).getD j false = l.getD j false := by
  simp [Array.getD_eq_getD_getElem?, Ne.symm h]
end

section
variable {P : Program} {ops : Array Oper} {Q : Exit → Act → World → Prop} {md : Region.Mode}
theorem set_getD_self {l : Array Bool} {i : Nat} (h : i < l.size) : (l.setIfInBounds i true).getD i false = true := by
  simp [Array.getD, h]
end

section
variable {P : Program} {ops : Array Oper} {Q : Exit → Act → World → Prop} {md : Region.Mode}
theorem getD_not {l : Array Bool} {i : Nat} (h : l.getD i true = false) : l.getD i false = false := by
  rcases Nat.lt_or_ge i l.size with hi | hi
  · simp [Array.getD, hi] at h ⊢; exact h
  · simp [Array.getD, Nat.not_lt.2 hi]
end

section
variable {P : Program} {ops : Array Oper} {Q : Exit → Act → World → Prop} {md : Region.Mode}
theorem use_any (R : Nat → Value → World → Prop) (u : Nat → Option Nat) (L : List (Nat × Nat)) (A : (Nat → Value) → Act) {w : World} (m : Nat) (hb : backB .any ops = true) (hw : waitB ops L = true) (hl : lastB ops m = true)
    (hstep : ∀ i o, i < m → ops[i]? = some o → UsStep P Q ops R u L A w i o) (hlast : ∀ o, ops[m]? = some o → UsLast P Q ops R u A w m o) :
    ∀ (fuel : Nat) (listed : Array Bool) (vs : Nat → Value) (W : World), listed.size = ops.size → listed.toList.count false ≤ fuel → listed.getD m false = false → Closed ops listed → UsInv R u w listed vs W → wpAny P .any ops Q fuel listed (A vs) W
  | 0, listed, vs, W, hs, hc, hm, hcl, hinv => by
    simp only [lastB, Bool.and_eq_true, decide_eq_true_eq] at hl
    have h1 : listed.getD m true = false := by
      have : m < listed.size := by omega
      simp [Array.getD, this] at hm ⊢; exact hm
    obtain ⟨_, h2⟩ := getD_false h1
    have : 0 < listed.toList.count false := List.count_pos_iff.2 (List.mem_of_getElem? h2)
    omega
  | fuel + 1, listed, vs, W, hs, hc, hm, hcl, hinv => by
    have hl' := hl
    simp only [lastB, Bool.and_eq_true, decide_eq_true_eq] at hl'
    obtain ⟨hsz, hla⟩ := hl'
    refine ⟨fun hr => ?_, fun i hi => ?_⟩
    · have := all_listed hb hs hr m (by omega)
      rw [hm] at this; cases this
    · obtain ⟨hli, o, ho, hall⟩ := mem_ready.1 hi
      have hilt := (Array.getElem?_eq_some_iff.1 ho).1
      by_cases him : i = m
      · subst him
        rw [ho] at hla
        have hothers : ∀ j, j < i → listed.getD j false = true := fun j hj => by
          have := List.all_eq_true.1 hla j (List.mem_range.2 hj)
          obtain ⟨e, he, h2⟩ := List.any_eq_true.1 this
          simp only [Bool.and_eq_true, beq_iff_eq] at h2
          obtain ⟨h3, rfl⟩ := h2
          exact hall e (by simpa using he) h3
        refine wpOp_step ho fun K hK => ?_
        refine hlast o ho vs W K hinv.1 (fun j hj hu => hinv.2 j (hothers j hj) fun k hk => by rw [hu] at hk; cases hk) fun a' W' hQ => hK _ _ (wpAny_done (fun j hj => ?_) hQ fuel)
        by_cases hji : j = i
        · subst hji
          exact set_getD_self (by omega)
        · rw [set_getD hji]; exact hothers j (by omega)
      · refine wpOp_step ho fun K hK => ?_
        refine hstep i o (by omega) ho vs W K hinv.1 (fun e he hbd hu => hinv.2 _ (hall e he hbd) fun j hj => ?_) fun v W' hbl hr hkeep => hK _ _ ?_
        · rcases hu with hu | hu
          · rw [hu] at hj; cases hj
          · rw [hu] at hj; cases hj; exact getD_not hli
        refine use_any R u L A m hb hw hl hstep hlast fuel _ (upd vs i v) W' (by simpa using hs) (count_down hli hc) (by rw [set_getD (Ne.symm him)]; exact hm) (fun j o' hj ho' e he hbd => ?_) ⟨hbl, fun j hj hcons => ?_⟩
        · have h1 : listed.getD e.on false = true := by
            by_cases hji : j = i
            · subst hji; rw [ho] at ho'; cases ho'; exact hall e he hbd
            · rw [set_getD hji] at hj; exact hcl j o' hj ho' e he hbd
          by_cases hei : e.on = i
          · rw [hei]; exact set_getD_self (by omega)
          · rw [set_getD hei]; exact h1
        by_cases hji : j = i
        · subst hji
          simpa [upd] using hr
        · rw [set_getD hji] at hj
          simp only [upd, if_neg hji]
          have hne : u j ≠ some i := fun he => by
            have := hcons i he
            rw [set_getD_self (by omega)] at this; cases this
          refine hkeep j _ hji hne (fun k hk hL => ?_) (fun hL => ?_) (hinv.2 j hj fun k hk => ?_)
          · obtain ⟨o2, ho2, e, he, hbd, h2⟩ := waitB_spec hw hL
            rw [ho] at ho2; cases ho2
            have h3 := hall e he hbd
            have h4 : listed.getD k false = true := by
              rcases h2 with rfl | h2
              · exact h3
              · exact hcl.wait hb hw _ h3 h2
            have h5 := hcons k hk
            have hki : k ≠ i := fun hh => hne (hh ▸ hk)
            rw [set_getD hki, h4] at h5; cases h5
          · have h4 := hcl.wait hb hw j hj hL
            rw [getD_not hli] at h4; cases h4
          have h1 := hcons k hk
          by_cases hki : k = i
          · subst hki; exact absurd hk hne
          · rwa [set_getD hki] at h1
end

section
variable {P : Program} {ops : Array Oper} {Q : Exit → Act → World → Prop} {md : Region.Mode}
/-- The region whose last operation (number m) waits for all others and may write, and where u tells who uses up which value. -/
theorem region_use {id : Nat} {a : Act} {w : World} (hm : P.follows .mixedOrders = true) (R : Nat → Value → World → Prop) (u : Nat → Option Nat) (L : List (Nat × Nat)) (A : (Nat → Value) → Act) (vs : Nat → Value) (m : Nat) (ha : a = A vs) (hb : backB .any ops = true) (hw : waitB ops L = true) (hl : lastB ops m = true)
    (hstep : ∀ i o, i < m → ops[i]? = some o → UsStep P Q ops R u L A w.drew i o) (hlast : ∀ o, ops[m]? = some o → UsLast P Q ops R u A w.drew m o) : (Code.region id ops true).wp P Q a w := by
  subst ha
  have hnone : ∀ i, (Array.replicate ops.size false).getD i false = false := fun i => by
    rcases Nat.lt_or_ge i ops.size with h | h
    · simp [Array.getD, h]
    · simp [Array.getD, Nat.not_lt.2 h]
  refine wp_region_any hm (use_any R u L A m hb hw hl hstep hlast ops.size _ vs w.drew (by simp) (by simp) (hnone m) (fun j o hj => by rw [hnone j] at hj; cases hj) ⟨Below.refl _ _, fun i hi => ?_⟩)
  rw [hnone i] at hi; cases hi
end

section
variable {P : Program} {ops : Array Oper} {Q : Exit → Act → World → Prop} {md : Region.Mode}
/-- What is known of an operation that one waits for. -/
theorem dep_use {o : Oper} {R : Nat → Value → World → Prop} {u : Nat → Option Nat} {vs : Nat → Value} {W : World} {i : Nat} (hD : ∀ e ∈ o.after, Region.binds .any e = true → (u e.on = none ∨ u e.on = some i) → R e.on (vs e.on) W) (j : Nat) (h : (o.after.toList.any fun e => Region.binds .any e && e.on == j) = true) (hu : u j = none ∨ u j = some i) : R j (vs j) W := by
  obtain ⟨e, he, h2⟩ := List.any_eq_true.1 h
  simp only [Bool.and_eq_true, beq_iff_eq] at h2
  obtain ⟨h3, rfl⟩ := h2
  exact hD e (by simpa using he) h3 hu
end

section
variable {P : Program} {ops : Array Oper} {Q : Exit → Act → World → Prop} {md : Region.Mode}
/-- An operation that writes nothing that was there. -/
theorem use_plain {R : Nat → Value → World → Prop} {u : Nat → Option Nat} {L : List (Nat × Nat)} {w W : World} {i : Nat} {C : Value → World → Prop} (hR : ∀ i v W W', R i v W → Below W.heap.size W W' → R i v W') (hB : Below w.heap.size w W)
    (hK : ∀ v W', Below w.heap.size w W' → R i v W' → (∀ j x, j ≠ i → u j ≠ some i → (∀ k, u j = some k → (i, k) ∉ L) → (j, i) ∉ L → R j x W → R j x W') → C v W') : ∀ v W', Below W.heap.size W W' → R i v W' → C v W' :=
  fun v W' hb hr => hK v W' (hB.trans (hb.mono hB.size)) hr fun j x _ _ _ _ h => hR j x W W' h hb
end

section
variable {P : Program} {ops : Array Oper} {Q : Exit → Act → World → Prop}
/-- Operation j waits for operation i. -/
def waitsB (ops : Array Oper) (i j : Nat) : Bool := match ops[j]? with | some o => o.after.toList.any (fun e => Region.binds .any e && e.on == i) | none => false
end

section
variable {P : Program} {ops : Array Oper} {Q : Exit → Act → World → Prop}
theorem waits_spec {i j : Nat} (h : waitsB ops i j = true) : ∃ o, ops[j]? = some o ∧ ∃ e ∈ o.after, Region.binds .any e = true ∧ e.on = i := by
  unfold waitsB at h
  split at h
  · rename_i o ho
    obtain ⟨e, he, h2⟩ := List.any_eq_true.1 h
    simp only [Bool.and_eq_true, beq_iff_eq] at h2
    exact ⟨o, ho, e, by simpa using he, h2.1, h2.2⟩
  · cases h
end

section
variable {P : Program} {ops : Array Oper} {Q : Exit → Act → World → Prop}
def StStep0 (P : Program) (Q : Exit → Act → World → Prop) (ops : Array Oper) (R : Nat → Value → World → Prop) (A : (Nat → Value) → Act) (vs0 : Nat → Value) (w : World) (i : Nat) (o : Oper) : Prop :=
  ∀ (vs : Nat → Value) (W : World) (K : Act → World → Prop), Below w.heap.size w W → (∀ e ∈ o.after, Region.binds .any e = true → R e.on (vs e.on) W) → (∀ j, waitsB ops i j = true → vs j = vs0 j) →
    (∀ v W', Below W.heap.size W W' → R i v W' → K (A (upd vs i v)) W') →
    if Region.wanted o (yielded ops (A vs).tmps) = true then Oper.wp P o (A vs) W K Q else K ((A vs).put o.dst undef) W
end

section
variable {P : Program} {ops : Array Oper} {Q : Exit → Act → World → Prop}
theorem stable_any0 (R : Nat → Value → World → Prop) (A : (Nat → Value) → Act) (vs0 : Nat → Value) {w : World} (hb : backB .any ops = true) (hR : ∀ i v W W', R i v W → Below W.heap.size W W' → R i v W')
    (hstep : ∀ i o, ops[i]? = some o → StStep0 P Q ops R A vs0 w i o)
    (hfin : ∀ vs W, Below w.heap.size w W → (∀ i, i < ops.size → R i (vs i) W) → Q .normal (A vs) W) :
    ∀ (fuel : Nat) (listed : Array Bool) (vs : Nat → Value) (W : World), listed.size = ops.size → listed.toList.count false ≤ fuel → StInv R w listed vs W → (∀ i, listed.getD i false = false → vs i = vs0 i) →
      (∀ j o, ops[j]? = some o → listed.getD j false = true → ∀ e ∈ o.after, Region.binds .any e = true → listed.getD e.on false = true) → wpAny P .any ops Q fuel listed (A vs) W
  | 0, listed, vs, W, hs, hc, hinv, _, _ => by
    have hno : ∀ j, ¬ listed.getD j true = false := fun j h => by
      obtain ⟨_, h2⟩ := getD_false h
      have : 0 < listed.toList.count false := List.count_pos_iff.2 (List.mem_of_getElem? h2)
      omega
    have hr : Region.ready .any ops listed = [] := List.eq_nil_iff_forall_not_mem.2 fun j hj => hno j (mem_ready.1 hj).1
    exact ⟨hr, hfin vs W hinv.1 fun i hi => hinv.2 i (all_listed hb hs hr i hi)⟩
  | fuel + 1, listed, vs, W, hs, hc, hinv, hun, hcl => by
    refine ⟨fun hr => hfin vs W hinv.1 fun i hi => hinv.2 i (all_listed hb hs hr i hi), fun i hi => ?_⟩
    obtain ⟨hl, o, ho, hall⟩ := mem_ready.1 hi
    have hli : listed.getD i false = false := by
      obtain ⟨h1, h2⟩ := getD_false hl
      simp [Array.getD, h1] at hl ⊢
      exact hl
    have hmono : ∀ j, listed.getD j false = true → (listed.setIfInBounds i true).getD j false = true := fun j hj => by
      by_cases hji : j = i
      · subst hji; rw [hli] at hj; cases hj
      · have : (listed.setIfInBounds i true).getD j false = listed.getD j false := by
          simp [Array.getD_eq_getD_getElem?, Ne.symm hji]
        rw [this]; exact hj
    refine wpOp_step ho fun K hK => ?_
    refine hstep i o ho vs W K hinv.1 (fun e he hbd => hinv.2 _ (hall e he hbd)) (fun j hj => ?_) fun v W' hbl hr => hK _ _ ?_
    · obtain ⟨o', ho', e, he, hbd, hon⟩ := waits_spec hj
      refine hun j ?_
      cases hlj : listed.getD j false with
      | false => rfl
      | true =>
        have := hcl j o' ho' hlj e he hbd
        rw [hon, hli] at this
        cases this
    refine stable_any0 R A vs0 hb hR hstep hfin fuel _ (upd vs i v) W' (by simpa using hs) (count_down hl hc) ⟨hinv.1.trans (hbl.mono hinv.1.size), fun j hj => ?_⟩ (fun j hj => ?_) (fun j o' ho' hj e he hbd => ?_)
    · by_cases hji : j = i
      · subst hji
        simpa [upd] using hr
      · have hj' : listed.getD j false = true := by
          have : (listed.setIfInBounds i true).getD j false = listed.getD j false := by
            simp [Array.getD_eq_getD_getElem?, Ne.symm hji]
          rwa [this] at hj
        simp only [upd, if_neg hji]
        exact hR j _ W W' (hinv.2 j hj') hbl
    · by_cases hji : j = i
      · subst hji
        obtain ⟨h1, _⟩ := getD_false hl
        simp [Array.getD, h1] at hj
      · have : (listed.setIfInBounds i true).getD j false = listed.getD j false := by
          simp [Array.getD_eq_getD_getElem?, Ne.symm hji]
        rw [this] at hj
        simp only [upd, if_neg hji]
        exact hun j hj
    · by_cases hji : j = i
      · subst hji
        rw [ho] at ho'
        cases ho'
        exact hmono _ (hall e he hbd)
      · have : (listed.setIfInBounds i true).getD j false = listed.getD j false := by
          simp [Array.getD_eq_getD_getElem?, Ne.symm hji]
        rw [this] at hj
        exact hmono _ (hcl j o' ho' hj e he hbd)
end

section
variable {P : Program} {ops : Array Oper} {Q : Exit → Act → World → Prop}
theorem region_stable0 {id : Nat} {a : Act} {w : World} (hm : P.follows .mixedOrders = true) (R : Nat → Value → World → Prop) (A : (Nat → Value) → Act) (vs : Nat → Value) (ha : a = A vs) (hb : backB .any ops = true)
    (hR : ∀ i v W W', R i v W → Below W.heap.size W W' → R i v W')
    (hstep : ∀ i o, ops[i]? = some o → StStep0 P Q ops R A vs w.drew i o)
    (hfin : ∀ vs W, Below w.drew.heap.size w.drew W → (∀ i, i < ops.size → R i (vs i) W) → Q .normal (A vs) W) : (Code.region id ops true).wp P Q a w := by
  subst ha
  have hno : ∀ i, (Array.replicate ops.size false).getD i false = false := fun i => by
    rcases Nat.lt_or_ge i ops.size with h | h
    · simp [Array.getD, h]
    · simp [Array.getD, Nat.not_lt.2 h]
  refine wp_region_any hm (stable_any0 R A vs hb hR hstep hfin ops.size _ vs w.drew (by simp) ?_ ⟨Below.refl _ _, fun i hi => ?_⟩ (fun _ _ => rfl) (fun j o _ hj => ?_))
  · simp
  · exfalso
    have := hno i
    rw [this] at hi; cases hi
  · exfalso
    have := hno j
    rw [this] at hj; cases hj
end

section
variable {F : Fence} {n : Nat} {P : Program} {ops : Array Oper} {Q : Exit → Act → World → Prop}
/-- L lists pairs (j, i): operation j waits, through others perhaps, for operation i. -/
def waitF (ops : Array Oper) (L : List (Nat × Nat)) : Bool := L.all fun p => match ops[p.1]? with | some o => o.after.toList.any fun e => Region.binds .any e && (e.on == p.2 || L.contains (e.on, p.2)) | none => false
end

section
variable {F : Fence} {n : Nat} {P : Program} {ops : Array Oper} {Q : Exit → Act → World → Prop}
theorem waitF_spec {L : List (Nat × Nat)} (h : waitF ops L = true) {j i : Nat} (hL : (j, i) ∈ L) : ∃ o, ops[j]? = some o ∧ ∃ e ∈ o.after, Region.binds .any e = true ∧ (e.on = i ∨ (e.on, i) ∈ L) := by
  have h1 := List.all_eq_true.1 h _ hL
  dsimp only at h1
  split at h1
  · rename_i o ho
    obtain ⟨e, he, h2⟩ := List.any_eq_true.1 h1
    simp only [Bool.and_eq_true, Bool.or_eq_true, beq_iff_eq, List.contains_iff_mem] at h2
    exact ⟨o, ho, e, by simpa using he, h2.1, h2.2⟩
  · cases h1
end

section
variable {F : Fence} {n : Nat} {P : Program} {ops : Array Oper} {Q : Exit → Act → World → Prop}
/-- What is listed holds what it waits for. -/
def ClosedF (ops : Array Oper) (listed : Array Bool) : Prop := ∀ j o, listed.getD j false = true → ops[j]? = some o → ∀ e ∈ o.after, Region.binds .any e = true → listed.getD e.on false = true
end

section
variable {F : Fence} {n : Nat} {P : Program} {ops : Array Oper} {Q : Exit → Act → World → Prop}
theorem ClosedF.wait {L : List (Nat × Nat)} {listed : Array Bool} (hb : backB .any ops = true) (h : waitF ops L = true) (hc : ClosedF ops listed) {i : Nat} : ∀ j, listed.getD j false = true → (j, i) ∈ L → listed.getD i false = true := by
  intro j
  induction j using Nat.strongRecOn with
  | _ j ih =>
    intro hj hL
    obtain ⟨o, ho, e, he, hbd, h2⟩ := waitF_spec h hL
    have h3 := hc j o hj ho e he hbd
    rcases h2 with rfl | h2
    · exact h3
    · exact ih e.on (backB_spec hb ho e he hbd) h3 h2
end

section
variable {F : Fence} {n : Nat} {P : Program} {ops : Array Oper} {Q : Exit → Act → World → Prop}
/-- One operation, where operation m uses up what E tells; what waits for this one holds its old value. -/
def FeStep (F : Fence) (n : Nat) (P : Program) (Q : Exit → Act → World → Prop) (ops : Array Oper) (R : Nat → Value → World → Prop) (B0 E : World → Prop) (m : Nat) (L : List (Nat × Nat)) (v0 : Nat → Value) (A : (Nat → Value) → Act) (i : Nat) (o : Oper) : Prop :=
  ∀ (vs : Nat → Value) (W : World) (K : Act → World → Prop), B0 W → (i = m → E W) → (∀ e ∈ o.after, Region.binds .any e = true → R e.on (vs e.on) W) → (∀ j, (j, i) ∈ L → vs j = v0 j) →
    (∀ v W', B0 W' → (i ≠ m → E W → E W') → (∀ j x, j ≠ i → (j, i) ∉ L → R j x W → R j x W') → R i v W' → K (A (upd vs i v)) W') →
    if Region.wanted o (yielded ops (A vs).tmps) = true then Oper.wpIn F n P o (A vs) W K Q else (∀ f, o.about P W (A vs).eval = some f → F.fn f) ∧ K ((A vs).put o.dst undef) W
end

section
variable {F : Fence} {n : Nat} {P : Program} {ops : Array Oper} {Q : Exit → Act → World → Prop}
theorem freeE_any (R : Nat → Value → World → Prop) (B0 E : World → Prop) (m : Nat) (L : List (Nat × Nat)) (v0 : Nat → Value) (A : (Nat → Value) → Act) (hb : backB .any ops = true) (hw : waitF ops L = true)
    (hstep : ∀ i o, ops[i]? = some o → FeStep F n P Q ops R B0 E m L v0 A i o)
    (hfin : ∀ vs W, B0 W → (∀ i, i < ops.size → R i (vs i) W) → Q .normal (A vs) W) :
    ∀ (fuel : Nat) (listed : Array Bool) (vs : Nat → Value) (W : World), listed.size = ops.size → listed.toList.count false ≤ fuel → ClosedF ops listed → (∀ j, listed.getD j false = false → vs j = v0 j) →
      (B0 W ∧ (listed.getD m false = false → E W) ∧ ∀ i, listed.getD i false = true → R i (vs i) W) → wpAnyIn F n P .any ops Q fuel listed (A vs) W
  | 0, listed, vs, W, hs, hc, _, _, hinv => by
    have hno : ∀ j, ¬ listed.getD j true = false := fun j h => by
      obtain ⟨_, h2⟩ := getD_false h
      have : 0 < listed.toList.count false := List.count_pos_iff.2 (List.mem_of_getElem? h2)
      omega
    have hr : Region.ready .any ops listed = [] := List.eq_nil_iff_forall_not_mem.2 fun j hj => hno j (mem_ready.1 hj).1
    exact ⟨hr, hfin vs W hinv.1 fun i hi => hinv.2.2 i (all_listed hb hs hr i hi)⟩
  | fuel + 1, listed, vs, W, hs, hc, hcl, hv0, hinv => by
    refine ⟨fun hr => hfin vs W hinv.1 fun i hi => hinv.2.2 i (all_listed hb hs hr i hi), fun i hi => ?_⟩
    obtain ⟨hl, o, ho, hall⟩ := mem_ready.1 hi
    have hl' : listed.getD i false = false := by
      obtain ⟨h1, -⟩ := getD_false hl
      simp [Array.getD, h1] at hl ⊢; exact hl
    have hset : ∀ j, j ≠ i → (listed.setIfInBounds i true).getD j false = listed.getD j false := fun j hj => by
      simp [Array.getD_eq_getD_getElem?, Ne.symm hj]
    have hself : (listed.setIfInBounds i true).getD i false = true := by
      obtain ⟨h1, -⟩ := getD_false hl
      simp [Array.getD, h1]
    refine wpOpIn_step ho fun K hK => ?_
    refine hstep i o ho vs W K hinv.1 (fun e => hinv.2.1 (by subst e; exact hl')) (fun e he hbd => hinv.2.2 _ (hall e he hbd)) (fun j hj => hv0 j ?_) fun v W' hbl hE hk hr => hK _ _ ?_
    · cases hlj : listed.getD j false with
      | false => rfl
      | true =>
        have := ClosedF.wait hb hw hcl j hlj hj
        rw [hl'] at this; cases this
    refine freeE_any R B0 E m L v0 A hb hw hstep hfin fuel _ (upd vs i v) W' (by simpa using hs) (count_down hl hc) (fun j o' hj ho' e he hbd => ?_) (fun j hj => ?_) ⟨hbl, fun hm => ?_, fun j hj => ?_⟩
    · by_cases hei : e.on = i
      · rw [hei]; exact hself
      · rw [hset _ hei]
        by_cases hji : j = i
        · subst hji
          rw [ho] at ho'
          cases ho'
          exact hall e he hbd
        · rw [hset j hji] at hj
          exact hcl j o' hj ho' e he hbd
    · by_cases hji : j = i
      · subst hji; rw [hself] at hj; cases hj
      · rw [hset j hji] at hj
        simp only [upd, if_neg hji]
        exact hv0 j hj
    · by_cases him : i = m
      · subst him
        rw [hself] at hm; cases hm
      · rw [hset m (Ne.symm him)] at hm
        exact hE him (hinv.2.1 hm)
    · by_cases hji : j = i
      · subst hji
        simpa [upd] using hr
      · rw [hset j hji] at hj
        simp only [upd, if_neg hji]
        refine hk j _ hji (fun hL => ?_) (hinv.2.2 j hj)
        have := ClosedF.wait hb hw hcl j hj hL
        rw [hl'] at this; cases this
end

section
variable {F : Fence} {n : Nat} {P : Program} {ops : Array Oper} {Q : Exit → Act → World → Prop}
/-- The region where operation m uses up what E tells. -/
theorem region_freeE {id : Nat} {a : Act} {w : World} (hm : P.follows .mixedOrders = true) (R : Nat → Value → World → Prop) (B0 E : World → Prop) (m : Nat) (L : List (Nat × Nat)) (A : (Nat → Value) → Act) (v0 : Nat → Value) (ha : a = A v0) (hb : backB .any ops = true) (hw : waitF ops L = true) (h0 : B0 w.drew) (hE : E w.drew)
    (hstep : ∀ i o, ops[i]? = some o → FeStep F n P Q ops R B0 E m L v0 A i o)
    (hfin : ∀ vs W, B0 W → (∀ i, i < ops.size → R i (vs i) W) → Q .normal (A vs) W) : (Code.region id ops true).wpIn F n P Q a w := by
  subst ha
  have hno : ∀ i, (Array.replicate ops.size false).getD i false = false := fun i => by
    rcases Nat.lt_or_ge i ops.size with h | h
    · simp [Array.getD, h]
    · simp [Array.getD, Nat.not_lt.2 h]
  refine wpIn_region_any hm (freeE_any R B0 E m L v0 A hb hw hstep hfin ops.size _ v0 w.drew (by simp) (by simp) (fun j o hj => ?_) (fun _ _ => rfl) ⟨h0, fun _ => hE, fun i hi => ?_⟩)
  · rw [hno j] at hj; cases hj
  · rw [hno i] at hi; cases hi
end

section
variable {P : Program} {ops : Array Oper} {Q : Exit → Act → World → Prop}
/-- A set of operations with one more. -/
def upS (S : Nat → Bool) (i : Nat) : Nat → Bool := fun j => if j = i then true else S j
end

section
variable {P : Program} {ops : Array Oper} {Q : Exit → Act → World → Prop}
/-- What a set that may be listed is like. -/
def Cl (ops : Array Oper) (S : Nat → Bool) : Prop := ∀ i j, waitsB ops i j = true → S j = true → S i = true
end

section
variable {P : Program} {ops : Array Oper} {Q : Exit → Act → World → Prop}
/-- One operation. -/
def JStep (P : Program) (Q : Exit → Act → World → Prop) (ops : Array Oper) (J : (Nat → Bool) → (Nat → Value) → World → Prop) (A : (Nat → Value) → Act) (i : Nat) (o : Oper) : Prop :=
  ∀ (S : Nat → Bool) (vs : Nat → Value) (W : World) (K : Act → World → Prop), S i = false → (∀ j, waitsB ops j i = true → S j = true) → Cl ops S → J S vs W →
    (∀ v W', J (upS S i) (upd vs i v) W' → K (A (upd vs i v)) W') →
    if Region.wanted o (yielded ops (A vs).tmps) = true then Oper.wp P o (A vs) W K Q else K ((A vs).put o.dst undef) W
end

section
variable {P : Program} {ops : Array Oper} {Q : Exit → Act → World → Prop}
theorem inv_any (J : (Nat → Bool) → (Nat → Value) → World → Prop) (A : (Nat → Value) → Act) (hb : backB .any ops = true)
    (hstep : ∀ i o, ops[i]? = some o → JStep P Q ops J A i o)
    (hfin : ∀ S vs W, (∀ i, i < ops.size → S i = true) → J S vs W → Q .normal (A vs) W) :
    ∀ (fuel : Nat) (listed : Array Bool) (vs : Nat → Value) (W : World), listed.size = ops.size → listed.toList.count false ≤ fuel → J (fun i => listed.getD i false) vs W →
      (∀ j o, ops[j]? = some o → listed.getD j false = true → ∀ e ∈ o.after, Region.binds .any e = true → listed.getD e.on false = true) → wpAny P .any ops Q fuel listed (A vs) W
  | 0, listed, vs, W, hs, hc, hinv, _ => by
    have hno : ∀ j, ¬ listed.getD j true = false := fun j h => by
      obtain ⟨_, h2⟩ := getD_false h
      have : 0 < listed.toList.count false := List.count_pos_iff.2 (List.mem_of_getElem? h2)
      omega
    have hr : Region.ready .any ops listed = [] := List.eq_nil_iff_forall_not_mem.2 fun j hj => hno j (mem_ready.1 hj).1
    exact ⟨hr, hfin _ vs W (fun i hi => all_listed hb hs hr i hi) hinv⟩
  | fuel + 1, listed, vs, W, hs, hc, hinv, hcl => by
    refine ⟨fun hr => hfin _ vs W (fun i hi => all_listed hb hs hr i hi) hinv, fun i hi => ?_⟩
    obtain ⟨hl, o, ho, hall⟩ := mem_ready.1 hi
    have hli : listed.getD i false = false := by
      obtain ⟨h1, h2⟩ := getD_false hl
      simp [Array.getD, h1] at hl ⊢
      exact hl
    have hset : (fun j => (listed.setIfInBounds i true).getD j false) = upS (fun j => listed.getD j false) i := funext fun j => by
      by_cases hji : j = i
      · subst hji
        obtain ⟨h1, _⟩ := getD_false hl
        simp [upS, Array.getD, h1]
      · simp [upS, Array.getD_eq_getD_getElem?, Ne.symm hji, hji]
    refine wpOp_step ho fun K hK => ?_
    refine hstep i o ho (fun j => listed.getD j false) vs W K hli (fun j hj => ?_) (fun a b hab hb' => ?_) hinv fun v W' hJ => hK _ _ ?_
    · obtain ⟨o', ho', e, he, hbd, hon⟩ := waits_spec hj
      rw [ho] at ho'
      cases ho'
      rw [← hon]
      exact hall e he hbd
    · obtain ⟨o', ho', e, he, hbd, hon⟩ := waits_spec hab
      rw [← hon]
      exact hcl b o' ho' hb' e he hbd
    refine inv_any J A hb hstep hfin fuel _ (upd vs i v) W' (by simpa using hs) (count_down hl hc) (by rw [hset]; exact hJ) (fun j o' ho' hj e he hbd => ?_)
    have hj2 : upS (fun j => listed.getD j false) i j = true := by rw [← hset]; exact hj
    show (fun j => (listed.setIfInBounds i true).getD j false) e.on = true
    rw [hset]
    unfold upS at hj2 ⊢
    by_cases hei : e.on = i
    · rw [if_pos hei]
    · rw [if_neg hei]
      by_cases hji : j = i
      · subst hji
        rw [ho] at ho'
        cases ho'
        exact hall e he hbd
      · rw [if_neg hji] at hj2
        exact hcl j o' ho' hj2 e he hbd
end

section
variable {P : Program} {ops : Array Oper} {Q : Exit → Act → World → Prop}
/-- The region, told by one invariant. -/
theorem region_inv {id : Nat} {a : Act} {w : World} (hm : P.follows .mixedOrders = true) (J : (Nat → Bool) → (Nat → Value) → World → Prop) (A : (Nat → Value) → Act) (vs : Nat → Value) (ha : a = A vs) (hb : backB .any ops = true)
    (h0 : J (fun _ => false) vs w.drew)
    (hstep : ∀ i o, ops[i]? = some o → JStep P Q ops J A i o)
    (hfin : ∀ S vs W, (∀ i, i < ops.size → S i = true) → J S vs W → Q .normal (A vs) W) : (Code.region id ops true).wp P Q a w := by
  subst ha
  have hno : ∀ i, (Array.replicate ops.size false).getD i false = false := fun i => by
    rcases Nat.lt_or_ge i ops.size with h | h
    · simp [Array.getD, h]
    · simp [Array.getD, Nat.not_lt.2 h]
  refine wp_region_any hm (inv_any J A hb hstep hfin ops.size _ vs w.drew (by simp) ?_ ?_ (fun j o _ hj => ?_))
  · simp
  · rw [show (fun i => (Array.replicate ops.size false).getD i false) = fun _ => false from funext hno]; exact h0
  · exfalso
    have := hno j
    rw [this] at hj; cases hj
end

section
variable {P : Program} {ops : Array Oper} {Q : Exit → Act → World → Prop}
/-- T: the operations that are told together, by J; the others leave values that R tells and that stay as long as nothing below B is written. -/
def TInvJ (B : Nat) (w : World) (T : Nat → Bool) (R : Nat → Value → World → Prop) (J : (Nat → Bool) → (Nat → Value) → World → Prop) (S : Nat → Bool) (vs : Nat → Value) (W : World) : Prop :=
  Below B w W ∧ (∀ i, T i = false → S i = true → R i (vs i) W) ∧ J S vs W
end

section
variable {P : Program} {ops : Array Oper} {Q : Exit → Act → World → Prop}
/-- An operation that is told by itself. -/
def TPlain (P : Program) (Q : Exit → Act → World → Prop) (ops : Array Oper) (B : Nat) (w : World) (R : Nat → Value → World → Prop) (T : Nat → Bool) (J : (Nat → Bool) → (Nat → Value) → World → Prop) (A : (Nat → Value) → Act) (i : Nat) (o : Oper) : Prop :=
  ∀ (S : Nat → Bool) (vs : Nat → Value) (W : World) (K : Act → World → Prop), Below B w W → (∀ j, waitsB ops j i = true → S j = true) → (∀ j, T j = false → waitsB ops j i = true → R j (vs j) W) → J S vs W →
    (∀ v W', Below W.heap.size W W' → R i v W' → K (A (upd vs i v)) W') →
    if Region.wanted o (yielded ops (A vs).tmps) = true then Oper.wp P o (A vs) W K Q else K ((A vs).put o.dst undef) W
end

section
variable {P : Program} {ops : Array Oper} {Q : Exit → Act → World → Prop}
/-- An operation of those told together. -/
def TTied (P : Program) (Q : Exit → Act → World → Prop) (ops : Array Oper) (B : Nat) (w : World) (R : Nat → Value → World → Prop) (T : Nat → Bool) (J : (Nat → Bool) → (Nat → Value) → World → Prop) (A : (Nat → Value) → Act) (i : Nat) (o : Oper) : Prop :=
  ∀ (S : Nat → Bool) (vs : Nat → Value) (W : World) (K : Act → World → Prop), Below B w W → S i = false → (∀ j, waitsB ops j i = true → S j = true) → Cl ops S → (∀ j, T j = false → waitsB ops j i = true → R j (vs j) W) → J S vs W →
    (∀ v W', Below B w W' → (∀ j x, T j = false → R j x W → R j x W') → J (upS S i) (upd vs i v) W' → K (A (upd vs i v)) W') →
    if Region.wanted o (yielded ops (A vs).tmps) = true then Oper.wp P o (A vs) W K Q else K ((A vs).put o.dst undef) W
end

section
variable {P : Program} {ops : Array Oper} {Q : Exit → Act → World → Prop}
theorem region_tied {id : Nat} {a : Act} {w : World} (hm : P.follows .mixedOrders = true) (T : Nat → Bool) (R : Nat → Value → World → Prop) (J : (Nat → Bool) → (Nat → Value) → World → Prop) (A : (Nat → Value) → Act) (vs : Nat → Value) (ha : a = A vs) (hb : backB .any ops = true)
    (hR : ∀ i v W W', R i v W → Below W.heap.size W W' → R i v W')
    (hJ : ∀ S S' vs vs' W W', (∀ j, T j = true → S j = S' j ∧ vs j = vs' j) → J S vs W → Below W.heap.size W W' → J S' vs' W')
    (h0 : J (fun _ => false) vs w.drew)
    (hplain : ∀ i o, T i = false → ops[i]? = some o → TPlain P Q ops w.heap.size w.drew R T J A i o)
    (htied : ∀ i o, T i = true → ops[i]? = some o → TTied P Q ops w.heap.size w.drew R T J A i o)
    (hfin : ∀ S vs W, Below w.heap.size w.drew W → (∀ i, i < ops.size → S i = true) → (∀ i, i < ops.size → T i = false → R i (vs i) W) → J S vs W → Q .normal (A vs) W) : (Code.region id ops true).wp P Q a w := by
  refine region_inv hm (TInvJ w.heap.size w.drew T R J) A vs ha hb ⟨Below.refl _ _, fun _ _ h => absurd h (by simp), h0⟩ (fun i o ho => ?_) fun S vs W hS hI => ?_
  · intro S vs W K hSi hd hcl ⟨hB, hRs, hJs⟩ hK
    cases hT : T i
    · refine hplain i o hT ho S vs W K hB hd (fun j hj hw => hRs j hj (hd j hw)) hJs fun v W' hb' hr => hK v W' ⟨hB.trans (hb'.mono hB.size), fun j hj hSj => ?_, ?_⟩
      · by_cases e : j = i
        · subst e; simpa [upd] using hr
        · have : S j = true := by simpa [upS, e] using hSj
          simp only [upd, if_neg e]
          exact hR j _ W W' (hRs j hj this) hb'
      · refine hJ S _ vs _ W W' (fun j hj => ?_) hJs hb'
        have e : j ≠ i := fun e => by subst e; rw [hT] at hj; cases hj
        simp [upS, upd, e]
    · refine htied i o hT ho S vs W K hB hSi hd hcl (fun j hj hw => hRs j hj (hd j hw)) hJs fun v W' hb' hr hj' => hK v W' ⟨hb', fun j hj hSj => ?_, hj'⟩
      have e : j ≠ i := fun e => by subst e; rw [hT] at hj; cases hj
      have : S j = true := by simpa [upS, e] using hSj
      simp only [upd, if_neg e]
      exact hr j _ hj (hRs j hj this)
  · exact hfin S vs W hI.1 hS (fun i hi hT => hI.2.1 i hT (hS i hi)) hI.2.2
end

theorem app_ints {ops : Array Oper} {rest : List Oper} {o : Oper} {a : Act} {Q : Exit → Act → World → Prop} {w : World} (hgd : o.guard = none) (s x : Operand)
    (ho : o.op = .call { callee := .builtin .append, args := #[s, x], argTypes := #[29, 29] })
    (base : Nat) (v v2 : Value) (l l2 : List Int) (hown : OI w base v l) (hs : a.eval s = v) (hsrc : IsInts w v2 l2) (hx : a.eval x = v2)
    (hn : l.length + l2.length ≤ 17592186043904) (hbase : base ≤ w.heap.size)
    (h : ∀ v' w', OI w' base v' (l ++ l2) → w.grownBy w' v.ownBlock → Moved w v v' → wpList Try.prog ops Q rest (a.put o.dst v') w') :
    wpList Try.prog ops Q (o :: rest) a w := by
  obtain ⟨⟨ao, cap, b, off, rfl, hsrc⟩, -⟩ := hsrc
  refine wpList_appA hgd s x _ _ 8 _ ho Try.underlying29 info_int rfl base v l.length _ hs hown ao cap b off l2.length (ivF l2) hx hsrc (fun _ => rfl) (by omega) (by decide) hbase fun v' w' h1 h2 h3 => h v' w' ?_ h2 h3
  have e : (List.range l2.length).map (ivF l2) = l2.map (Value.int .i64) := by
    apply List.ext_getElem (by simp)
    intro j h1 h2
    have : j < l2.length := by simpa using h1
    simp [ivF, this]
  rw [e] at h1
  unfold OI
  simpa using h1

theorem OI_empty0 (w : World) : OI (w.alloc (.cells #[] 3)) w.heap.size (.slice (some ⟨w.heap.size, 0, none⟩) 0 0) [] :=
  World.ownsRow_made w #[] 0 (Nat.le_refl _) (by simp [maxLen]) rfl

/-- A copy of rows. -/
theorem app_rows {ops : Array Oper} {rest : List Oper} {o : Oper} {a : Act} {Q : Exit → Act → World → Prop} {w : World} (hgd : o.guard = none) (s x : Operand)
    (ho : o.op = .call { callee := .builtin .append, args := #[s, x], argTypes := #[22, 22] })
    (base : Nat) (v : Value) (hown : w.ownsRow base 29 1 v 0 []) (hs : a.eval s = v) (ao : Option Addr) (cap b off n : Nat) (V : Nat → Value) (hsrc : ArrAt w ao cap b off n V) (h1 : ∀ j, (V j).oneCell' = true) (hx : a.eval x = .slice ao n cap)
    (hn : n ≤ 5864062014000) (hbase : base ≤ w.heap.size)
    (h : ∀ v' w', w'.ownsRow base 29 1 v' n ((List.range n).map V) → w.grownBy w' v.ownBlock → Moved w v v' → wpList Try.prog ops Q rest (a.put o.dst v') w') :
    wpList Try.prog ops Q (o :: rest) a w :=
  wpList_appA hgd s x _ _ 24 _ ho Try.underlying22 info_ints rfl base v 0 _ hs hown ao cap b off n V hx hsrc h1 (by omega) (by decide) hbase fun v' w' h1 h2 h3 => h v' w' (by simpa using h1) h2 h3

end Go.Proofs.Ytdkpdpcecjcmcaa
