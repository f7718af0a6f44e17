/- Games: the two Valid, Small, Swap; rows of one's own; slices: Clone, Concat, Ints. -/
import Derived.Test.YtkbiopjinegckaaBase
import Derived.Laws.AppendOwnNone
import Derived.Laws.EntriesVeiled
import Derived.Deep.OwnRows
import Derived.RegionTactic
import Derived.BigRegion
import Derived.Deep.RegionHeld3
import Derived.Deep.AppendLies
import Derived.Deep.RegionLaw
import Derived.Lib.AppendZeros
namespace Go.Proofs.Ytkbiopjinegckaa
open Go.RowKit
open Go Go.RowKit

/-- Behind an append the row is the old one or the newest block. -/
theorem run_append_fresh {P : Program} (w : World) (base : Nat) (t ty e : TypeId) (i : TypeInfo) (z : Value) (size bytes : Nat) (ht : P.underlying t = some (.slice e)) (hi : P.info? e = some i) (hz : i.zero = some z)
    (hsize : i.size = size) (hby : i.bytes = bytes) (v : Value) (n : Nat) (xs : List Value) (hown : w.ownsRow base e size v n xs)
    (a : Addr) (m c : Nat) (news : List Value) (hl : news.length = m * size) (hnews : ∀ j u, news[j]? = some u → w.cell? (a.add j) = some u) (h1 : ∀ u ∈ news, u.oneCell' = true)
    (h63 : n + m ≤ maxLen) (hbytes : (n + m) * bytes ≤ 140737488355328) (v' : Value) (w' : World)
    (hr : (Builtin.append_ #[t, t] ty #[v, .slice (some a) m c]).run P w = .ok v' w') : ∀ g, v'.ownBlock = some g → v.ownBlock = some g ∨ g = w.heap.size := by
  subst hsize
  subst hby
  have hsmall : n + m ≤ 9223372036854775807 := by simp only [maxLen] at h63; omega
  intro g hg'
  rcases hown.2 with ⟨rfl, rfl⟩ | ⟨g0, cap, cur, rfl, hbg, hg, hnc, hcm, hcs, htake⟩
  · have hx : xs = [] := List.eq_nil_of_length_eq_zero (by simpa using hown.1)
    subst hx
    by_cases hm : m = 0
    · subst hm
      have hn : news = [] := List.eq_nil_of_length_eq_zero (by simpa using hl)
      subst hn
      have hr' : (Builtin.append_ #[t, t] ty #[.slice none 0 0, .slice (some a) 0 c]).run P w = .ok (.slice none 0 0) w := by
        simp [Builtin.append_, run_underlying ht, sizeOf, typeInfo, hi, Builtin.lenOf, Builtin.firstCells, loadCells, loadCellsFrom]
      rw [hr'] at hr
      cases hr
      exact .inl hg'
    · have hr' := run_append_nil (P := P) w t ty e i z ht hi hz a m c news hl hnews (by omega) (by omega) (by have hb := hbytes; simp only [Nat.zero_add] at hb; omega)
      rw [hr'] at hr
      cases hr
      simp [Value.ownBlock] at hg'
      exact .inr hg'.symm
  · by_cases hroom : n + m ≤ cap
    · have hfit : n * i.size + news.length ≤ cur.size := by rw [hl, hcs, ← Nat.add_mul]; exact Nat.mul_le_mul_right _ hroom
      have hr' := run_append_room (P := P) w t ty e i ht hi g0 n cap cur hg a m c news hl hnews h1 hroom hfit
      rw [hr'] at hr
      cases hr
      simp [Value.ownBlock] at hg' ⊢
      exact .inl hg'
    · have holds : ∀ j u, xs[j]? = some u → w.cell? ((⟨g0, 0, none⟩ : Addr).add j) = some u := hown.cells (g := g0) rfl
      have hr' := run_append_grow (P := P) w t ty e i z ht hi hz ⟨g0, 0, none⟩ n cap xs hown.1 holds a m c news hl hnews (by omega) (by omega) (growslice_fits (by omega) hbytes)
      rw [hr'] at hr
      cases hr
      simp [Value.ownBlock] at hg' ⊢
      exact .inr hg'.symm

/-- Where the row of v lies behind a step: at its old place, or in memory made since. -/
def Moved (w : World) (v v' : Value) : Prop := ∀ g, v'.ownBlock = some g → v.ownBlock = some g ∨ w.heap.size ≤ g

/-- 'append' to a row of the call's own. -/
theorem wpList_app {P : Program} {ops : Array Oper} {rest : List Oper} {o : Oper} {a : Act} {Q : Exit → Act → World → Prop} {w : World} (hgd : o.guard = none) (s x : Operand) (t e : TypeId) (size bytes : Nat) (z : Value)
    (ho : o.op = .call { callee := .builtin .append, args := #[s, x], argTypes := #[t, t] })
    (ht : P.underlying t = some (.slice e)) (hinfo : (P.info? e).map (fun i => (i.zero, i.size, i.bytes)) = some (some z, size, bytes)) (hzs : z.cells.size = size) (hsz : 0 < size)
    (base : Nat) (v : Value) (n : Nat) (xs : List Value) (hs : a.eval s = v) (hown : w.ownsRow base e size v n xs)
    (ad : Addr) (m c : Nat) (news : List Value) (hx : a.eval x = .slice (some ad) m c) (hl : news.length = m * size) (hnews : ∀ j u, news[j]? = some u → w.cell? (ad.add j) = some u) (h1 : ∀ u ∈ news, u.oneCell' = true)
    (h63 : n + m ≤ maxLen) (hbytes : (n + m) * bytes ≤ 140737488355328) (hbase : base ≤ w.heap.size)
    (h : ∀ v' w', w'.ownsRow base e size v' (n + m) (xs ++ news) → w.grownBy w' v.ownBlock → (v' = .slice none 0 0 ↔ v = .slice none 0 0 ∧ m = 0) → Moved w v v' → wpList P ops Q rest (a.put o.dst v') w') :
    wpList P ops Q (o :: rest) a w := by
  refine wpList_plain hgd fun K hK => ?_
  obtain ⟨i, hi, hz0, hz1, hz2⟩ := info_parts hinfo
  obtain ⟨v', w', hr, h2, h3, h4⟩ := run_append_own (P := P) w base t o.type e i z size bytes ht hi hz0 hz1 hz2 hzs hsz v n xs hown ad m c news hl hnews h1 h63 hbytes hbase
  have h5 := run_append_fresh (P := P) w base t o.type e i z size bytes ht hi hz0 hz1 hz2 v n xs hown ad m c news hl hnews h1 h63 hbytes v' w' hr
  unfold Oper.wp execOp
  simp only [ho, resolve, invoke, builtin, Sem.run_bind, Sem.run_pure, Result.andThen_ok, List.map_toArray, List.map_cons, List.map_nil, hs, hx, hr]
  exact hK _ _ (h v' w' h2 h3 h4 (fun g hg => (h5 g hg).imp id (fun e => by omega)))

/-- 'append(v, u)' of one cell: u lies in the newest block. -/
theorem wpList_app1 {P : Program} {ops : Array Oper} {rest : List Oper} {o : Oper} {a : Act} {Q : Exit → Act → World → Prop} {w : World} (hgd : o.guard = none) (s x : Operand) (t e : TypeId) (bytes : Nat) (z u : Value)
    (ho : o.op = .call { callee := .builtin .append, args := #[s, x], argTypes := #[t, t] })
    (ht : P.underlying t = some (.slice e)) (hinfo : (P.info? e).map (fun i => (i.zero, i.size, i.bytes)) = some (some z, 1, bytes)) (hzs : z.cells.size = 1)
    (base : Nat) (v : Value) (n : Nat) (xs : List Value) (hs : a.eval s = v) (hown : w.ownsRow base e 1 v n xs)
    (m : Nat) (hm : m = w.heap.size) (hx : a.eval x = .slice (some ⟨m, 0, none⟩) 1 1) (hu : u.oneCell' = true)
    (hbytes : (n + 1) * bytes ≤ 140737488355328) (hb0 : 0 < bytes) (hbase : base ≤ w.heap.size)
    (h : ∀ v' w', w'.ownsRow base e 1 v' (n + 1) (xs ++ [u]) → w.grownBy w' v.ownBlock → Moved w v v' → wpList P ops Q rest (a.put o.dst v') w') :
    wpList P ops Q (o :: rest) a (w.alloc (.cells #[u] e)) := by
  subst hm
  have hn : n + 1 ≤ 140737488355328 := Nat.le_trans (Nat.le_mul_of_pos_right _ hb0) hbytes
  refine wpList_app hgd s x t e 1 bytes z ho ht hinfo hzs (by decide) base v n xs hs (hown.alloc _) ⟨w.heap.size, 0, none⟩ 1 1 [u] hx rfl (cell_one_new _ _ _) (by simpa using hu) (by simp only [maxLen]; omega) hbytes (by simp; omega) ?_
  intro v' w' h1 h2 _ h4
  refine h v' w' h1 ⟨h2.os, h2.tape, h2.output, by have := h2.size; simp at this; omega, fun k hk hr => ?_⟩ (fun g hg => ?_)
  · rw [h2.block k (by simp; omega) hr]; exact heap_alloc_old w _ hk
  · rcases h4 g hg with e | e
    · exact .inl e
    · refine .inr ?_
      simp at e; omega

/-- What a row of the call's own reads as. -/
theorem ownsRow_arr {w : World} {base : Nat} {e : TypeId} {v : Value} {n : Nat} {xs : List Value} (h : w.ownsRow base e 1 v n xs) (hn : n ≤ maxN) (f : Nat → Value) (hf : ∀ j, j < n → xs[j]? = some (f j)) : IsArr w v n f := by
  rcases h.2 with ⟨rfl, rfl⟩ | ⟨g, cap, cur, rfl, hb, hg, hnc, hcm, hcs, htake⟩
  · exact ⟨none, 0, 0, 0, rfl, Nat.le_refl _, Nat.zero_le _, hn, (fun _ => rfl), (fun h => absurd h (by omega)), fun j hj => absurd hj (by omega)⟩
  · refine ⟨some ⟨g, 0, none⟩, cap, g, 0, rfl, hnc, hcm, hn, (fun h => by cases h), fun _ => rfl, fun j hj => ?_⟩
    rw [Nat.zero_add, World.ownsRow.cellAt h j (by omega), hf j hj]

/-- A row of truth values, of numbers, of the call's own. -/
def OB (w : World) (base : Nat) (v : Value) (l : List Bool) : Prop := w.ownsRow base 4 1 v l.length (l.map Value.bool)

def OI (w : World) (base : Nat) (v : Value) (l : List Int) : Prop := w.ownsRow base 3 1 v l.length (l.map (Value.int .i64))

theorem OB.is {w : World} {base : Nat} {v : Value} {l : List Bool} (h : OB w base v l) (hn : l.length ≤ maxN) : IsBools w v l :=
  ownsRow_arr h hn _ fun j hj => by simp [bvF, hj]

theorem OI.is {w : World} {base : Nat} {v : Value} {l : List Int} (h : OI w base v l) (hn : l.length ≤ maxN) (hi : ∀ x ∈ l, I64 x) : IsInts w v l :=
  ⟨ownsRow_arr h hn _ fun j hj => by simp [ivF, hj], hi⟩

theorem info_bool : (Try.prog.info? 4).map (fun i => (i.zero, i.size, i.bytes)) = some (some (.bool false), 1, 1) := by kernel_rfl

theorem info_int : (Try.prog.info? 3).map (fun i => (i.zero, i.size, i.bytes)) = some (some (.int .i64 0), 1, 8) := by kernel_rfl

theorem app_bool {ops : Array Oper} {rest : List Oper} {o : Oper} {a : Act} {Q : Exit → Act → World → Prop} {w : World} (hgd : o.guard = none) (s x : Operand) (b : Bool)
    (ho : o.op = .call { callee := .builtin .append, args := #[s, x], argTypes := #[26, 26] })
    (base : Nat) (v : Value) (l : List Bool) (hown : OB w base v l) (hs : a.eval s = v) (m : Nat) (hm : m = w.heap.size) (hx : a.eval x = .slice (some ⟨m, 0, none⟩) 1 1)
    (hn : l.length < 140737488351232) (hbase : base ≤ w.heap.size)
    (h : ∀ v' w', OB w' base v' (l ++ [b]) → w.grownBy w' v.ownBlock → Moved w v v' → wpList Try.prog ops Q rest (a.put o.dst v') w') :
    wpList Try.prog ops Q (o :: rest) a (w.alloc (.cells #[.bool b] 4)) := by
  refine wpList_app1 hgd s x _ _ 1 _ _ ho Try.underlying26 info_bool rfl base v l.length _ hs hown m hm hx rfl (by omega) (by decide) hbase fun v' w' h1 h2 h3 => h v' w' ?_ h2 h3
  unfold OB
  simpa using h1

theorem app_int {ops : Array Oper} {rest : List Oper} {o : Oper} {a : Act} {Q : Exit → Act → World → Prop} {w : World} (hgd : o.guard = none) (s x : Operand) (b : Int)
    (ho : o.op = .call { callee := .builtin .append, args := #[s, x], argTypes := #[22, 22] })
    (base : Nat) (v : Value) (l : List Int) (hown : OI w base v l) (hs : a.eval s = v) (m : Nat) (hm : m = w.heap.size) (hx : a.eval x = .slice (some ⟨m, 0, none⟩) 1 1)
    (hn : l.length < 17592186043904) (hbase : base ≤ w.heap.size)
    (h : ∀ v' w', OI w' base v' (l ++ [b]) → w.grownBy w' v.ownBlock → Moved w v v' → wpList Try.prog ops Q rest (a.put o.dst v') w') :
    wpList Try.prog ops Q (o :: rest) a (w.alloc (.cells #[.int .i64 b] 3)) := by
  refine wpList_app1 hgd s x _ _ 8 _ _ ho Try.underlying22 info_int rfl base v l.length _ hs hown m hm hx rfl (by omega) (by decide) hbase fun v' w' h1 h2 h3 => h v' w' ?_ h2 h3
  unfold OI
  simpa using h1

/-- 'make([]T, n)' of one-cell elements. -/
theorem wpList_mk1 {P : Program} {ops : Array Oper} {rest : List Oper} {o : Oper} {a : Act} {Q : Exit → Act → World → Prop} {w : World} (hgd : o.guard = none) (l c : Operand) (t e : TypeId) (bytes : Nat) (z : Value)
    (ho : o.op = Op.makeSlice t l c) (ht : P.underlying t = some (.slice e)) (hinfo : (P.info? e).map (fun i => (i.zero, i.size, i.bytes)) = some (some z, 1, bytes)) (hz : z.cells = #[z])
    (base : Nat) (L : Int) (n : Nat) (hl : a.eval l = .int .i64 L) (hc : a.eval c = .int .i64 L) (hL : L = (n : Int)) (hb : bytes * n ≤ 281474976710656) (hn : n ≤ 140737488355328) (hbase : base ≤ w.heap.size)
    (h : ∀ w', w'.ownsRow base e 1 (.slice (some ⟨w.heap.size, 0, none⟩) n n) n (List.replicate n z) → w.grownBy w' none → wpList P ops Q rest (a.put o.dst (.slice (some ⟨w.heap.size, 0, none⟩) n n)) w') :
    wpList P ops Q (o :: rest) a w := by
  obtain ⟨i, hi, hz0, hz1, hz2⟩ := info_parts hinfo
  refine wpList_make_full w hgd l c t ho base e i z 1 ht hi hz0 hz1 .i64 .i64 L L n hl hc hL hL (by rw [hz2]; exact hb) (by simp only [maxLen]; omega) hbase fun w' h1 h2 => h w' ?_ h2
  rw [hz, Nat.mul_one, toList_madeCells_one] at h1
  exact h1

theorem mk_bool {ops : Array Oper} {rest : List Oper} {o : Oper} {a : Act} {Q : Exit → Act → World → Prop} {w : World} (hgd : o.guard = none) (l c : Operand) (t : TypeId) (ht : Try.prog.underlying t = some (.slice 4))
    (ho : o.op = Op.makeSlice t l c) (base : Nat) (L : Int) (n : Nat) (hl : a.eval l = .int .i64 L) (hc : a.eval c = .int .i64 L) (hL : L = (n : Int)) (hn : n ≤ 140737488355328) (hbase : base ≤ w.heap.size)
    (h : ∀ w', OB w' base (.slice (some ⟨w.heap.size, 0, none⟩) n n) (List.replicate n false) → w.grownBy w' none → wpList Try.prog ops Q rest (a.put o.dst (.slice (some ⟨w.heap.size, 0, none⟩) n n)) w') :
    wpList Try.prog ops Q (o :: rest) a w := by
  refine wpList_mk1 hgd l c t _ 1 _ ho ht info_bool rfl base L n hl hc hL (by omega) hn hbase fun w' h1 h2 => h w' ?_ h2
  unfold OB
  simpa using h1

theorem mk_int {ops : Array Oper} {rest : List Oper} {o : Oper} {a : Act} {Q : Exit → Act → World → Prop} {w : World} (hgd : o.guard = none) (l c : Operand) (t : TypeId) (ht : Try.prog.underlying t = some (.slice 3))
    (ho : o.op = Op.makeSlice t l c) (base : Nat) (L : Int) (n : Nat) (hl : a.eval l = .int .i64 L) (hc : a.eval c = .int .i64 L) (hL : L = (n : Int)) (hn : n ≤ 17592186044416) (hbase : base ≤ w.heap.size)
    (h : ∀ w', OI w' base (.slice (some ⟨w.heap.size, 0, none⟩) n n) (List.replicate n 0) → w.grownBy w' none → wpList Try.prog ops Q rest (a.put o.dst (.slice (some ⟨w.heap.size, 0, none⟩) n n)) w') :
    wpList Try.prog ops Q (o :: rest) a w := by
  refine wpList_mk1 hgd l c t _ 8 _ ho ht info_int rfl base L n hl hc hL (by omega) (by omega) hbase fun w' h1 h2 => h w' ?_ h2
  unfold OI
  simpa using h1

theorem OB.set {w : World} {base g n cap : Nat} {l : List Bool} (h : OB w base (.slice (some ⟨g, 0, none⟩) n cap) l) (hn : n = l.length) (j : Nat) (b : Bool) :
    OB (w.setCell ⟨g, j, none⟩ (.bool b)) base (.slice (some ⟨g, 0, none⟩) n cap) (l.set j b) := by
  subst hn
  have := (World.ownsRow.stored h j (.bool b)).1
  unfold OB
  simpa using this

theorem OI.set {w : World} {base g n cap : Nat} {l : List Int} (h : OI w base (.slice (some ⟨g, 0, none⟩) n cap) l) (hn : n = l.length) (j : Nat) (b : Int) :
    OI (w.setCell ⟨g, j, none⟩ (.int .i64 b)) base (.slice (some ⟨g, 0, none⟩) n cap) (l.set j b) := by
  subst hn
  have := (World.ownsRow.stored h j (.int .i64 b)).1
  unfold OI
  simpa using this

theorem grown_set (w : World) (g j : Nat) (u : Value) : w.grownBy (w.setCell ⟨g, j, none⟩ u) (some g) :=
  ⟨rfl, rfl, rfl, by simp, fun k _ hk => heap_setCell_other w ⟨g, j, none⟩ k u (fun e => hk (by simp [e]))⟩

theorem grown_refl (w : World) (r : Option Nat) : w.grownBy w r := ⟨rfl, rfl, rfl, Nat.le_refl _, fun _ _ _ => rfl⟩

/-- 'append(v, src...)' of one-cell elements, whatever slice src is. -/
theorem wpList_appA {P : Program} {ops : Array Oper} {rest : List Oper} {o : Oper} {a : Act} {Q : Exit → Act → World → Prop} {w : World} (hgd : o.guard = none) (s x : Operand) (t e : TypeId) (bytes : Nat) (z : Value)
    (ho : o.op = .call { callee := .builtin .append, args := #[s, x], argTypes := #[t, t] })
    (ht : P.underlying t = some (.slice e)) (hinfo : (P.info? e).map (fun i => (i.zero, i.size, i.bytes)) = some (some z, 1, bytes)) (hzs : z.cells.size = 1)
    (base : Nat) (v : Value) (n : Nat) (xs : List Value) (hs : a.eval s = v) (hown : w.ownsRow base e 1 v n xs)
    (ao : Option Addr) (cap b off m : Nat) (f : Nat → Value) (hx : a.eval x = .slice ao m cap) (hsrc : ArrAt w ao cap b off m f) (h1 : ∀ j, (f j).oneCell' = true)
    (hbytes : (n + m) * bytes ≤ 140737488355328) (hb0 : 0 < bytes) (hbase : base ≤ w.heap.size)
    (h : ∀ v' w', w'.ownsRow base e 1 v' (n + m) (xs ++ (List.range m).map f) → w.grownBy w' v.ownBlock → Moved w v v' → wpList P ops Q rest (a.put o.dst v') w') :
    wpList P ops Q (o :: rest) a w := by
  have hn : n + m ≤ 140737488355328 := Nat.le_trans (Nat.le_mul_of_pos_right _ hb0) hbytes
  cases ao with
  | none =>
    have hm0 : m = 0 := by rcases Nat.eq_zero_or_pos m with h0 | h0; exact h0; have := hsrc.ad h0; cases this
    subst hm0
    obtain rfl := hsrc.nc rfl
    obtain ⟨i, hi, hz0, hz1, hz2⟩ := info_parts hinfo
    refine wpList_append_own_none hgd s x t ho base e i 1 ht hi v n xs hs hown hx ?_
    exact h v w (by simpa using hown) (grown_refl _ _) (fun g hg => .inl hg)
  | some ad =>
    refine wpList_app hgd s x t e 1 bytes z ho ht hinfo hzs (by decide) base v n xs hs hown ad m cap ((List.range m).map f) hx (by simp) ?_ ?_ (by simp only [maxLen]; omega) hbytes hbase ?_
    · intro j u hj
      have hjm : j < m := by
        rcases Nat.lt_or_ge j m with h | h
        · exact h
        · simp [Nat.not_lt.2 h] at hj
      have hadd := hsrc.ad (by omega)
      simp only [Option.some.injEq] at hadd
      subst hadd
      have : f j = u := by simpa [hjm] using hj
      subst this
      have h2 := hsrc.el j hjm
      unfold Addr.add
      split
      · subst j; exact h2
      · exact h2
    · intro u hu
      obtain ⟨j, _, rfl⟩ := List.mem_map.1 hu
      exact h1 j
    · intro v' w' h2 h3 _ h5
      exact h v' w' h2 h3 h5

theorem app_bools {ops : Array Oper} {rest : List Oper} {o : Oper} {a : Act} {Q : Exit → Act → World → Prop} {w : World} (hgd : o.guard = none) (s x : Operand)
    (ho : o.op = .call { callee := .builtin .append, args := #[s, x], argTypes := #[26, 26] })
    (base : Nat) (v v2 : Value) (l l2 : List Bool) (hown : OB w base v l) (hs : a.eval s = v) (hsrc : IsBools w v2 l2) (hx : a.eval x = v2)
    (hn : l.length + l2.length ≤ 140737488351232) (hbase : base ≤ w.heap.size)
    (h : ∀ v' w', OB w' base v' (l ++ l2) → w.grownBy w' v.ownBlock → Moved w v v' → wpList Try.prog ops Q rest (a.put o.dst v') w') :
    wpList Try.prog ops Q (o :: rest) a w := by
  obtain ⟨ao, cap, b, off, rfl, hsrc⟩ := hsrc
  refine wpList_appA hgd s x _ _ 1 _ ho Try.underlying26 info_bool rfl base v l.length _ hs hown ao cap b off l2.length (bvF l2) hx hsrc (fun _ => rfl) (by omega) (by decide) hbase fun v' w' h1 h2 h3 => h v' w' ?_ h2 h3
  have e : (List.range l2.length).map (bvF l2) = l2.map Value.bool := by
    apply List.ext_getElem (by simp)
    intro j h1 h2
    have : j < l2.length := by simpa using h1
    simp [bvF, this]
  rw [e] at h1
  unfold OB
  simpa using h1

theorem Ints_c (w : World) (va vb : Value) (la lb : List Int) (ha : IsInts w va la) (hb : IsInts w vb lb) :
    Calls Try.prog 17 #[va, vb] w (Quiet (.bool (decide (la = lb))) w) := by
  obtain ⟨⟨aoa, ca, ba, oa, rfl, ha⟩, _⟩ := ha
  obtain ⟨⟨aob, cb, bb, ob, rfl, hb⟩, _⟩ := hb
  have hna := ha.nb
  have hnb := hb.nb
  by_cases hl : la.length = lb.length
  · have hne : ((la.length : Int) != lb.length) = false := by simp [hl]
    have HL := Lib.hid hl
    clear hl
    go_enter Try.func17, Try.ntmps17
    go_wp2
    go_loopw [5] (fun i wr => ∃ k n : Nat, i = .int .i64 k ∧ wr = w.drewN n ∧ k ≤ la.length ∧ la.take k = lb.take k) (fun i _ => la.length - (intOf i).toNat)
    case atStart => exact ⟨0, 0, rfl, rfl, by omega, by simp⟩
    case round =>
      obtain ⟨k, n, rfl, rfl, hk, heq⟩ := hrel
      have HE := Lib.hid heq
      clear heq
      by_cases hlt : k < la.length
      · have hltb : k < lb.length := by rw [← HL.out]; exact hlt
        obtain rfl := ha.ad (by omega)
        obtain rfl := hb.ad (by omega)
        have c1 := ha.el k hlt
        have c2 := hb.el k hltb
        unfold ivF at c1 c2
        go_wp2
        go_quiet (fail)
        go_wp2
        · have hd : (la[k] != lb[k]) = true := by assumption
          go_ret
          refine ⟨ret_bool (Eq.symm (decide_eq_false ?_)), _, World.drewN_drewN ..⟩
          rintro rfl
          simp at hd
        · have hd : (la[k] != lb[k]) = false := by assumption
          go_roundw
          case rel => exact ⟨k + 1, _, by go_num, rfl, by omega, take_succ_eq hlt hltb HE.out (by simpa using hd)⟩
          case measure => simp [intOf]; omega
      · go_wp2
        go_ret
        refine ⟨ret_bool (Eq.symm (decide_eq_true ?_)), n, rfl⟩
        have h1 := HE.out
        have h2 := HL.out
        rwa [List.take_of_length_le (by omega), List.take_of_length_le (by omega)] at h1
  · have hne : ((la.length : Int) != lb.length) = true := by simp; omega
    go_enter Try.func17, Try.ntmps17
    go_wp2
    go_ret
    exact ⟨ret_bool (Eq.symm (decide_eq_false (by rintro rfl; exact hl rfl))), 0, rfl⟩

theorem Small_c (w : World) (vg : Value) (g : Gm) (most : Int) (hg : IsGame w vg g) :
    Calls Try.prog 10 #[vg, .int .i64 most] w (Calm (.bool (smallB g most)) w) := by
  obtain ⟨v0, v1, v2, rfl, ⟨⟨ao0, cap0, b0, off0, rfl, h0⟩, _⟩, ⟨⟨ao1, cap1, b1, off1, rfl, h1⟩, _⟩, ⟨V, ⟨ao2, cap2, b2, off2, rfl, h2⟩, hr⟩⟩ := hg
  have hn0 := h0.nb
  have hn1 := h1.nb
  have hn2 := h2.nb
  go_enter Try.func10, Try.ntmps10
  go_wp2
  · have q1 : (most < ↑g.owner.length ∨ most < ↑g.prio.length) ∨ most < ↑g.succ.length := by assumption
    go_ret
    refine ⟨ret_bool ?_, (Below.refl _ _).alloc (Nat.le_refl _) _⟩
    simp only [smallB, Bool.false_eq, Bool.and_eq_false_iff, decide_eq_false_iff_not]
    omega
  · have q1 : (↑g.owner.length ≤ most ∧ ↑g.prio.length ≤ most) ∧ ↑g.succ.length ≤ most := by assumption
    go_loop [5] (fun i => ∃ k : Nat, i = .int .i64 k ∧ k ≤ g.succ.length ∧ (g.succ.take k).all (fun s => decide (s.length ≤ 20)) = true) (fun i => g.succ.length - (intOf i).toNat)
    case atStart => exact ⟨0, rfl, by omega, by simp⟩
    case round =>
      obtain ⟨k, rfl, hk, heq⟩ := hrel
      have HE := Lib.hid heq
      clear heq
      by_cases hlt : k < g.succ.length
      · obtain rfl := h2.ad (by omega)
        have c2 := h2.el k hlt
        obtain ⟨⟨ao, cap, b, off, hv, h3⟩, _⟩ := hr k hlt
        rw [hv] at c2
        have hn := h3.nb
        clear hv hr h3
        have cB := cellB ((Below.refl _ _).alloc (Nat.le_refl _) (Obj.cells #[Value.slice ao0 g.owner.length cap0, Value.slice ao1 g.prio.length cap1, Value.slice (some ⟨b2, off2, none⟩) g.succ.length cap2] 25)) c2
        rw [getD_lt _ _ _ hlt] at cB hn
        go_wp2
        · have q2 : (20 : Int) < ↑g.succ[k].length := by assumption
          go_ret
          refine ⟨ret_bool ?_, (Below.refl _ _).alloc (Nat.le_refl _) _⟩
          have h3 := all_false_of g.succ (fun s => decide (s.length ≤ 20)) k hlt (by simp; omega)
          simp [smallB, h3]
        · have q2 : (↑g.succ[k].length : Int) ≤ 20 := by assumption
          go_round
          case rel => exact ⟨k + 1, by go_num, by omega, by rw [all_take_succ _ _ _ hlt, HE.out]; simp; omega⟩
          case measure => simp [intOf]; omega
      · go_wp2
        go_ret
        refine ⟨ret_bool ?_, (Below.refl _ _).alloc (Nat.le_refl _) _⟩
        have h3 := HE.out
        rw [List.take_of_length_le (by omega)] at h3
        simp only [smallB, h3, Bool.and_true]
        simp; omega
  · have q1 : most < ↑g.prio.length := by assumption
    go_ret
    refine ⟨ret_bool ?_, (Below.refl _ _).alloc (Nat.le_refl _) _⟩
    simp only [smallB, Bool.false_eq, Bool.and_eq_false_iff, decide_eq_false_iff_not]
    omega
  · have q1 : most < ↑g.owner.length := by assumption
    go_ret
    refine ⟨ret_bool ?_, (Below.refl _ _).alloc (Nat.le_refl _) _⟩
    simp only [smallB, Bool.false_eq, Bool.and_eq_false_iff, decide_eq_false_iff_not]
    omega

theorem within_c (w : World) (v : Value) (ll : List (List Int)) (most : Int) (h : IsRows w v ll) :
    Calls Try.prog 40 #[.int .i64 most, v] w (Quiet (.bool (withinB most ll)) w) := by
  obtain ⟨V, ⟨ao, cap, b, off, rfl, h⟩, hr⟩ := h
  have hn := h.nb
  go_enter Try.func40, Try.ntmps40
  go_wp2
  go_loop [4, 6, 8, 11, 15, 16, 17] (fun r _ _ i _ _ _ => ∃ k : Nat, i = .int .i64 k ∧ r = .bool false ∧ k ≤ ll.length ∧ (ll.take k).all (inB most) = true) (fun _ _ _ i _ _ _ => ll.length - (intOf i).toNat)
  case atStart => exact ⟨0, rfl, rfl, by omega, by simp⟩
  case round =>
    obtain ⟨k, rfl, rfl, hk, heq⟩ := hrel
    have HE := Lib.hid heq
    clear heq
    by_cases hlt : k < ll.length
    · obtain rfl := h.ad (by omega)
      have c2 := h.el k hlt
      obtain ⟨⟨ao1, cap1, b1, off1, hv, h1⟩, _⟩ := hr k hlt
      rw [hv] at c2
      clear hv hr
      rw [getD_lt _ _ _ hlt] at c2 h1
      have hn1 := h1.nb
      go_wp2
      go_loop [4, 8, 17] (fun r _ i => ∃ j : Nat, i = .int .i64 j ∧ r = .bool false ∧ j ≤ ll[k].length ∧ inB most (ll[k].take j) = true) (fun _ _ i => ll[k].length - (intOf i).toNat)
      case atStart => exact ⟨0, rfl, rfl, by omega, by simp [inB]⟩
      case round =>
        obtain ⟨j, rfl, rfl, hj, heq1⟩ := hrel
        have HE1 := Lib.hid heq1
        clear heq1
        by_cases hltj : j < ll[k].length
        · obtain rfl := h1.ad (by omega)
          have c3 := h1.el j hltj
          unfold ivF at c3
          go_wp2
          · have h2 : ll[k][j] < 0 ∨ most < ll[k][j] := by assumption
            go_ret
            refine ⟨ret_bool (Eq.symm (all_false_of _ _ k hlt (all_false_of _ _ j hltj ?_))), 0, rfl⟩
            simp; omega
          · have h2 : 0 ≤ ll[k][j] ∧ ll[k][j] ≤ most := by assumption
            go_round
            case rel => exact ⟨j + 1, by go_num, rfl, by omega, by have := HE1.out; unfold inB at this ⊢; rw [all_take_succ _ _ _ hltj, this]; simp; omega⟩
            case measure => simp [intOf]; omega
          · have h2 : ll[k][j] < 0 := by assumption
            go_ret
            refine ⟨ret_bool (Eq.symm (all_false_of _ _ k hlt (all_false_of _ _ j hltj ?_))), 0, rfl⟩
            simp; omega
        · go_wp2
          go_round
          case rel => exact ⟨k + 1, by go_num, rfl, by omega, by have h3 := HE1.out; rw [List.take_of_length_le (by omega)] at h3; rw [all_take_succ _ _ _ hlt, HE.out, h3]; rfl⟩
          case measure => simp [intOf]; omega
    · go_wp2
      go_ret
      refine ⟨ret_bool ?_, 0, rfl⟩
      have h3 := HE.out
      rw [List.take_of_length_le (by omega)] at h3
      exact h3.symm

/-- A row of one row of numbers, made for the call. -/
theorem IsRows.one {w : World} {v : Value} {l : List Int} (m : Nat) (e : TypeId) (h : IsInts w v l) (hm : m = w.heap.size) : IsRows (w.alloc (.cells #[v] e)) (.slice (some ⟨m, 0, none⟩) 1 1) [l] := by
  subst hm
  have hb := (Below.refl w.heap.size w).alloc (Nat.le_refl _) (Obj.cells #[v] e)
  refine ⟨fun _ => v, ⟨_, _, w.heap.size, 0, rfl, Nat.le_refl _, by simp [maxLen], by simp [maxN], (fun h => by cases h), fun _ => rfl, ?_⟩, ?_⟩
  · intro j hj
    obtain rfl : j = 0 := by simpa using hj
    exact cell_one_new _ _ _ 0 v rfl
  · intro j hj
    obtain rfl : j = 0 := by simpa using hj
    exact h.below hb

theorem AValid_c (w : World) (vg : Value) (g : Gm) (hg : IsGame w vg g) :
    Calls Try.prog 29 #[vg] w (Calm (.bool (validB g)) w) := by
  obtain ⟨v0, v1, v2, rfl, hi0, hi1, hi2⟩ := hg
  obtain ⟨⟨ao0, cap0, b0, off0, rfl, g0⟩, _⟩ := id hi0
  obtain ⟨⟨ao1, cap1, b1, off1, rfl, g1⟩, _⟩ := id hi1
  obtain ⟨V, ⟨ao2, cap2, b2, off2, rfl, g2⟩, hr⟩ := id hi2
  have hn0 := g0.nb
  have hn1 := g1.nb
  have hn2 := g2.nb
  by_cases h1 : g.owner.length ≤ 3000
  case neg =>
    go_enter Try.func29, Try.ntmps29
    go_wp2
    go_ret
    refine ⟨ret_bool ?_, (Below.refl _ _).alloc (Nat.le_refl _) _⟩
    simp [validB, h1]
  by_cases h2 : g.prio.length = g.owner.length
  case neg =>
    have hne : ((g.prio.length : Int) != g.owner.length) = true := by simp; omega
    go_enter Try.func29, Try.ntmps29
    go_wp2
    go_ret
    refine ⟨ret_bool ?_, (Below.refl _ _).alloc (Nat.le_refl _) _⟩
    simp [validB, h2]
  by_cases h3 : g.succ.length = g.owner.length
  case neg =>
    have hne : ((g.prio.length : Int) != g.owner.length) = false := by simp; omega
    have hne2 : ((g.succ.length : Int) != g.owner.length) = true := by simp; omega
    have H2 := Lib.hid h2
    clear h2
    go_enter Try.func29, Try.ntmps29
    go_wp2
    go_ret
    refine ⟨ret_bool ?_, (Below.refl _ _).alloc (Nat.le_refl _) _⟩
    simp [validB, h3]
  have hne : ((g.prio.length : Int) != g.owner.length) = false := by simp; omega
  have hne2 : ((g.succ.length : Int) != g.owner.length) = false := by simp; omega
  have H2 := Lib.hid h2
  have H3 := Lib.hid h3
  clear h2 h3
  have hI : ((g.owner.length : Int)) ≤ 3000 := by omega
  go_enter Try.func29, Try.ntmps29
  go_wp2
  go_loop [2, 5, 28] (fun r _ i => ∃ k : Nat, i = .int .i64 k ∧ r = .bool false ∧ k ≤ g.succ.length ∧ (g.succ.take k).all (fun s => !s.isEmpty) = true) (fun _ _ i => g.succ.length - (intOf i).toNat)
  case atStart => exact ⟨0, rfl, rfl, by omega, by simp⟩
  case round =>
    obtain ⟨k, rfl, rfl, hk, heq⟩ := hrel
    have HE := Lib.hid heq
    clear heq
    by_cases hlt : k < g.succ.length
    · obtain rfl := g2.ad (by omega)
      have c2 := g2.el k hlt
      obtain ⟨⟨ao, cap, b, off, hv, g3⟩, _⟩ := hr k hlt
      rw [hv] at c2
      have hn := g3.nb
      clear hv hr g3
      have cB := cellB ((Below.refl _ _).alloc (Nat.le_refl _) (Obj.cells #[Value.slice ao0 g.owner.length cap0, Value.slice ao1 g.prio.length cap1, Value.slice (some ⟨b2, off2, none⟩) g.succ.length cap2] 25)) c2
      rw [getD_lt _ _ _ hlt] at cB hn
      go_wp2
      · have h5 : ((g.succ[k].length : Int) == 0) = true := by assumption
        go_ret
        refine ⟨ret_bool ?_, (Below.refl _ _).alloc (Nat.le_refl _) _⟩
        have h3 := all_false_of g.succ (fun s => !s.isEmpty) k hlt (by simp at h5 ⊢; exact h5)
        simp [validB, h3]
      · have h5 : ((g.succ[k].length : Int) == 0) = false := by assumption
        go_round
        case rel => exact ⟨k + 1, by go_num, rfl, by omega, by rw [all_take_succ _ _ _ hlt, HE.out]; simp at h5 ⊢; exact h5⟩
        case measure => simp [intOf]; omega
    · have h4 : g.succ.all (fun s => !s.isEmpty) = true := by
        have h3 := HE.out
        rwa [List.take_of_length_le (by omega)] at h3
      have H4 := Lib.hid h4
      clear h4 HE
      have hBx : Below w.heap.size w (w.alloc (Obj.cells #[Value.slice ao0 g.owner.length cap0, Value.slice ao1 g.prio.length cap1, Value.slice ao2 g.succ.length cap2] 25)) := (Below.refl _ _).alloc (Nat.le_refl _) _
      rcases Bool.eq_false_or_eq_true (withinB 1 [g.owner]) with hq1 | hq1
      · rcases Bool.eq_false_or_eq_true (withinB 30000 [g.prio]) with hq2 | hq2
        · go_wp2_with fail
          refine (within_c _ _ _ _ (IsRows.one _ _ (hi0.below hBx) (by simp))).mono ?_
          rintro e w1 ⟨rfl, n1, rfl⟩
          go_wp2_with fail
          refine (within_c _ _ _ _ (IsRows.one _ _ (hi1.below (by repeat (first | exact Below.refl _ _ | assumption | (refine belA ?_ _) | (refine belD ?_ _)))) (by simp))).mono ?_
          rintro e w2 ⟨rfl, n2, rfl⟩
          go_wp2_with fail
          refine (within_c _ _ _ _ (hi2.below (by repeat (first | exact Below.refl _ _ | assumption | (refine belA ?_ _) | (refine belD ?_ _))))).mono ?_
          rintro e w3 ⟨rfl, n3, rfl⟩
          go_wp2_with fail
          go_ret
          refine ⟨ret_bool ?_, (by repeat (first | exact Below.refl _ _ | assumption | (refine belA ?_ _) | (refine belD ?_ _)))⟩
          have h2 := H2.out
          have h3 := H3.out
          have h4 := H4.out
          simp [withinB] at hq1 hq2
          simp only [validB, h1, h2, h3, h4, hq1, hq2, withinB]
          simp
        · go_wp2_with fail
          refine (within_c _ _ _ _ (IsRows.one _ _ (hi0.below hBx) (by simp))).mono ?_
          rintro e w1 ⟨rfl, n1, rfl⟩
          go_wp2_with fail
          refine (within_c _ _ _ _ (IsRows.one _ _ (hi1.below (by repeat (first | exact Below.refl _ _ | assumption | (refine belA ?_ _) | (refine belD ?_ _)))) (by simp))).mono ?_
          rintro e w2 ⟨rfl, n2, rfl⟩
          go_wp2_with fail
          go_ret
          refine ⟨ret_bool ?_, (by repeat (first | exact Below.refl _ _ | assumption | (refine belA ?_ _) | (refine belD ?_ _)))⟩
          simp [withinB] at hq2
          simp [validB, hq2]
      · go_wp2_with fail
        refine (within_c _ _ _ _ (IsRows.one _ _ (hi0.below hBx) (by simp))).mono ?_
        rintro e w1 ⟨rfl, n1, rfl⟩
        go_wp2_with fail
        go_ret
        refine ⟨ret_bool ?_, (by repeat (first | exact Below.refl _ _ | assumption | (refine belA ?_ _) | (refine belD ?_ _)))⟩
        simp [withinB] at hq1
        simp [validB, hq1]

theorem greatest_c (w : World) : Calls Try.prog 42 #[] w fun e w' => e = .returned (.int .i64 30000) ∧ w' = w := by
  go_enter Try.func42, Try.ntmps42
  go_wp2
  go_ret
  exact ⟨rfl, rfl⟩

set_option maxRecDepth 100000 in
set_option maxHeartbeats 4000000 in
theorem RValid_c (w : World) (vg : Value) (g : Gm) (hg : IsGame w vg g) :
    Calls Try.prog 33 #[vg] w (Calm (.bool (validB g)) w) := by
  obtain ⟨v0, v1, v2, rfl, ⟨⟨ao0, cap0, b0, off0, rfl, g0⟩, _⟩, ⟨⟨ao1, cap1, b1, off1, rfl, g1⟩, _⟩, ⟨V, ⟨ao2, cap2, b2, off2, rfl, g2⟩, hr⟩⟩ := hg
  have hn0 := g0.nb
  have hn1 := g1.nb
  have hn2 := g2.nb
  by_cases h1 : g.owner.length ≤ 3000
  case neg =>
    go_enter Try.func33, Try.ntmps33
    go_wp2
    go_ret
    refine ⟨ret_bool ?_, (by repeat (first | exact Below.refl _ _ | assumption | (refine belA ?_ _) | (refine belD ?_ _)))⟩
    simp [validB, h1]
  by_cases h2 : g.prio.length = g.owner.length
  case neg =>
    have hne : ((g.prio.length : Int) != g.owner.length) = true := by simp; omega
    go_enter Try.func33, Try.ntmps33
    go_wp2
    go_ret
    refine ⟨ret_bool ?_, (by repeat (first | exact Below.refl _ _ | assumption | (refine belA ?_ _) | (refine belD ?_ _)))⟩
    simp [validB, h2]
  by_cases h3 : g.succ.length = g.owner.length
  case neg =>
    have hne : ((g.prio.length : Int) != g.owner.length) = false := by simp; omega
    have hne2 : ((g.succ.length : Int) != g.owner.length) = true := by simp; omega
    have H2 := Lib.hid h2
    clear h2
    go_enter Try.func33, Try.ntmps33
    go_wp2
    go_ret
    refine ⟨ret_bool ?_, (by repeat (first | exact Below.refl _ _ | assumption | (refine belA ?_ _) | (refine belD ?_ _)))⟩
    simp [validB, h3]
  have hne : ((g.prio.length : Int) != g.owner.length) = false := by simp; omega
  have hne2 : ((g.succ.length : Int) != g.owner.length) = false := by simp; omega
  have H2 := Lib.hid h2
  have H3 := Lib.hid h3
  clear h2 h3
  have hI : ((g.owner.length : Int)) ≤ 3000 := by omega
  have H1 := Lib.hid h1
  clear h1 hn0 hn1 hn2
  go_enter Try.func33, Try.ntmps33
  go_wp2
  clear hne hne2
  go_loopg [2, 4, 5] g.owner.length (fun gh r i _ wr => ∃ k : Nat, gh = g.owner.length - k ∧ i = .int .i64 k ∧ r = .bool false ∧ Below w.heap.size w wr ∧ wr.heap[w.heap.size]? = some (.cells #[Value.slice ao0 g.owner.length cap0, Value.slice ao1 g.prio.length cap1, Value.slice ao2 g.succ.length cap2] 25 (0, 0)) ∧ k ≤ g.owner.length ∧ Hid (∀ i, i < k → okB g i = true))
  case atStart => exact ⟨0, rfl, rfl, rfl, (by repeat (first | exact Below.refl _ _ | assumption | (refine belA ?_ _) | (refine belD ?_ _))), heap_alloc_new _ _, by omega, fun i hi => absurd hi (by omega)⟩
  case round =>
    obtain ⟨k, hgk, rfl, rfl, hB, hbox, hk, HE⟩ := hrel
    have HG := Lib.hid hgk
    clear hgk
    have d0 : wr.cell? ⟨w.heap.size, 0, none⟩ = some (Value.slice ao0 g.owner.length cap0) := cell_of_row _ _ 0 _ _ _ hbox
    have d1 : wr.cell? ⟨w.heap.size, 1, none⟩ = some (Value.slice ao1 g.prio.length cap1) := cell_of_row _ _ 1 _ _ _ hbox
    have d2 : wr.cell? ⟨w.heap.size, 2, none⟩ = some (Value.slice ao2 g.succ.length cap2) := cell_of_row _ _ 2 _ _ _ hbox
    have HBX := Lib.hid hbox
    clear hbox
    by_cases hlt : k < g.owner.length
    · have hlt1 : k < g.prio.length := by rw [H2.out]; exact hlt
      have hlt2 : k < g.succ.length := by rw [H3.out]; exact hlt
      obtain rfl := g0.ad (by omega)
      obtain rfl := g1.ad (by omega)
      obtain rfl := g2.ad (by omega)
      have c0 := cellB hB (g0.el k hlt)
      have c1 := cellB hB (g1.el k hlt1)
      have c2 := cellB hB (g2.el k hlt2)
      obtain ⟨⟨ao, cap, b, off, hv, g3⟩, _⟩ := hr k hlt2
      rw [hv] at c2
      unfold ivF at c0 c1
      rw [getD_lt _ _ _ hlt] at c0
      rw [getD_lt _ _ _ hlt1] at c1
      rw [getD_lt _ _ _ hlt2] at c2 g3
      have hn := g3.nb
      clear hv hr
      have hok : Hid (okB g k = ((decide (0 ≤ g.owner[k]) && decide (g.owner[k] ≤ 1)) && (decide (0 ≤ g.prio[k]) && decide (g.prio[k] ≤ 30000)) && !g.succ[k].isEmpty && inB ((g.owner.length : Int) - 1) g.succ[k])) := by
        show _ = _
        unfold okB; rw [getD_lt _ _ _ hlt, getD_lt _ _ _ hlt1, getD_lt _ _ _ hlt2]
      have hP : (g.owner[k] != 0) = true ∧ (g.owner[k] != 1) = true ∨ ((g.owner[k] != 0) = false ∨ ((g.owner[k] != 0) = true ∧ (g.owner[k] != 1) = false)) ∧ (g.prio[k] < 0 ∨ ¬ g.prio[k] < 0 ∧ 30000 < g.prio[k] ∨ (¬ g.prio[k] < 0 ∧ ¬ 30000 < g.prio[k]) ∧ ((g.succ[k].length : Int) == 0) = true ∨ (¬ g.prio[k] < 0 ∧ ¬ 30000 < g.prio[k]) ∧ ((g.succ[k].length : Int) == 0) = false) := by
        by_cases ho : (g.owner[k] != 0) = true ∧ (g.owner[k] != 1) = true
        · exact .inl ho
        refine .inr ⟨?_, ?_⟩
        · simp only [bne_iff_ne, bne_eq_false_iff_eq] at ho ⊢; omega
        by_cases a : g.prio[k] < 0
        · exact .inl a
        by_cases b : 30000 < g.prio[k]
        · exact .inr (.inl ⟨a, b⟩)
        cases hh : ((g.succ[k].length : Int) == 0)
        · exact .inr (.inr (.inr ⟨⟨a, b⟩, rfl⟩))
        · exact .inr (.inr (.inl ⟨⟨a, b⟩, rfl⟩))
      go_upto_region 7 with (fail)
      go_cut [69] (fun s wx => (∃ n, wx = wr.drewN n) ∧ ∃ z, s = .bool z ∧ (z = true → Hid (okB g k = false)) ∧ (z = false → Hid (okB g k = inB ((g.owner.length : Int) - 1) g.succ[k])))
      case first =>
        refine wp_region_quiet_lit (by kernel_rfl) (by kernel_rfl) ?_
        rcases hP with ⟨t0, t1⟩ | ⟨hO, hP⟩
        · ((repeat (go_big_quiet_step (fail))); refine wpQuiet_nil ?_; rintro _ ⟨nq, rfl⟩)
          go_wp2_with fail
          go_meet
          case rel =>
            refine ⟨⟨_, rfl⟩, true, rfl, fun _ => ?_, fun h => by cases h⟩
            show _ = _
            rw [hok.out]
            simp only [bne_iff_ne] at t0 t1
            simp; omega
        rcases hO with t0 | ⟨t0, t1⟩
        all_goals
          rcases hP with p0 | ⟨p0, p1⟩ | ⟨⟨p0, p1⟩, p2⟩ | ⟨⟨p0, p1⟩, p2⟩
          · ((repeat (go_big_quiet_step (fail))); refine wpQuiet_nil ?_; rintro _ ⟨nq, rfl⟩)
            go_wp2_with fail
            go_meet
            case rel =>
              refine ⟨⟨_, rfl⟩, true, rfl, fun _ => ?_, fun h => by cases h⟩
              show _ = _
              rw [hok.out]
              simp; omega
          · ((repeat (go_big_quiet_step ((go_at_call 42; refine (greatest_c _).mono ?_; rintro e w' ⟨rfl, rfl⟩; exact ⟨rfl, _, rfl⟩)))); refine wpQuiet_nil ?_; rintro _ ⟨nq, rfl⟩)
            go_wp2_with fail
            go_meet
            case rel =>
              refine ⟨⟨_, rfl⟩, true, rfl, fun _ => ?_, fun h => by cases h⟩
              show _ = _
              rw [hok.out]
              simp; omega
          · ((repeat (go_big_quiet_step ((go_at_call 42; refine (greatest_c _).mono ?_; rintro e w' ⟨rfl, rfl⟩; exact ⟨rfl, _, rfl⟩)))); refine wpQuiet_nil ?_; rintro _ ⟨nq, rfl⟩)
            go_wp2_with fail
            go_meet
            case rel =>
              refine ⟨⟨_, rfl⟩, true, rfl, fun _ => ?_, fun h => by cases h⟩
              show _ = _
              rw [hok.out]
              simp at p2 ⊢; simp [p2]
          · ((repeat (go_big_quiet_step ((go_at_call 42; refine (greatest_c _).mono ?_; rintro e w' ⟨rfl, rfl⟩; exact ⟨rfl, _, rfl⟩)))); refine wpQuiet_nil ?_; rintro _ ⟨nq, rfl⟩)
            go_wp2_with fail
            go_meet
            case rel =>
              refine ⟨⟨_, rfl⟩, false, rfl, (fun h => by cases h), fun _ => ?_⟩
              show _ = _
              rw [hok.out]
              have ho : 0 ≤ g.owner[k] ∧ g.owner[k] ≤ 1 := by first | (simp at t0; omega) | (simp at t1; omega)
              simp at p2
              simp [p0, p1, p2, ho]
      case rest =>
        obtain ⟨⟨n1, rfl⟩, z, rfl, hz1, hz2⟩ := hcut
        have c2x := Lib.hid c2
        clear hP hok c0 c1 c2 d0 d1 d2
        cases z
        · have HZ := hz2 rfl
          clear hz1 hz2
          go_wp2
          go_loopg [2, 5] g.succ[k].length (fun gh r i wx => ∃ j : Nat, gh = g.succ[k].length - j ∧ i = .int .i64 j ∧ r = .bool false ∧ wx = wr.drewN n1 ∧ j ≤ g.succ[k].length ∧ Hid (inB ((g.owner.length : Int) - 1) (g.succ[k].take j) = true))
          case atStart => exact ⟨0, rfl, rfl, rfl, rfl, by omega, by simp [inB, Hid]⟩
          case round =>
            obtain ⟨j, hgj, rfl, rfl, rfl, hj, HJ⟩ := hrel
            have HGJ := Lib.hid hgj
            clear hgj
            by_cases hltj : j < g.succ[k].length
            · obtain rfl := g3.ad (by omega)
              have c3 := cellB hB (g3.el j hltj)
              unfold ivF at c3
              rw [getD_lt _ _ _ hltj] at c3
              have d0 : wr.cell? ⟨w.heap.size, 0, none⟩ = some (Value.slice (some ⟨b0, off0, none⟩) g.owner.length cap0) := cell_of_row _ _ 0 _ _ _ HBX.out
              have d2 : wr.cell? ⟨w.heap.size, 2, none⟩ = some (Value.slice (some ⟨b2, off2, none⟩) g.succ.length cap2) := cell_of_row _ _ 2 _ _ _ HBX.out
              have c2 := c2x.out
              go_wp2
              · have q : g.succ[k][j] < 0 ∨ ↑g.owner.length ≤ g.succ[k][j] := by assumption
                go_ret
                refine ⟨ret_bool (validB_false H1.out H2.out H3.out hlt ?_), (by repeat (first | exact Below.refl _ _ | assumption | (refine belA ?_ _) | (refine belD ?_ _)))⟩
                rw [HZ.out]
                exact all_false_of _ _ j hltj (by simp; omega)
              · have q : 0 ≤ g.succ[k][j] ∧ g.succ[k][j] < ↑g.owner.length := by assumption
                go_roundg (g.succ[k].length - (j + 1))
                case measure => have := HGJ.out; omega
                case rel =>
                  refine ⟨j + 1, rfl, by go_num, rfl, rfl, by omega, ?_⟩
                  show _ = _
                  have h3 := HJ.out
                  unfold inB at h3 ⊢
                  rw [all_take_succ _ _ _ hltj, h3]
                  simp; omega
              · have q : g.succ[k][j] < 0 := by assumption
                go_ret
                refine ⟨ret_bool (validB_false H1.out H2.out H3.out hlt ?_), (by repeat (first | exact Below.refl _ _ | assumption | (refine belA ?_ _) | (refine belD ?_ _)))⟩
                rw [HZ.out]
                exact all_false_of _ _ j hltj (by simp; omega)
            · have d2 : wr.cell? ⟨w.heap.size, 2, none⟩ = some (Value.slice (some ⟨b2, off2, none⟩) g.succ.length cap2) := cell_of_row _ _ 2 _ _ _ HBX.out
              have c2 := c2x.out
              go_wp2
              go_roundg (g.owner.length - (k + 1))
              case measure => have := HG.out; omega
              case rel =>
                refine ⟨k + 1, rfl, by go_num, rfl, (by repeat (first | exact Below.refl _ _ | assumption | (refine belA ?_ _) | (refine belD ?_ _))), HBX.out, by omega, fun i hi => ?_⟩
                rcases Nat.lt_succ_iff_lt_or_eq.1 hi with h | rfl
                · exact HE.out i h
                · have h3 := HJ.out
                  rw [List.take_of_length_le (by omega)] at h3
                  rw [HZ.out, h3]
        · have HZ := hz1 rfl
          clear hz1 hz2
          go_wp2
          go_ret
          refine ⟨ret_bool (validB_false H1.out H2.out H3.out hlt HZ.out), (by repeat (first | exact Below.refl _ _ | assumption | (refine belA ?_ _) | (refine belD ?_ _)))⟩
    · go_wp2
      go_ret
      refine ⟨ret_bool (validB_true H1.out H2.out H3.out fun i hi => HE.out i (by omega)), hB⟩

structure Fits (g : Gm) (p : Int) (n : Nat) : Prop where
  pl : p = 0 ∨ p = 1
  le : n ≤ 3000
  on : g.owner.length = n
  pn : g.prio.length = n
  sn : g.succ.length = n
  ow : ∀ i, i < n → 0 ≤ g.owner.getD i 0 ∧ g.owner.getD i 0 ≤ 1
  ne : ∀ i, i < n → g.succ.getD i [] ≠ []
  rg : ∀ i, i < n → ∀ x ∈ g.succ.getD i [], 0 ≤ x ∧ x < n

theorem valid_lens {g : Gm} (h : validB g = true) : g.owner.length ≤ 3000 ∧ g.prio.length = g.owner.length ∧ g.succ.length = g.owner.length := by
  simp only [validB, Bool.and_eq_true, decide_eq_true_eq] at h
  exact ⟨h.1.1.1.1.1.1, h.1.1.1.1.1.2, h.1.1.1.1.2⟩

/-- Behind the box of a game: what a world holds of it. -/
structure Boxed (w wr : World) (cs : Array Value) : Prop where
  bl : Below w.heap.size w wr
  bx : wr.heap[w.heap.size]? = some (.cells cs 25 (0, 0))

theorem Boxed.start {w w1 : World} {cs : Array Value} (hb : Below (w.alloc (.cells cs 25)).heap.size (w.alloc (.cells cs 25)) w1) : Boxed w w1 cs :=
  ⟨Below.trans (bel_box _) (hb.mono (by simp)), (hb.block _ (by simp)).trans (heap_alloc_new _ _)⟩

theorem Boxed.cell {w wr : World} {cs : Array Value} (h : Boxed w wr cs) (k : Nat) {v : Value} (hv : cs[k]? = some v) : wr.cell? ⟨w.heap.size, k, none⟩ = some v :=
  (cell_of_row _ _ k _ _ _ h.bx).trans hv

theorem Boxed.lt {w wr : World} {cs : Array Value} (h : Boxed w wr cs) : w.heap.size < wr.heap.size := (Array.getElem?_eq_some_iff.1 h.bx).1

theorem Boxed.step {w wr w1 : World} {cs : Array Value} (h : Boxed w wr cs) (hb : Below wr.heap.size wr w1) : Boxed w w1 cs :=
  ⟨h.bl.trans (hb.mono h.bl.size), (hb.block _ h.lt).trans h.bx⟩

theorem Boxed.stepB {w wr w1 : World} {cs : Array Value} (h : Boxed w wr cs) (hb : Below (w.heap.size + 1) wr w1) : Boxed w w1 cs :=
  ⟨h.bl.trans (hb.mono (by omega)), (hb.block _ (by omega)).trans h.bx⟩

/-- A row with elements lies in a block. -/
theorem OB.row {w : World} {base : Nat} {v : Value} {l : List Bool} (h : OB w base v l) (hl : 0 < l.length) : ∃ g cap, v = .slice (some ⟨g, 0, none⟩) l.length cap ∧ base ≤ g ∧ g < w.heap.size := by
  rcases h.2 with ⟨_, h0⟩ | ⟨g, cap, cur, hv, hb, hg, _⟩
  · omega
  · exact ⟨g, cap, hv, hb, (Array.getElem?_eq_some_iff.1 hg).1⟩

theorem OB.slice {w : World} {base : Nat} {v : Value} {l : List Bool} (h : OB w base v l) : ∃ ao cap, v = .slice ao l.length cap := by
  rcases h.2 with ⟨hv, h0⟩ | ⟨g, cap, cur, hv, hb, hg, _⟩
  · exact ⟨none, 0, by rw [hv, h0]⟩
  · exact ⟨_, cap, hv⟩

theorem OB.base {w : World} {base base' : Nat} {v : Value} {l : List Bool} (h : OB w base v l) (hb : base' ≤ base) : OB w base' v l := by
  refine ⟨h.1, ?_⟩
  rcases h.2 with h0 | ⟨g, cap, cur, hv, hg, r⟩
  · exact .inl h0
  · exact .inr ⟨g, cap, cur, hv, Nat.le_trans hb hg, r⟩

theorem OI.base {w : World} {base base' : Nat} {v : Value} {l : List Int} (h : OI w base v l) (hb : base' ≤ base) : OI w base' v l := by
  refine ⟨h.1, ?_⟩
  rcases h.2 with h0 | ⟨g, cap, cur, hv, hg, r⟩
  · exact .inl h0
  · exact .inr ⟨g, cap, cur, hv, Nat.le_trans hb hg, r⟩

/-- A row of the call's own stays where new memory is made, or other rows are written. -/
theorem OB.grown {w w' : World} {base : Nat} {v : Value} {l : List Bool} {row : Option Nat} (h : OB w base v l) (hg : w.grownBy w' row) (hne : v.ownBlock = none ∨ v.ownBlock ≠ row) : OB w' base v l := World.ownsRow.kept h hg hne

theorem OI.grown {w w' : World} {base : Nat} {v : Value} {l : List Int} {row : Option Nat} (h : OI w base v l) (hg : w.grownBy w' row) (hne : v.ownBlock = none ∨ v.ownBlock ≠ row) : OI w' base v l := World.ownsRow.kept h hg hne

theorem below_grown {w w' : World} (h : Below w.heap.size w w') : w.grownBy w' none := ⟨h.os, h.tape, h.output, h.size, fun k hk _ => h.block k hk⟩

theorem OB.below {w w' : World} {base : Nat} {v : Value} {l : List Bool} (h : OB w base v l) (hb : Below w.heap.size w w') : OB w' base v l := h.grown (below_grown hb) (by cases v.ownBlock <;> simp)

theorem OI.below {w w' : World} {base : Nat} {v : Value} {l : List Int} (h : OI w base v l) (hb : Below w.heap.size w w') : OI w' base v l := h.grown (below_grown hb) (by cases v.ownBlock <;> simp)

theorem OI_nil (w : World) (base : Nat) : OI w base (.slice none 0 0) [] := World.ownsRow_nil _ _ _ _

theorem OI.row {w : World} {base : Nat} {v : Value} {l : List Int} (h : OI w base v l) (hl : 0 < l.length) : ∃ g cap, v = .slice (some ⟨g, 0, none⟩) l.length cap ∧ base ≤ g ∧ g < w.heap.size := by
  rcases h.2 with ⟨_, h0⟩ | ⟨g, cap, cur, hv, hb, hg, _⟩
  · omega
  · exact ⟨g, cap, hv, hb, (Array.getElem?_eq_some_iff.1 hg).1⟩

theorem OI.slice {w : World} {base : Nat} {v : Value} {l : List Int} (h : OI w base v l) : ∃ ao cap, v = .slice ao l.length cap := by
  rcases h.2 with ⟨hv, h0⟩ | ⟨g, cap, cur, hv, hb, hg, _⟩
  · exact ⟨none, 0, by rw [hv, h0]⟩
  · exact ⟨_, cap, hv⟩

/-- Two rows lie in different blocks. -/
def Apart (v v' : Value) : Prop := ∀ g, v.ownBlock = some g → v'.ownBlock = some g → False

theorem Apart.symm {v v' : Value} (h : Apart v v') : Apart v' v := fun g h1 h2 => h g h2 h1

theorem Apart.ne {v v' : Value} (h : Apart v v') : v.ownBlock = none ∨ v.ownBlock ≠ v'.ownBlock := by
  cases hv : v.ownBlock with
  | none => exact .inl rfl
  | some g => exact .inr fun e => h g hv e.symm

theorem Apart.moved {w : World} {v u u' : Value} (h : Apart v u) (hm : Moved w u u') (hl : ∀ g, v.ownBlock = some g → g < w.heap.size) : Apart v u' := fun g h1 h2 => by
  rcases hm g h2 with e | e
  · exact h g h1 e
  · have := hl g h1; omega

theorem Apart.of_lt {w : World} {v v' : Value} (hl : ∀ g, v.ownBlock = some g → g < w.heap.size) (hg : ∀ g, v'.ownBlock = some g → w.heap.size ≤ g) : Apart v v' := fun g h1 h2 => by
  have := hl g h1; have := hg g h2; omega

theorem OB.lt' {w : World} {base : Nat} {v : Value} {l : List Bool} (h : OB w base v l) : ∀ g, v.ownBlock = some g → g < w.heap.size := fun g hg => (World.ownsRow.lt h g hg).2

theorem OI.lt' {w : World} {base : Nat} {v : Value} {l : List Int} (h : OI w base v l) : ∀ g, v.ownBlock = some g → g < w.heap.size := fun g hg => (World.ownsRow.lt h g hg).2

theorem OB.ge {w : World} {base : Nat} {v : Value} {l : List Bool} (h : OB w base v l) : ∀ g, v.ownBlock = some g → base ≤ g := fun g hg => (World.ownsRow.lt h g hg).1

theorem OI.ge {w : World} {base : Nat} {v : Value} {l : List Int} (h : OI w base v l) : ∀ g, v.ownBlock = some g → base ≤ g := fun g hg => (World.ownsRow.lt h g hg).1

theorem Boxed.grown {w wr w1 : World} {cs : Array Value} {v : Value} (h : Boxed w wr cs) (hg : wr.grownBy w1 v.ownBlock) (hv : ∀ g, v.ownBlock = some g → w.heap.size + 1 ≤ g) : Boxed w w1 cs :=
  h.stepB ((Below.refl _ _).grown hg h.lt hv)

/-- Only blocks with S have been written, of those that were there. -/
structure Only (S : Nat → Prop) (w w' : World) : Prop where
  os : w'.os = w.os
  tape : w'.tape = w.tape
  output : w'.output = w.output
  size : w.heap.size ≤ w'.heap.size
  block : ∀ k, k < w.heap.size → ¬ S k → w'.heap[k]? = w.heap[k]?

theorem Only.refl (S : Nat → Prop) (w : World) : Only S w w := ⟨rfl, rfl, rfl, Nat.le_refl _, fun _ _ _ => rfl⟩

theorem Only.trans {S : Nat → Prop} {a b c : World} (h : Only S a b) (k : Only S b c) : Only S a c :=
  ⟨k.os.trans h.os, k.tape.trans h.tape, k.output.trans h.output, Nat.le_trans h.size k.size, fun i hi hs => (k.block i (Nat.lt_of_lt_of_le hi h.size) hs).trans (h.block i hi hs)⟩

theorem Only.mono {S T : Nat → Prop} {a b : World} (h : Only S a b) (hs : ∀ k, k < a.heap.size → S k → T k) : Only T a b :=
  ⟨h.os, h.tape, h.output, h.size, fun i hi ht => h.block i hi (fun x => ht (hs i hi x))⟩

theorem Only.of_grown {a b : World} {r : Option Nat} (h : a.grownBy b r) : Only (fun k => r = some k) a b := ⟨h.os, h.tape, h.output, h.size, fun i hi hs => h.block i hi (fun e => hs e.symm)⟩

theorem Only.below {S : Nat → Prop} {a b : World} (h : Only S a b) (B : Nat) (hB : ∀ k, S k → B ≤ k) (hs : B ≤ a.heap.size) : Below B a b :=
  ⟨h.os, h.tape, h.output, h.size, fun k hk => h.block k (by omega) (fun x => by have := hB k x; omega)⟩

theorem Only.grown {S : Nat → Prop} {a b : World} (h : Only S a b) (g : Nat) (_hg : g < a.heap.size) (hs : ∀ k, S k → k = g) : a.grownBy b (some g) :=
  ⟨h.os, h.tape, h.output, h.size, fun k hk hr => h.block k hk (fun x => hr (by rw [hs k x]))⟩

theorem OB.only {S : Nat → Prop} {w w' : World} {base : Nat} {v : Value} {l : List Bool} (h : OB w base v l) (hg : Only S w w') (hne : ∀ k, v.ownBlock = some k → ¬ S k) : OB w' base v l := by
  refine ⟨h.1, ?_⟩
  rcases h.2 with hn | ⟨g, cap, cur, rfl, hb, hgg, rest⟩
  · exact .inl hn
  · exact .inr ⟨g, cap, cur, rfl, hb, by rw [hg.block g (Array.getElem?_eq_some_iff.1 hgg).1 (hne g rfl)]; exact hgg, rest⟩

theorem OI.only {S : Nat → Prop} {w w' : World} {base : Nat} {v : Value} {l : List Int} (h : OI w base v l) (hg : Only S w w') (hne : ∀ k, v.ownBlock = some k → ¬ S k) : OI w' base v l := by
  refine ⟨h.1, ?_⟩
  rcases h.2 with hn | ⟨g, cap, cur, rfl, hb, hgg, rest⟩
  · exact .inl hn
  · exact .inr ⟨g, cap, cur, rfl, hb, by rw [hg.block g (Array.getElem?_eq_some_iff.1 hgg).1 (hne g rfl)]; exact hgg, rest⟩

/-- The blocks that take writes to. -/
def GrowAt (ga gi gm gl : Nat) (vq : Value) (k : Nat) : Prop := k = ga ∨ k = gi ∨ k = gm ∨ k = gl ∨ vq.ownBlock = some k

section
variable {w : World} {B n ga gi gm gl : Nat} {vq : Value} {inn : List Bool} {mv lf q : List Int}
theorem heap_set_ne (w : World) (g j k : Nat) (u : Value) (h : k ≠ g) : (w.setCell ⟨g, j, none⟩ u).heap[k]? = w.heap[k]? := heap_setCell_other w ⟨g, j, none⟩ k u h
end

theorem Only.set {w : World} {S : Nat → Prop} (g j : Nat) (u : Value) (h : S g) : Only S w (w.setCell ⟨g, j, none⟩ u) :=
  (Only.of_grown (grown_set w g j u)).mono (fun k _ hk => by cases hk; exact h)

theorem info_ints : (Try.prog.info? 22).map (fun i => (i.zero, i.size, i.bytes)) = some (some (.slice none 0 0), 1, 24) := by kernel_rfl

/-- Rows of numbers of the call's own, one block each, under one block. -/
structure Rows (w : World) (B n ob : Nat) (vals : List Value) (rows : List (List Int)) : Prop where
  o : w.ownsRow B 22 1 (.slice (some ⟨ob, 0, none⟩) n n) n vals
  e : ∀ j, j < n → OI w B (vals.getD j undef) (rows.getD j [])
  a : ∀ i j, i < n → j < n → i ≠ j → Apart (vals.getD i undef) (vals.getD j undef)
  ob' : ∀ j, j < n → (vals.getD j undef).ownBlock ≠ some ob
  lv : vals.length = n
  lr : rows.length = n

theorem alloc_get (w : World) (o : Obj) (k : Nat) : (w.alloc o).heap[k]? = if k = w.heap.size then some o else w.heap[k]? := by
  show (w.heap.push o)[k]? = _
  rw [Array.getElem?_push]

theorem drew_heap (w : World) : w.drew.heap = w.heap := rfl

theorem Rows.made {W : World} {B ob n : Nat} (h : W.heap[ob]? = some (.cells (madeCells #[.slice none 0 0] n) 22 (0, 0))) (hb : B ≤ ob) (hn : n ≤ 3000) : Rows W B n ob (List.replicate n (.slice none 0 0)) (List.replicate n []) := by
  have hg : ∀ j, j < n → (List.replicate n (Value.slice none 0 0)).getD j undef = .slice none 0 0 := fun j hj => by simp [List.getD, hj]
  have hg2 : ∀ j, j < n → (List.replicate n ([] : List Int)).getD j [] = [] := fun j hj => by simp [List.getD, hj]
  refine ⟨⟨by simp, .inr ⟨ob, n, _, rfl, hb, h, Nat.le_refl _, by simp only [maxLen]; omega, by simp [size_madeCells], ?_⟩⟩, fun j hj => ?_, fun i j hi hj _ => ?_, fun j hj => ?_, by simp, by simp⟩
  · rw [toList_madeCells_one]; simp
  · rw [hg j hj, hg2 j hj]; exact OI_nil _ _
  · rw [hg i hi]; intro k hk; cases hk
  · rw [hg j hj]; intro hk; cases hk

theorem Rows.row {w : World} {B n ob : Nat} {vals : List Value} {rows : List (List Int)} (h : Rows w B n ob vals rows) : B ≤ ob ∧ ob < w.heap.size := World.ownsRow.lt h.o ob rfl

theorem Rows.cell {w : World} {B n ob : Nat} {vals : List Value} {rows : List (List Int)} (h : Rows w B n ob vals rows) {j : Nat} (hj : j < n) : w.cell? ⟨ob, j, none⟩ = some (vals.getD j undef) := by
  rw [World.ownsRow.cellAt h.o j (by omega), List.getD]
  have : j < vals.length := by rw [h.lv]; exact hj
  simp [this]

theorem ownsRow_only {S : Nat → Prop} {w w' : World} {base e size n : Nat} {v : Value} {l : List Value} (h : w.ownsRow base e size v n l) (hg : Only S w w') (hne : ∀ k, v.ownBlock = some k → ¬ S k) : w'.ownsRow base e size v n l := by
  refine ⟨h.1, ?_⟩
  rcases h.2 with hn | ⟨g, cap, cur, rfl, hb, hgg, rest⟩
  · exact .inl hn
  · exact .inr ⟨g, cap, cur, rfl, hb, by rw [hg.block g (Array.getElem?_eq_some_iff.1 hgg).1 (hne g rfl)]; exact hgg, rest⟩

theorem Rows.only {S : Nat → Prop} {w w' : World} {B n ob : Nat} {vals : List Value} {rows : List (List Int)} (h : Rows w B n ob vals rows) (hg : Only S w w') (ho : ¬ S ob) (hv : ∀ j, j < n → ∀ b, (vals.getD j undef).ownBlock = some b → ¬ S b) : Rows w' B n ob vals rows :=
  { h with
    o := ownsRow_only h.o hg (fun k hk => by cases hk; exact ho)
    e := fun j hj => (h.e j hj).only hg (hv j hj) }

section
variable {w w' : World} {B n ga gi gm gl ob : Nat} {vq vq' : Value} {vals : List Value} {inn inn' : List Bool} {mv lf q mv' lf' q' : List Int} {bf : List (List Int)}
theorem GrowAt.moved (hm : Moved w vq vq') {b : Nat} (hb : b < w.heap.size) (hn : ¬ GrowAt ga gi gm gl vq b) : ¬ GrowAt ga gi gm gl vq' b := by
  rintro (e | e | e | e | e)
  · exact hn (.inl e)
  · exact hn (.inr (.inl e))
  · exact hn (.inr (.inr (.inl e)))
  · exact hn (.inr (.inr (.inr (.inl e))))
  · rcases hm b e with e | e
    · exact hn (.inr (.inr (.inr (.inr e))))
    · omega
end

section
variable {w w' : World} {B n ga gi gm gl ob : Nat} {vq vq' : Value} {vals : List Value} {inn inn' : List Bool} {mv lf q mv' lf' q' : List Int} {bf : List (List Int)}
theorem Moved.refl (w : World) (v : Value) : Moved w v v := fun _ h => .inl h
end

section
variable {w w' : World} {B n ga gi gm gl ob : Nat} {vq vq' : Value} {vals : List Value} {inn inn' : List Bool} {mv lf q mv' lf' q' : List Int} {bf : List (List Int)}
theorem getD_set_eq {α : Type} (l : List α) (i : Nat) (a d : α) (h : i < l.length) : (l.set i a).getD i d = a := by simp [List.getD, h]
end

section
variable {w w' : World} {B n ga gi gm gl ob : Nat} {vq vq' : Value} {vals : List Value} {inn inn' : List Bool} {mv lf q mv' lf' q' : List Int} {bf : List (List Int)}
theorem getD_set_ne {α : Type} (l : List α) (i j : Nat) (a d : α) (h : i ≠ j) : (l.set i a).getD j d = l.getD j d := by simp [List.getD, List.getElem?_set_ne h]
end

theorem Boxed.only {S : Nat → Prop} {w wr w1 : World} {cs : Array Value} (h : Boxed w wr cs) (ho : Only S wr w1) (hS : ∀ k, S k → w.heap.size + 1 ≤ k) : Boxed w w1 cs := h.stepB (ho.below _ hS h.lt)

/-- The members, their numbers, the counters, the queue. -/
structure Att where
  inn : List Bool
  mv : List Int
  lf : List Int
  q : List Int

/-- What stays true of a state, N a bound on its numbers. -/
structure AttOK (n N : Nat) (st : Att) : Prop where
  li : st.inn.length = n
  lm : st.mv.length = n
  ll : st.lf.length = n
  qc : st.q.length = st.inn.count true
  qr : ∀ x ∈ st.q, 0 ≤ x ∧ x < n
  mr : ∀ i, -(N : Int) ≤ st.mv.getD i 0 ∧ st.mv.getD i 0 ≤ N
  lr : ∀ i, -(N : Int) ≤ st.lf.getD i 0 ∧ st.lf.getD i 0 ≤ N

theorem AttOK.mono {n N M : Nat} {st : Att} (h : AttOK n N st) (hM : N ≤ M) : AttOK n M st :=
  { h with
    mr := fun i => by have := h.mr i; omega
    lr := fun i => by have := h.lr i; omega }

/-- A game in new memory. -/
def NewGame (g : Gm) (w : World) (e : Ending) (w' : World) : Prop := ∃ v, e = .returned v ∧ IsGame w' v g ∧ Below w.heap.size w w'

section
variable (g : Gm) (p : Int) (t : List Bool)
/-- The number of a position. -/
def Att.at (st : Att) (x : Int) : Int := st.mv.getD x.toNat 0
end

theorem Fits.other {g : Gm} {p : Int} {n : Nat} (F : Fits g p n) : Fits g (1 - p) n := { F with pl := by have := F.pl; omega }

/-- Values that own different blocks. -/
def Sep (l : List Value) : Prop := l.Pairwise Apart

theorem apart_none {v u : Value} (h : v.ownBlock = none) : Apart v u := fun g hg => by rw [h] at hg; cases hg

theorem Sep.get {l : List Value} (h : Sep l) {i j : Nat} (hij : i ≠ j) {u v : Value} (hi : l[i]? = some u) (hj : l[j]? = some v) : Apart u v := by
  obtain ⟨hi', rfl⟩ := List.getElem?_eq_some_iff.1 hi
  obtain ⟨hj', rfl⟩ := List.getElem?_eq_some_iff.1 hj
  have h2 := List.pairwise_iff_getElem.1 h
  rcases Nat.lt_or_ge i j with hlt | hge
  · exact h2 i j hi' hj' hlt
  · exact (h2 j i hj' hi' (by omega)).symm

theorem Sep.set {l : List Value} (h : Sep l) {w : World} {i : Nat} {v v' : Value} (hi : l[i]? = some v) (hm : Moved w v v') (hlt : ∀ u ∈ l, ∀ g, u.ownBlock = some g → g < w.heap.size) : Sep (l.set i v') := by
  refine List.pairwise_iff_getElem.2 fun a b ha hb hab => ?_
  rw [List.length_set] at ha hb
  rw [List.getElem_set, List.getElem_set]
  have hget : ∀ a (ha : a < l.length), l[a]? = some l[a] := fun a ha => by simp
  split
  · rename_i e
    subst e
    rw [if_neg (by omega)]
    exact ((h.get (by omega) (hget b hb) hi).moved hm (hlt _ (List.getElem_mem hb))).symm
  · split
    · rename_i e
      subst e
      exact (h.get (by omega) (hget a ha) hi).moved hm (hlt _ (List.getElem_mem ha))
    · exact h.get (by omega) (hget a ha) (hget b hb)

/-- A value in new memory lies apart. -/
theorem Sep.cons {l : List Value} (h : Sep l) {w : World} {v : Value} (hv : ∀ g, v.ownBlock = some g → w.heap.size ≤ g) (hlt : ∀ u ∈ l, ∀ g, u.ownBlock = some g → g < w.heap.size) : Sep (v :: l) :=
  List.pairwise_cons.2 ⟨fun u hu => (Apart.of_lt (hlt u hu) hv).symm, h⟩

theorem Sep.sub {l l' : List Value} (h : Sep l) (hs : l'.Sublist l) : Sep l' := h.sublist hs

theorem Sep.perm {l l' : List Value} (h : Sep l) (hp : l.Perm l') : Sep l' := (hp.pairwise_iff (fun h => Apart.symm h)).1 h

/-- The block of a box, told as a value. -/
def boxV (z : Nat) : Value := .slice (some ⟨z, 0, none⟩) 0 0

/-- A game that is built in block z; others: what the call owns besides. -/
structure GB (w : World) (B z : Nat) (v0 v1 v2 : Value) (vals : List Value) (gm : Gm) (others : List Value) : Prop where
  box : w.heap[z]? = some (.cells #[v0, v1, v2] 25 (0, 0))
  zB : B ≤ z
  o : OI w B v0 gm.owner
  p : OI w B v1 gm.prio
  r : w.ownsRow B 22 1 v2 gm.succ.length vals
  e : ∀ j, j < gm.succ.length → OI w B (vals.getD j undef) (gm.succ.getD j [])
  sep : Sep (boxV z :: v0 :: v1 :: v2 :: (vals ++ others))
  lt : ∀ u ∈ others, ∀ g, u.ownBlock = some g → g < w.heap.size

section
variable {w w' : World} {B z : Nat} {v0 v1 v2 : Value} {vals others : List Value} {gm : Gm}
theorem GB.vl (h : GB w B z v0 v1 v2 vals gm others) : vals.length = gm.succ.length := by have := h.r.1; simpa using this
end

section
variable {w w' : World} {B z : Nat} {v0 v1 v2 : Value} {vals others : List Value} {gm : Gm}
theorem GB.lts (h : GB w B z v0 v1 v2 vals gm others) : ∀ u ∈ boxV z :: v0 :: v1 :: v2 :: (vals ++ others), ∀ g, u.ownBlock = some g → g < w.heap.size := by
  intro u hu g hg
  simp only [List.mem_cons, List.mem_append] at hu
  rcases hu with rfl | rfl | rfl | rfl | hu | hu
  · cases hg; exact (Array.getElem?_eq_some_iff.1 h.box).1
  · exact h.o.lt' g hg
  · exact h.p.lt' g hg
  · exact (World.ownsRow.lt h.r g hg).2
  · obtain ⟨j, hj, rfl⟩ := List.getElem_of_mem hu
    have := (h.e j (by rw [← h.vl]; exact hj)).lt' g
    rw [getD_lt _ _ _ hj] at this
    exact this hg
  · exact h.lt u hu g hg
end

section
variable {w w' : World} {B z : Nat} {v0 v1 v2 : Value} {vals others : List Value} {gm : Gm}
theorem GB.valAt (h : GB w B z v0 v1 v2 vals gm others) {j : Nat} (hj : j < gm.succ.length) : (boxV z :: v0 :: v1 :: v2 :: (vals ++ others))[j + 4]? = some (vals.getD j undef) := by
  have hl : j < vals.length := by rw [h.vl]; exact hj
  simp only [List.getElem?_cons_succ]
  rw [List.getElem?_append_left hl, getD_lt _ _ _ hl]
  simp [hl]
end

section
variable {w w' : World} {B z : Nat} {v0 v1 v2 : Value} {vals others : List Value} {gm : Gm}
theorem GB.otherAt (h : GB w B z v0 v1 v2 vals gm others) {i : Nat} {u : Value} (hi : others[i]? = some u) : (boxV z :: v0 :: v1 :: v2 :: (vals ++ others))[gm.succ.length + i + 4]? = some u := by
  simp only [List.getElem?_cons_succ]
  rw [List.getElem?_append_right (by rw [h.vl]; omega), h.vl, Nat.add_sub_cancel_left]
  exact hi
end

section
variable {w w' : World} {B z : Nat} {v0 v1 v2 : Value} {vals others : List Value} {gm : Gm}
theorem ownsRow_set_ne {w : World} {base e size n g j : Nat} {v u : Value} {xs : List Value} (h : w.ownsRow base e size v n xs) (hne : v.ownBlock ≠ some g) : (w.setCell ⟨g, j, none⟩ u).ownsRow base e size v n xs :=
  ownsRow_only (S := fun k => k = g) h ((Only.of_grown (grown_set w g j u)).mono (fun k _ hk => by cases hk; rfl)) (fun k hk e => hne (by rw [hk, e]))
end

section
variable {w w' : World} {B z : Nat} {v0 v1 v2 : Value} {vals others : List Value} {gm : Gm}
theorem apart_box {v : Value} {z : Nat} (h : Apart (boxV z) v) : v.ownBlock ≠ some z := fun e => h z rfl e
end

section
variable {w w' : World} {B z : Nat} {v0 v1 v2 : Value} {vals others : List Value} {gm : Gm}
/-- What else the call owns is as it was, when other values of the list grow. -/
theorem OI.grownA {w w' : World} {base : Nat} {v u : Value} {l : List Int} (h : OI w base v l) (hg : w.grownBy w' u.ownBlock) (ha : Apart v u) : OI w' base v l := OI.grown h hg ha.ne
end

section
variable {w w' : World} {B z : Nat} {v0 v1 v2 : Value} {vals others : List Value} {gm : Gm}
theorem OB.grownA {w w' : World} {base : Nat} {v u : Value} {l : List Bool} (h : OB w base v l) (hg : w.grownBy w' u.ownBlock) (ha : Apart v u) : OB w' base v l := OB.grown h hg ha.ne
end

section
variable {w w' : World} {B z : Nat} {v0 v1 v2 : Value} {vals others : List Value} {gm : Gm}
/-- New memory changes nothing. -/
theorem GB.below (h : GB w B z v0 v1 v2 vals gm others) (hb : Below w.heap.size w w') : GB w' B z v0 v1 v2 vals gm others :=
  { box := by rw [hb.block z (Array.getElem?_eq_some_iff.1 h.box).1]; exact h.box
    zB := h.zB
    o := h.o.below hb
    p := h.p.below hb
    r := World.ownsRow.kept h.r (below_grown hb) (by cases v2.ownBlock <;> simp)
    e := fun j hj => (h.e j hj).below hb
    sep := h.sep
    lt := fun u hu g hg => Nat.lt_of_lt_of_le (h.lt u hu g hg) hb.size }
end

section
variable {w w' : World} {B z : Nat} {v0 v1 v2 : Value} {vals others : List Value} {gm : Gm}
/-- A new value among the others. -/
theorem GB.add (h : GB w B z v0 v1 v2 vals gm others) {u : Value} (hu : u.ownBlock = none) : GB w B z v0 v1 v2 vals gm (u :: others) :=
  { h with
    sep := by
      have : Sep (u :: (boxV z :: v0 :: v1 :: v2 :: (vals ++ others))) := List.pairwise_cons.2 ⟨fun x _ => apart_none hu, h.sep⟩
      exact this.perm (List.perm_middle (l₁ := boxV z :: v0 :: v1 :: v2 :: vals) (a := u) (l₂ := others)).symm
    lt := fun x hx g hg => by
      rcases List.mem_cons.1 hx with rfl | hx
      · rw [hu] at hg; cases hg
      · exact h.lt x hx g hg }
end

section
variable {w w' : World} {B z : Nat} {v0 v1 v2 : Value} {vals others : List Value} {gm : Gm}
/-- Without one of the others. -/
theorem GB.drop {u : Value} (h : GB w B z v0 v1 v2 vals gm (u :: others)) : GB w B z v0 v1 v2 vals gm others :=
  { h with
    sep := h.sep.sub (by simp)
    lt := fun x hx => h.lt x (List.mem_cons_of_mem _ hx) }
end

section
variable {w w' : World} {B z : Nat} {v0 v1 v2 : Value} {vals others : List Value} {gm : Gm}
/-- An empty game in a new block. -/
theorem GB.start {B : Nat} {others : List Value} {w : World} (hB : B ≤ w.heap.size) (hs : Sep others) (hl : ∀ u ∈ others, ∀ g, u.ownBlock = some g → g < w.heap.size) :
    GB (w.alloc (.cells #[.slice none 0 0, .slice none 0 0, .slice none 0 0] 25)) B w.heap.size (.slice none 0 0) (.slice none 0 0) (.slice none 0 0) [] ⟨[], [], []⟩ others :=
  { box := heap_alloc_new _ _
    zB := hB
    o := OI_nil _ _
    p := OI_nil _ _
    r := World.ownsRow_nil _ _ _ _
    e := fun j hj => absurd hj (by simp)
    sep := by
      refine Sep.cons (w := w) (l := .slice none 0 0 :: .slice none 0 0 :: .slice none 0 0 :: ([] ++ others)) ?_ (fun g hg => by cases hg; exact Nat.le_refl _) ?_
      · exact List.pairwise_cons.2 ⟨fun x _ => apart_none rfl, List.pairwise_cons.2 ⟨fun x _ => apart_none rfl, List.pairwise_cons.2 ⟨fun x _ => apart_none rfl, hs⟩⟩⟩
      · intro u hu g hg
        simp only [List.mem_cons, List.nil_append] at hu
        rcases hu with rfl | rfl | rfl | hu
        · cases hg
        · cases hg
        · cases hg
        · exact hl u hu g hg
    lt := fun u hu g hg => by have := hl u hu g hg; simp; omega }
end

section
variable {w w' : World} {B z : Nat} {v0 v1 v2 : Value} {vals others : List Value} {gm : Gm}
/-- What a step of the game leaves of the rest. -/
structure Kept (B : Nat) (others : List Value) (w w' : World) : Prop where
  bl : Below B w w'
  oi : ∀ u ∈ others, ∀ b l, OI w b u l → OI w' b u l
end

section
variable {w w' : World} {B z : Nat} {v0 v1 v2 : Value} {vals others : List Value} {gm : Gm}
theorem GB.atO (h : GB w B z v0 v1 v2 vals gm others) {k : Nat} {x : Value} (hk : k ≠ 1) (hx : (boxV z :: v0 :: v1 :: v2 :: (vals ++ others))[k]? = some x) : Apart x v0 := h.sep.get hk hx rfl
end

section
variable {w w' : World} {B z : Nat} {v0 v1 v2 : Value} {vals others : List Value} {gm : Gm}
theorem GB.atP (h : GB w B z v0 v1 v2 vals gm others) {k : Nat} {x : Value} (hk : k ≠ 2) (hx : (boxV z :: v0 :: v1 :: v2 :: (vals ++ others))[k]? = some x) : Apart x v1 := h.sep.get hk hx rfl
end

section
variable {w w' : World} {B z : Nat} {v0 v1 v2 : Value} {vals others : List Value} {gm : Gm}
theorem GB.atR (h : GB w B z v0 v1 v2 vals gm others) {k : Nat} {x : Value} (hk : k ≠ 3) (hx : (boxV z :: v0 :: v1 :: v2 :: (vals ++ others))[k]? = some x) : Apart x v2 := h.sep.get hk hx rfl
end

section
variable {w w' : World} {B z : Nat} {v0 v1 v2 : Value} {vals others : List Value} {gm : Gm}
theorem GB.atZ (h : GB w B z v0 v1 v2 vals gm others) {k : Nat} {x : Value} (hk : k ≠ 0) (hx : (boxV z :: v0 :: v1 :: v2 :: (vals ++ others))[k]? = some x) : x.ownBlock ≠ some z := apart_box (h.sep.get (Ne.symm hk) rfl hx)
end

section
variable {w w' : World} {B z : Nat} {v0 v1 v2 : Value} {vals others : List Value} {gm : Gm}
theorem GB.zlt (h : GB w B z v0 v1 v2 vals gm others) : z < w.heap.size := (Array.getElem?_eq_some_iff.1 h.box).1
end

section
variable {w w' : World} {B z : Nat} {v0 v1 v2 : Value} {vals others : List Value} {gm : Gm}
theorem OI.setNe {w : World} {base g j : Nat} {v u : Value} {l : List Int} (h : OI w base v l) (hne : v.ownBlock ≠ some g) : OI (w.setCell ⟨g, j, none⟩ u) base v l := ownsRow_set_ne h hne
end

section
variable {w w' : World} {B z : Nat} {v0 v1 v2 : Value} {vals others : List Value} {gm : Gm}
theorem kept_of {w w' : World} {B z j : Nat} {v x : Value} {others : List Value} (hg : w.grownBy w' v.ownBlock) (hvB : ∀ k, v.ownBlock = some k → B ≤ k) (hzB : B ≤ z) (hB : B ≤ w.heap.size)
    (ho : ∀ u ∈ others, Apart u v ∧ u.ownBlock ≠ some z) : Kept B others w (w'.setCell ⟨z, j, none⟩ x) where
  bl := ((Only.of_grown hg).below B (fun k hk => hvB k hk) hB).setCell hzB _
  oi := fun u hu _ _ h => OI.setNe (h.grownA hg (ho u hu).1) (ho u hu).2
end

section
variable {w w' : World} {B z : Nat} {v0 v1 v2 : Value} {vals others : List Value} {gm : Gm}
/-- The owners grow. -/
theorem GB.stepO (h : GB w B z v0 v1 v2 vals gm others) {v0' : Value} {x : Int} (ho : OI w' B v0' (gm.owner ++ [x])) (hg : w.grownBy w' v0.ownBlock) (hm : Moved w v0 v0') (hB : B ≤ w.heap.size) :
    w'.heap[z]? = some (.cells #[v0, v1, v2] 25 (0, 0)) ∧ GB (w'.setCell ⟨z, 0, none⟩ v0') B z v0' v1 v2 vals ⟨gm.owner ++ [x], gm.prio, gm.succ⟩ others ∧ Kept B others w (w'.setCell ⟨z, 0, none⟩ v0') := by
  have hzne : v0.ownBlock ≠ some z := h.atZ (k := 1) (by omega) rfl
  have hbox : w'.heap[z]? = some (.cells #[v0, v1, v2] 25 (0, 0)) := by rw [hg.block z h.zlt (Ne.symm hzne)]; exact h.box
  have hoth : ∀ u ∈ others, Apart u v0 ∧ u.ownBlock ≠ some z := fun u hu => by
    obtain ⟨i, hi, rfl⟩ := List.getElem_of_mem hu
    have e := h.otherAt (i := i) (u := others[i]) (by simp [hi])
    exact ⟨h.atO (by omega) e, h.atZ (by omega) e⟩
  have hsep : Sep (boxV z :: v0' :: v1 :: v2 :: (vals ++ others)) := h.sep.set (i := 1) rfl hm h.lts
  refine ⟨hbox, { box := heap_setCell_same w' z 0 _ _ v0' hbox, zB := h.zB, o := ?_, p := ?_, r := ?_, e := ?_, sep := hsep, lt := ?_ }, kept_of hg h.o.ge h.zB hB hoth⟩
  · exact ho.setNe (apart_box (hsep.get (i := 0) (j := 1) (by omega) rfl rfl))
  · exact (h.p.grownA hg (h.atO (k := 2) (by omega) rfl)).setNe (h.atZ (k := 2) (by omega) rfl)
  · exact ownsRow_set_ne (World.ownsRow.kept h.r hg (h.atO (k := 3) (by omega) rfl).ne) (h.atZ (k := 3) (by omega) rfl)
  · intro j hj
    exact ((h.e j hj).grownA hg (h.atO (by omega) (h.valAt hj))).setNe (h.atZ (by omega) (h.valAt hj))
  · intro u hu g hug
    have := h.lt u hu g hug
    simp only [World.size_setCell]
    exact Nat.lt_of_lt_of_le this hg.size
end

section
variable {w w' : World} {B z : Nat} {v0 v1 v2 : Value} {vals others : List Value} {gm : Gm}
/-- The priorities grow. -/
theorem GB.stepP (h : GB w B z v0 v1 v2 vals gm others) {v1' : Value} {x : Int} (ho : OI w' B v1' (gm.prio ++ [x])) (hg : w.grownBy w' v1.ownBlock) (hm : Moved w v1 v1') (hB : B ≤ w.heap.size) :
    w'.heap[z]? = some (.cells #[v0, v1, v2] 25 (0, 0)) ∧ GB (w'.setCell ⟨z, 1, none⟩ v1') B z v0 v1' v2 vals ⟨gm.owner, gm.prio ++ [x], gm.succ⟩ others ∧ Kept B others w (w'.setCell ⟨z, 1, none⟩ v1') := by
  have hzne : v1.ownBlock ≠ some z := h.atZ (k := 2) (by omega) rfl
  have hbox : w'.heap[z]? = some (.cells #[v0, v1, v2] 25 (0, 0)) := by rw [hg.block z h.zlt (Ne.symm hzne)]; exact h.box
  have hoth : ∀ u ∈ others, Apart u v1 ∧ u.ownBlock ≠ some z := fun u hu => by
    obtain ⟨i, hi, rfl⟩ := List.getElem_of_mem hu
    have e := h.otherAt (i := i) (u := others[i]) (by simp [hi])
    exact ⟨h.atP (by omega) e, h.atZ (by omega) e⟩
  have hsep : Sep (boxV z :: v0 :: v1' :: v2 :: (vals ++ others)) := h.sep.set (i := 2) rfl hm h.lts
  refine ⟨hbox, { box := heap_setCell_same w' z 1 _ _ v1' hbox, zB := h.zB, o := ?_, p := ?_, r := ?_, e := ?_, sep := hsep, lt := ?_ }, kept_of hg h.p.ge h.zB hB hoth⟩
  · exact (h.o.grownA hg (h.atP (k := 1) (by omega) rfl)).setNe (h.atZ (k := 1) (by omega) rfl)
  · exact ho.setNe (apart_box (hsep.get (i := 0) (j := 2) (by omega) rfl rfl))
  · exact ownsRow_set_ne (World.ownsRow.kept h.r hg (h.atP (k := 3) (by omega) rfl).ne) (h.atZ (k := 3) (by omega) rfl)
  · intro j hj
    exact ((h.e j hj).grownA hg (h.atP (by omega) (h.valAt hj))).setNe (h.atZ (by omega) (h.valAt hj))
  · intro u hu g hug
    have := h.lt u hu g hug
    simp only [World.size_setCell]
    exact Nat.lt_of_lt_of_le this hg.size
end

section
variable {w w' : World} {B z : Nat} {v0 v1 v2 : Value} {vals others : List Value} {gm : Gm}
/-- A row of successors is appended: it was the first of the others. -/
theorem GB.stepR {vS : Value} {row : List Int} (h : GB w B z v0 v1 v2 vals gm (vS :: others)) (hS : OI w B vS row) {v2' : Value} (ho : w'.ownsRow B 22 1 v2' (gm.succ.length + 1) (vals ++ [vS])) (hg : w.grownBy w' v2.ownBlock) (hm : Moved w v2 v2') (hB : B ≤ w.heap.size) :
    w'.heap[z]? = some (.cells #[v0, v1, v2] 25 (0, 0)) ∧ GB (w'.setCell ⟨z, 2, none⟩ v2') B z v0 v1 v2' (vals ++ [vS]) ⟨gm.owner, gm.prio, gm.succ ++ [row]⟩ others ∧ Kept B others w (w'.setCell ⟨z, 2, none⟩ v2') := by
  have hzne : v2.ownBlock ≠ some z := h.atZ (k := 3) (by omega) rfl
  have hbox : w'.heap[z]? = some (.cells #[v0, v1, v2] 25 (0, 0)) := by rw [hg.block z h.zlt (Ne.symm hzne)]; exact h.box
  have hat : ∀ i u, (vS :: others)[i]? = some u → Apart u v2 ∧ u.ownBlock ≠ some z := fun i u hi => ⟨h.atR (by omega) (h.otherAt hi), h.atZ (by omega) (h.otherAt hi)⟩
  have hoth : ∀ u ∈ others, Apart u v2 ∧ u.ownBlock ≠ some z := fun u hu => by
    obtain ⟨i, hi, rfl⟩ := List.getElem_of_mem hu
    exact hat (i + 1) _ (by simp [hi])
  have hsep : Sep (boxV z :: v0 :: v1 :: v2' :: (vals ++ vS :: others)) := h.sep.set (i := 3) rfl hm h.lts
  have hvl := h.vl
  refine ⟨hbox, { box := heap_setCell_same w' z 2 _ _ v2' hbox, zB := h.zB, o := ?_, p := ?_, r := ?_, e := ?_, sep := by simpa using hsep, lt := ?_ }, kept_of hg (fun k hk => (World.ownsRow.lt h.r k hk).1) h.zB hB hoth⟩
  · exact (h.o.grownA hg (h.atR (k := 1) (by omega) rfl)).setNe (h.atZ (k := 1) (by omega) rfl)
  · exact (h.p.grownA hg (h.atR (k := 2) (by omega) rfl)).setNe (h.atZ (k := 2) (by omega) rfl)
  · simp only [List.length_append, List.length_singleton]
    exact ownsRow_set_ne ho (apart_box (hsep.get (i := 0) (j := 3) (by omega) rfl rfl))
  · intro j hj
    simp only [List.length_append, List.length_singleton] at hj
    by_cases e : j < gm.succ.length
    · rw [show (vals ++ [vS]).getD j undef = vals.getD j undef from by simp [List.getD, List.getElem?_append_left (show j < vals.length by omega)],
        show (gm.succ ++ [row]).getD j [] = gm.succ.getD j [] from by simp [List.getD, List.getElem?_append_left e]]
      exact ((h.e j e).grownA hg (h.atR (by omega) (h.valAt e))).setNe (h.atZ (by omega) (h.valAt e))
    · obtain rfl : j = gm.succ.length := by omega
      rw [show (vals ++ [vS]).getD gm.succ.length undef = vS from by simp [List.getD, ← hvl],
        show (gm.succ ++ [row]).getD gm.succ.length [] = row from by simp [List.getD]]
      have := hat 0 vS rfl
      exact (hS.grownA hg this.1).setNe this.2
  · intro u hu g hug
    have := h.lt u (List.mem_cons_of_mem _ hu) g hug
    simp only [World.size_setCell]
    exact Nat.lt_of_lt_of_le this hg.size
end

section
variable {w w' : World} {B z : Nat} {v0 v1 v2 : Value} {vals others : List Value} {gm : Gm}
/-- A store below the call's own changes nothing. -/
theorem GB.setFar (h : GB w B z v0 v1 v2 vals gm others) {n j : Nat} {u : Value} (hn : n < B) : GB (w.setCell ⟨n, j, none⟩ u) B z v0 v1 v2 vals gm others :=
  { box := by rw [heap_set_ne _ _ _ _ _ (by have := h.zB; omega)]; exact h.box
    zB := h.zB
    o := h.o.setNe (fun e => by have := h.o.ge _ e; omega)
    p := h.p.setNe (fun e => by have := h.p.ge _ e; omega)
    r := ownsRow_set_ne h.r (fun e => by have := (World.ownsRow.lt h.r _ e).1; omega)
    e := fun j hj => (h.e j hj).setNe (fun e => by have := (h.e j hj).ge _ e; omega)
    sep := h.sep
    lt := fun u hu g hg => by have := h.lt u hu g hg; rw [World.size_setCell]; exact this }
end

section
variable {w w' : World} {B z : Nat} {v0 v1 v2 : Value} {vals others : List Value} {gm : Gm}
theorem OI.setFar {w : World} {B n j : Nat} {v u : Value} {l : List Int} (h : OI w B v l) (hn : n < B) : OI (w.setCell ⟨n, j, none⟩ u) B v l := h.setNe (fun e => by have := h.ge _ e; omega)
end

section
variable {w w' : World} {B z : Nat} {v0 v1 v2 : Value} {vals others : List Value} {gm : Gm}
/-- A game that was built reads as a game. -/
theorem GB.is (h : GB w B z v0 v1 v2 vals gm others) (h0 : gm.owner.length ≤ maxN ∧ ∀ x ∈ gm.owner, I64 x) (h1 : gm.prio.length ≤ maxN ∧ ∀ x ∈ gm.prio, I64 x) (h2 : gm.succ.length ≤ maxN) (h3 : ∀ j, j < gm.succ.length → (gm.succ.getD j []).length ≤ maxN ∧ ∀ x ∈ gm.succ.getD j [], I64 x) :
    IsGame w (.agg #[v0, v1, v2]) gm := by
  refine ⟨_, _, _, rfl, h.o.is h0.1 h0.2, h.p.is h1.1 h1.2, fun j => vals.getD j undef, ownsRow_arr h.r h2 _ (fun j hj => ?_), fun j hj => (h.e j hj).is (h3 j hj).1 (h3 j hj).2⟩
  have : j < vals.length := by rw [h.vl]; exact hj
  rw [getD_lt _ _ _ this]; simp [this]
end

theorem ownsRow_slice {w : World} {b e sz n : Nat} {v : Value} {l : List Value} (h : w.ownsRow b e sz v n l) : ∃ ao cap, v = .slice ao n cap := by
  rcases h.2 with ⟨hv, h0⟩ | ⟨g, cap, cur, hv, hb, hg, _⟩
  · exact ⟨none, 0, by rw [hv, h0]⟩
  · exact ⟨_, cap, hv⟩

/-- 'append' of a row to rows of the call's own. -/
theorem app_row {ops : Array Oper} {rest : List Oper} {o : Oper} {a : Act} {Q : Exit → Act → World → Prop} {w : World} (hgd : o.guard = none) (s x : Operand) (u : Value)
    (ho : o.op = .call { callee := .builtin .append, args := #[s, x], argTypes := #[23, 23] })
    (base : Nat) (v : Value) (n : Nat) (l : List Value) (hown : w.ownsRow base 22 1 v n l) (hs : a.eval s = v) (m : Nat) (hm : m = w.heap.size) (hx : a.eval x = .slice (some ⟨m, 0, none⟩) 1 1) (hu : u.oneCell' = true)
    (hn : n < 5864062014000) (hbase : base ≤ w.heap.size)
    (h : ∀ v' w', w'.ownsRow base 22 1 v' (n + 1) (l ++ [u]) → w.grownBy w' v.ownBlock → Moved w v v' → wpList Try.prog ops Q rest (a.put o.dst v') w') :
    wpList Try.prog ops Q (o :: rest) a (w.alloc (.cells #[u] 22)) :=
  wpList_app1 hgd s x _ _ 24 _ u ho Try.underlying23 info_ints rfl base v n _ hs hown m hm hx hu (by omega) (by decide) hbase h

/-- 'append' of a number in a region that draws its order. -/
theorem wp_app_int {o : Oper} {a : Act} {K : Act → World → Prop} {Q : Exit → Act → World → Prop} (w : World) (s x : Operand) (b : Int)
    (ho : o.op = .call { callee := .builtin .append, args := #[s, x], argTypes := #[22, 22] })
    (base : Nat) (v : Value) (l : List Int) (hs : a.eval s = v) (hown : OI w base v l) (hx : a.eval x = .slice (some ⟨w.heap.size, 0, none⟩) 1 1)
    (hn : l.length < 17592186043904) (hbase : base ≤ w.heap.size)
    (h : ∀ v' w', OI w' base v' (l ++ [b]) → w.grownBy w' v.ownBlock → Moved w v v' → K (a.put o.dst v') w') :
    Oper.wp Try.prog o a (w.alloc (.cells #[.int .i64 b] 3)).drew K Q := by
  obtain ⟨i0, hi0, hz0, hz1, hz2⟩ := info_parts info_int
  refine wp_append_lies _ s x _ ho base _ i0 _ 1 8 Try.underlying22 hi0 hz0 hz1 hz2 rfl (by decide) v l.length _ hs ((World.ownsRow.alloc hown _).drew) ⟨w.heap.size, 0, none⟩ 1 1 [.int .i64 b] hx rfl (World.news_of_block (cs := #[.int .i64 b]) (t := 3) (fr := (0, 0)) (heap_alloc_new w _)) (by simp [Value.oneCell']) (by omega) (by simp only [maxLen]; omega) (by omega) (by simp; omega) (w.heap.size + 1) (by simp) ?_
  intro g cap w' h1 h2 h3 h4
  refine h _ _ (by unfold OI; simpa using h1) ⟨h2.os, h2.tape, h2.output, by have := h2.size; rw [drew_heap] at this; simp at this; omega, fun k hk hr => ?_⟩ (fun k hk => ?_)
  · rw [h2.block k (by rw [drew_heap]; simp; omega) hr]; exact heap_alloc_old w _ hk
  · obtain rfl : g = k := by simpa [Value.ownBlock] using hk
    rcases h3 with e | e
    · exact .inl e
    · exact .inr (by omega)

/-- The frame of Part: the box of its game, and the cell of its result. -/
structure Fr (w wr : World) (cs : Array Value) : Prop where
  bx : Boxed w wr cs
  rc : wr.heap[w.heap.size + 1]? = some (.cells #[.slice none 0 0, .slice none 0 0, .slice none 0 0] 25 (0, 0))

theorem Fr.lt {w wr : World} {cs : Array Value} (h : Fr w wr cs) : w.heap.size + 2 ≤ wr.heap.size := (Array.getElem?_eq_some_iff.1 h.rc).1

theorem Fr.step {w wr w' : World} {cs : Array Value} (h : Fr w wr cs) (hb : Below (w.heap.size + 2) wr w') : Fr w w' cs :=
  ⟨h.bx.stepB (hb.mono (by omega)), (hb.block _ (by omega)).trans h.rc⟩

theorem three_set {wr : World} {n : Nat} {t : TypeId} {x y z a b c : Value} (h : wr.heap[n]? = some (.cells #[x, y, z] t (0, 0))) : (((wr.setCell ⟨n, 0, none⟩ a).setCell ⟨n, 1, none⟩ b).setCell ⟨n, 2, none⟩ c).heap[n]? = some (.cells #[a, b, c] t (0, 0)) :=
  heap_setCell_same _ n 2 _ _ c (heap_setCell_same _ n 1 _ _ b (heap_setCell_same _ n 0 _ _ a h))

theorem below_three {w wr : World} {n : Nat} {a b c : Value} (h : Below w.heap.size w wr) (hn : w.heap.size ≤ n) : Below w.heap.size w (((wr.setCell ⟨n, 0, none⟩ a).setCell ⟨n, 1, none⟩ b).setCell ⟨n, 2, none⟩ c) :=
  ((h.setCell hn _).setCell hn _).setCell hn _

theorem ints_nil (w : World) : IsInts w (.slice none 0 0) [] := ⟨⟨none, 0, 0, 0, rfl, Nat.le_refl _, Nat.zero_le _, Nat.zero_le _, fun _ => rfl, (fun h => absurd h (by simp)), fun j hj => absurd hj (by simp)⟩, by simp⟩

theorem rows_nil (w : World) : IsRows w (.slice none 0 0) [] := ⟨fun _ => undef, ⟨none, 0, 0, 0, rfl, Nat.le_refl _, Nat.zero_le _, Nat.zero_le _, fun _ => rfl, (fun h => absurd h (by simp)), fun j hj => absurd hj (by simp)⟩, fun j hj => absurd hj (by simp)⟩

theorem okB_iff (g : Gm) (i : Nat) : okB g i = true ↔ (0 ≤ g.owner.getD i 0 ∧ g.owner.getD i 0 ≤ 1) ∧ (0 ≤ g.prio.getD i 0 ∧ g.prio.getD i 0 ≤ 30000) ∧ g.succ.getD i [] ≠ [] ∧ ∀ x ∈ g.succ.getD i [], 0 ≤ x ∧ x < g.owner.length := by
  unfold okB inB
  simp only [Bool.and_eq_true, decide_eq_true_eq, List.all_eq_true, Bool.not_eq_true', List.isEmpty_eq_false_iff]
  constructor
  · rintro ⟨⟨⟨a, b⟩, c⟩, d⟩
    exact ⟨a, b, c, fun x hx => ⟨(d x hx).1, by have := (d x hx).2; omega⟩⟩
  · rintro ⟨a, b, c, d⟩
    exact ⟨⟨⟨a, b⟩, c⟩, fun x hx => ⟨(d x hx).1, by have := (d x hx).2; omega⟩⟩

theorem valid_at {g : Gm} (h : validB g = true) (i : Nat) (hi : i < g.owner.length) : (0 ≤ g.owner.getD i 0 ∧ g.owner.getD i 0 ≤ 1) ∧ (0 ≤ g.prio.getD i 0 ∧ g.prio.getD i 0 ≤ 30000) ∧ g.succ.getD i [] ≠ [] ∧ ∀ x ∈ g.succ.getD i [], 0 ≤ x ∧ x < g.owner.length := by
  obtain ⟨a, b, c⟩ := valid_lens h
  exact (okB_iff g i).1 ((validB_iff g a b c).1 h i hi)

/-- The game with exchanged players. -/
def swapG (g : Gm) : Gm := ⟨g.owner.map (1 - ·), g.prio.map (· + 1), g.succ⟩

theorem getD_map0 (l : List Int) (f : Int → Int) (i : Nat) (h : i < l.length) : (l.map f).getD i 0 = f (l.getD i 0) := by simp [List.getD, h]

theorem swap_valid {g : Gm} (hv : validB g = true) (hp : ∀ i, i < g.owner.length → g.prio.getD i 0 ≤ 29999) : validB (swapG g) = true := by
  obtain ⟨a, b, c⟩ := valid_lens hv
  refine (validB_iff _ (by simpa [swapG] using a) (by simp [swapG, b]) (by simp [swapG, c])).2 fun j hj => (okB_iff _ _).2 ?_
  have hj' : j < g.owner.length := by simpa [swapG] using hj
  have h := valid_at hv j hj'
  have h2 := hp j hj'
  unfold swapG
  simp only [List.length_map]
  rw [getD_map0 _ _ _ hj', getD_map0 _ _ _ (by omega)]
  exact ⟨by omega, by omega, h.2.2⟩

section
variable {P : Program} {ops : Array Oper} {Q : Exit → Act → World → Prop} {md : Region.Mode}
/-- Each edge leads back. -/
def backB (md : Region.Mode) (ops : Array Oper) : Bool := (List.range ops.size).all fun i => match ops[i]? with | some o => o.after.toList.all (fun e => !Region.binds md e || decide (e.on < i)) | none => true
end

section
variable {P : Program} {ops : Array Oper} {Q : Exit → Act → World → Prop} {md : Region.Mode}
theorem backB_spec (h : backB md ops = true) {i : Nat} {o : Oper} (hi : ops[i]? = some o) : ∀ e ∈ o.after, Region.binds md e = true → e.on < i := by
  intro e he hb
  have := List.all_eq_true.1 h i (List.mem_range.2 (Array.getElem?_eq_some_iff.1 hi).1)
  rw [hi] at this
  have := List.all_eq_true.1 this e (by simpa using he)
  rw [hb] at this
  simpa using this
end

section
variable {P : Program} {ops : Array Oper} {Q : Exit → Act → World → Prop} {md : Region.Mode}
theorem all_listed (h : backB md ops = true) {listed : Array Bool} (hs : listed.size = ops.size) (hr : Region.ready md ops listed = []) : ∀ i, i < ops.size → listed.getD i false = true := by
  intro i
  induction i using Nat.strongRecOn with
  | _ i ih =>
    intro hi
    cases hl : listed.getD i false with
    | true => rfl
    | false =>
      have hi2 : i < listed.size := by omega
      have hm : i ∈ Region.ready md ops listed := by
        refine mem_ready.2 ⟨?_, ops[i], by simp [hi], fun e he hb => ?_⟩
        · simp [Array.getD, hi2] at hl ⊢; exact hl
        · have hlt := backB_spec h (i := i) (o := ops[i]) (by simp [hi]) e he hb
          exact ih e.on hlt (by omega)
      rw [hr] at hm
      cases hm
end

section
variable {P : Program} {ops : Array Oper} {Q : Exit → Act → World → Prop} {md : Region.Mode}
/-- What is known: the listed operations have left their values. -/
def StInv (R : Nat → Value → World → Prop) (w : World) (listed : Array Bool) (vs : Nat → Value) (W : World) : Prop :=
  Below w.heap.size w W ∧ ∀ i, listed.getD i false = true → R i (vs i) W
end

section
variable {P : Program} {ops : Array Oper} {Q : Exit → Act → World → Prop} {md : Region.Mode}
/-- The values, one of them set. -/
def upd (vs : Nat → Value) (i : Nat) (v : Value) : Nat → Value := fun j => if j = i then v else vs j
end

section
variable {P : Program} {ops : Array Oper} {Q : Exit → Act → World → Prop} {md : Region.Mode}
/-- One operation: it leaves a value that R tells, and writes nothing that was there. -/
def StStep (P : Program) (Q : Exit → Act → World → Prop) (ops : Array Oper) (R : Nat → Value → World → Prop) (A : (Nat → Value) → Act) (w : World) (i : Nat) (o : Oper) : Prop :=
  ∀ (vs : Nat → Value) (W : World) (K : Act → World → Prop), Below w.heap.size w W → (∀ e ∈ o.after, Region.binds .any e = true → R e.on (vs e.on) W) →
    (∀ v W', Below W.heap.size W W' → R i v W' → K (A (upd vs i v)) W') →
    if Region.wanted o (yielded ops (A vs).tmps) = true then Oper.wp P o (A vs) W K Q else K ((A vs).put o.dst undef) W
end

section
variable {P : Program} {ops : Array Oper} {Q : Exit → Act → World → Prop} {md : Region.Mode}
theorem getD_false {l : Array Bool} {i : Nat} (h : l.getD i true = false) : i < l.size ∧ l.toList[i]? = some false := by
  rcases Nat.lt_or_ge i l.size with hi | hi
  · refine ⟨hi, ?_⟩
    simp [Array.getD, hi] at h
    simp [hi, h]
  · simp [Array.getD, Nat.not_lt.2 hi] at h
end

section
variable {P : Program} {ops : Array Oper} {Q : Exit → Act → World → Prop} {md : Region.Mode}
theorem count_down {l : Array Bool} {i n : Nat} (h : l.getD i true = false) (hc : l.toList.count false ≤ n + 1) : (l.setIfInBounds i true).toList.count false ≤ n := by
  obtain ⟨h1, h2⟩ := getD_false h
  have h3 : i < l.toList.length := by simpa using h1
  have h4 : l.toList[i] = false := by
    rw [List.getElem?_eq_getElem h3] at h2
    exact Option.some.inj h2
  rw [Array.toList_setIfInBounds, List.count_set h3, h4]
  simp only [BEq.rfl, if_true, show (true == false) = false from rfl, Bool.false_eq_true, if_false]
  omega
end

section
variable {P : Program} {ops : Array Oper} {Q : Exit → Act → World → Prop} {md : Region.Mode}
theorem stable_any (R : Nat → Value → World → Prop) (A : (Nat → Value) → Act) {w : World} (hb : backB .any ops = true) (hR : ∀ i v W W', R i v W → Below W.heap.size W W' → R i v W')
    (hstep : ∀ i o, ops[i]? = some o → StStep P Q ops R A w i o)
    (hfin : ∀ vs W, Below w.heap.size w W → (∀ i, i < ops.size → R i (vs i) W) → Q .normal (A vs) W) :
    ∀ (fuel : Nat) (listed : Array Bool) (vs : Nat → Value) (W : World), listed.size = ops.size → listed.toList.count false ≤ fuel → StInv R w listed vs W → wpAny P .any ops Q fuel listed (A vs) W
  | 0, listed, vs, W, hs, hc, hinv => by
    have hno : ∀ j, ¬ listed.getD j true = false := fun j h => by
      obtain ⟨_, h2⟩ := getD_false h
      have : 0 < listed.toList.count false := List.count_pos_iff.2 (List.mem_of_getElem? h2)
      omega
    have hr : Region.ready .any ops listed = [] := List.eq_nil_iff_forall_not_mem.2 fun j hj => hno j (mem_ready.1 hj).1
    exact ⟨hr, hfin vs W hinv.1 fun i hi => hinv.2 i (all_listed hb hs hr i hi)⟩
  | fuel + 1, listed, vs, W, hs, hc, hinv => by
    refine ⟨fun hr => hfin vs W hinv.1 fun i hi => hinv.2 i (all_listed hb hs hr i hi), fun i hi => ?_⟩
    obtain ⟨hl, o, ho, hall⟩ := mem_ready.1 hi
    refine wpOp_step ho fun K hK => ?_
    refine hstep i o ho vs W K hinv.1 (fun e he hbd => hinv.2 _ (hall e he hbd)) fun v W' hbl hr => hK _ _ ?_
    refine stable_any R A hb hR hstep hfin fuel _ (upd vs i v) W' (by simpa using hs) (count_down hl hc) ⟨hinv.1.trans (hbl.mono hinv.1.size), fun j hj => ?_⟩
    by_cases hji : j = i
    · subst hji
      simpa [upd] using hr
    · have hj' : listed.getD j false = true := by
        have : (listed.setIfInBounds i true).getD j false = listed.getD j false := by
          simp [Array.getD_eq_getD_getElem?, Ne.symm hji]
        rwa [this] at hj
      simp only [upd, if_neg hji]
      exact hR j _ W W' (hinv.2 j hj') hbl
end

section
variable {P : Program} {ops : Array Oper} {Q : Exit → Act → World → Prop} {md : Region.Mode}
/-- The region. A tells the frame by the values of the operations; R i what is known of the value of operation i. -/
theorem region_stable {id : Nat} {a : Act} {w : World} (hm : P.follows .mixedOrders = true) (R : Nat → Value → World → Prop) (A : (Nat → Value) → Act) (vs : Nat → Value) (ha : a = A vs) (hb : backB .any ops = true)
    (hR : ∀ i v W W', R i v W → Below W.heap.size W W' → R i v W')
    (hstep : ∀ i o, ops[i]? = some o → StStep P Q ops R A w.drew i o)
    (hfin : ∀ vs W, Below w.drew.heap.size w.drew W → (∀ i, i < ops.size → R i (vs i) W) → Q .normal (A vs) W) : (Code.region id ops true).wp P Q a w := by
  subst ha
  refine wp_region_any hm (stable_any R A hb hR hstep hfin ops.size _ vs w.drew (by simp) ?_ ⟨Below.refl _ _, fun i hi => ?_⟩)
  · simp
  · exfalso
    rcases Nat.lt_or_ge i ops.size with h | h
    · simp [Array.getD, h] at hi
    · simp [Array.getD, Nat.not_lt.2 h] at hi
end

end Go.Proofs.Ytkbiopjinegckaa
