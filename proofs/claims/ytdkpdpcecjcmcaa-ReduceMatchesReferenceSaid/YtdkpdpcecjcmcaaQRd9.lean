/- What a flow's to computes; two numbers of an array set to 0. While a move is appended to one of several rows, in a region that draws its order. -/
import Derived.Test.YtdkpdpcecjcmcaaQRd8
namespace Go.Proofs.Ytdkpdpcecjcmcaa
open Go.RowKit

set_option maxRecDepth 100000 in
set_option maxHeartbeats 4000000 in
theorem to_c (A : Fa) (w0 w : World) (nx : List (List Int)) (st : Nat → Nat → Nat) (F : Ar → Nat → Nat) (s x : Nat) (hb : Below w0.heap.size w0 w) (hv : IsRows w0 A.vN nx) (hx : NX A.n A.k nx) (hM : FlM A w st F) (hs : s < A.n) (hk : x < A.k) :
    Calls Try.prog 56 #[.pointer (some ⟨A.fb, 0, none⟩), .agg #[.int .i64 (s : Int), .int .i64 (x : Int)]] w (Calm (.int .i64 (tgN nx (s, x) : Int)) w) := by
  obtain ⟨aN, cN, bN, oN, V, hvN, hdN, hmN, hVN⟩ := hv.data
  rw [hx.ln] at hvN hdN hmN hVN
  obtain ⟨aR, cR, hVs⟩ := (hVN s hs).2.shape
  rw [hx.lr s hs] at hVs
  have hi := (hVN s hs).2
  rw [hVs] at hi
  obtain ⟨bR, oR, had, -, hdt⟩ := hi.dat
  obtain rfl := had (by omega)
  obtain ⟨hun, hue⟩ := hx.tg (m := (s, x)) hs hk
  have e1 := hdt x hk
  rw [hue] at e1
  have e2 := (hVN s hs).1
  rw [hVs] at e2
  have hb1 : Below w.heap.size w (w.alloc (.cells #[.int .i64 (s : Int), .int .i64 (x : Int)] 49)) := bel_box _
  have bx := heap_alloc_new w (.cells #[.int .i64 (s : Int), .int .i64 (x : Int)] 49)
  have g2 := (hM.below hb1).c2
  rw [hvN, hdN (by omega)] at g2
  have e1' := cellB hb1 (cellB hb e1)
  have e2' := cellB hb1 (cellB hb e2)
  have b0 := cell_of_row _ _ 0 _ _ _ bx
  have b1 := cell_of_row _ _ 1 _ _ _ bx
  have HB1 := Lib.hid hb1
  clear hb1 bx hdt hi hVs hVN hvN hdN hue e1 e2 hM hx hv hb had
  generalize tgN nx (s, x) = u at *
  go_enter Try.func56, Try.ntmps56
  go_upto_region 1 with (fail)
  generalize w.alloc (.cells #[.int .i64 (s : Int), .int .i64 (x : Int)] 49) = w1 at *
  generalize hz : w.heap.size = z at *
  have HZ := Lib.hid hz
  clear hz
  refine wp_region_quiet_lit (by kernel_rfl) (by kernel_rfl) ?_
  ((repeat (go_big_quiet_step (fail))); refine wpQuiet_nil ?_; rintro _ ⟨nq, rfl⟩)
  go_wp2
  go_ret
  exact ⟨rfl, by rw [HZ.out]; exact HB1.out.trans (below_draws _ _ _)⟩

/-- While two numbers of an array are set to 0. -/
structure IZ (A : Fa) (st : Nat → Nat → Nat) (F : Ar → Nat → Nat) (y : Ar) (s t : Nat) (W1 : World) (zb x : Nat) (S : Nat → Bool) (W : World) : Prop where
  ho : Only (fun q => q = A.ab y ∨ W1.heap.size ≤ q) W1 W
  bx : W.heap[zb]? = some (.cells #[.int .i64 (s : Int), .int .i64 (x : Int)] 49 (0, 0))
  fl : ∃ F', FlM A W st F' ∧ (∀ z, z ≠ y → F' z = F z) ∧ (∀ v, F y v = 0 → F' y v = 0) ∧ (S 14 = true → F' y s = 0) ∧ (S 16 = true → F' y t = 0)
section
variable {A : Fa} {B : Nat} {st : Nat → Nat → Nat} {F : Ar → Nat → Nat} {y : Ar} {s t : Nat} {W1 W W' : World} {zb x : Nat} {S S' : Nat → Bool}
theorem IZ.keep (h : IZ A st F y s t W1 zb x S W) (h1 : S' 14 = S 14) (h2 : S' 16 = S 16) : IZ A st F y s t W1 zb x S' W :=
  ⟨h.ho, h.bx, by rw [h1, h2]; exact h.fl⟩
theorem IZ.below (h : IZ A st F y s t W1 zb x S W) (hb : Below W.heap.size W W') : IZ A st F y s t W1 zb x S W' :=
  ⟨h.ho.trans (Only.of_below hb), (hb.block _ (Array.getElem?_eq_some_iff.1 h.bx).1).trans h.bx, by
    obtain ⟨F', h1, h2⟩ := h.fl
    exact ⟨F', h1.below hb, h2⟩⟩
theorem IZ.one (h : IZ A st F y s t W1 zb x S W) (hA : A.Ok B) (hz : zb ≠ A.ab y) (h2 : S' 16 = S 16) : IZ A st F y s t W1 zb x S' (W.setCell ⟨A.ab y, s, none⟩ (.int .i64 0)) := by
  have ho : Only (fun q => q = A.ab y) W (W.setCell ⟨A.ab y, s, none⟩ (.int .i64 0)) := Only.set _ _ _ rfl
  refine ⟨h.ho.trans (ho.mono fun q _ e => .inl e), (ho.block _ (Array.getElem?_eq_some_iff.1 h.bx).1 hz).trans h.bx, ?_⟩
  obtain ⟨F', k1, k2, k3, k4, k5⟩ := h.fl
  have hup : ∀ v, upF F' y s 0 y v = if v = s then 0 else F' y v := fun v => by rw [upF_same]; rfl
  refine ⟨upF F' y s 0, k1.put hA y s 0, fun z e => by rw [upF_ne _ _ _ e, k2 z e], fun v hv => ?_, fun _ => by rw [hup, if_pos rfl], fun e => ?_⟩
  · rw [hup]; split
    · rfl
    · exact k3 v hv
  · rw [hup]; split
    · rfl
    · exact k5 (h2 ▸ e)
theorem IZ.two (h : IZ A st F y s t W1 zb x S W) (hA : A.Ok B) (hz : zb ≠ A.ab y) (h2 : S' 14 = S 14) : IZ A st F y s t W1 zb x S' (W.setCell ⟨A.ab y, t, none⟩ (.int .i64 0)) := by
  have ho : Only (fun q => q = A.ab y) W (W.setCell ⟨A.ab y, t, none⟩ (.int .i64 0)) := Only.set _ _ _ rfl
  refine ⟨h.ho.trans (ho.mono fun q _ e => .inl e), (ho.block _ (Array.getElem?_eq_some_iff.1 h.bx).1 hz).trans h.bx, ?_⟩
  obtain ⟨F', k1, k2, k3, k4, k5⟩ := h.fl
  have hup : ∀ v, upF F' y t 0 y v = if v = t then 0 else F' y v := fun v => by rw [upF_same]; rfl
  refine ⟨upF F' y t 0, k1.put hA y t 0, fun z e => by rw [upF_ne _ _ _ e, k2 z e], fun v hv => ?_, fun e => ?_, fun _ => by rw [hup, if_pos rfl]⟩
  · rw [hup]; split
    · rfl
    · exact k3 v hv
  · rw [hup]; split
    · rfl
    · exact k4 (h2 ▸ e)
theorem IZ.cells (h : IZ A st F y s t W1 zb x S W) : W.cell? ⟨A.fb, 5, none⟩ = some (.slice (some ⟨A.ab .prt, 0, none⟩) A.n A.n) ∧ W.cell? ⟨A.fb, 6, none⟩ = some (.slice (some ⟨A.ab .idx, 0, none⟩) A.n A.n) ∧ W.cell? ⟨zb, 0, none⟩ = some (.int .i64 (s : Int)) ∧ W.cell? ⟨zb, 1, none⟩ = some (.int .i64 (x : Int)) := by
  obtain ⟨F', k1, -⟩ := h.fl
  exact ⟨k1.c5, k1.c6, cell_of_row _ _ 0 _ _ _ h.bx, cell_of_row _ _ 1 _ _ _ h.bx⟩
theorem IZ.put (h : IZ A st F y s t W1 zb x S W) {j : Nat} (hj : j < A.n) : (∃ v, W.cell? ⟨A.ab y, j, none⟩ = some v) ∧ W.frozen? ⟨A.ab y, j, none⟩ = false := by
  obtain ⟨F', k1, -⟩ := h.fl
  exact ⟨⟨_, k1.arr y hj⟩, (k1.a y).fz j⟩
end

/-- 'append' of a move to a row of one's own, in a region that draws its order. -/
theorem wp_app_mv {o : Oper} {a : Act} {K : Act → World → Prop} {Q : Exit → Act → World → Prop} (w : World) (s x : Operand) (y : Mv)
    (ho : o.op = .call { callee := .builtin .append, args := #[s, x], argTypes := #[61, 61] })
    (base : Nat) (v : Value) (l : List Mv) (hs : a.eval s = v) (hown : OM w base v l) (hx : a.eval x = .slice (some ⟨w.heap.size, 0, none⟩) 1 1)
    (hn : l.length < 8796093022207) (hbase : base ≤ w.heap.size)
    (h : ∀ v' w', OM w' base v' (l ++ [y]) → w.grownBy w' v.ownBlock → Moved w v v' → K (a.put o.dst v') w') :
    Oper.wp Try.prog o a (w.alloc (.cells #[.int .i64 (y.1 : Int), .int .i64 (y.2 : Int)] 49)).drew K Q := by
  obtain ⟨i0, hi0, hz0, hz1, hz2⟩ := info_parts info_mv
  refine wp_append_lies _ s x _ ho base _ i0 _ 2 16 Try.underlying61 hi0 hz0 hz1 hz2 rfl (by decide) v l.length _ hs ((World.ownsRow.alloc hown _).drew) ⟨w.heap.size, 0, none⟩ 1 1 (mvC y).toList hx rfl (World.news_of_block (cs := mvC y) (t := 49) (fr := (0, 0)) (heap_alloc_new w _)) (by intro u hu; simp [mvC] at hu; rcases hu with rfl | rfl <;> rfl) (by omega) (by simp only [maxLen]; omega) (by omega) (by simp; omega) (w.heap.size + 1) (by simp) ?_
  intro g cap w' h1 h2 h3 h4
  refine h _ _ (by unfold OM; rw [mvsC_app, mvsC_one, List.length_append, List.length_singleton]; exact h1) ⟨h2.os, h2.tape, h2.output, by have := h2.size; rw [drew_heap] at this; simp at this; omega, fun k hk hr => ?_⟩ (fun k hk => ?_)
  · rw [h2.block k (by rw [drew_heap]; simp; omega) hr]; exact heap_alloc_old w _ hk
  · obtain rfl : g = k := by simpa [Value.ownBlock] using hk
    rcases h3 with e | e
    · exact .inl e
    · exact .inr (by omega)
theorem info_mvs : (Try.prog.info? 61).map (fun i => (i.zero, i.size, i.bytes)) = some (some (.slice none 0 0), 1, 24) := by kernel_rfl
/-- 'append' of an empty row of moves. -/
theorem app_nilrow {ops : Array Oper} {rest : List Oper} {o : Oper} {a : Act} {Q : Exit → Act → World → Prop} {w : World} (hgd : o.guard = none) (s x : Operand)
    (ho : o.op = .call { callee := .builtin .append, args := #[s, x], argTypes := #[67, 67] })
    (base : Nat) (v : Value) (n : Nat) (vals : List Value) (hown : w.ownsRow base 61 1 v n vals) (hs : a.eval s = v) (m : Nat) (hm : m = w.heap.size) (hx : a.eval x = .slice (some ⟨m, 0, none⟩) 1 1)
    (hn : n < 5864062014000) (hbase : base ≤ w.heap.size)
    (h : ∀ v' w', w'.ownsRow base 61 1 v' (n + 1) (vals ++ [.slice none 0 0]) → w.grownBy w' v.ownBlock → Moved w v v' → wpList Try.prog ops Q rest (a.put o.dst v') w') :
    wpList Try.prog ops Q (o :: rest) a (w.alloc (.cells #[.slice none 0 0] 61)) :=
  wpList_app1 hgd s x _ _ 24 _ _ ho Try.underlying67 info_mvs rfl base v n _ hs hown m hm hx rfl (by omega) (by decide) hbase h

end Go.Proofs.Ytdkpdpcecjcmcaa

namespace Go.Proofs.Ytdkpdpcecjcmcaa
open Go.RowKit

/-- 'append' of one move, wherever it lies, in a region that draws its order. -/
theorem wp_app_mvs {o : Oper} {a : Act} {K : Act → World → Prop} {Q : Exit → Act → World → Prop} (w : World) (s x : Operand) (y : Mv)
    (ho : o.op = .call { callee := .builtin .append, args := #[s, x], argTypes := #[61, 61] })
    (base : Nat) (v : Value) (l : List Mv) (hs : a.eval s = v) (hown : OM w base v l) (u : Nat) (hx : a.eval x = .slice (some ⟨u, 0, none⟩) 1 1)
    (hnew : w.heap[u]? = some (.cells (mvC y) 49 (0, 0))) (hn : l.length < 8796093022207) (hbase : base ≤ w.heap.size)
    (h : ∀ v' w', OM w' base v' (l ++ [y]) → w.grownBy w' v.ownBlock → Moved w v v' → K (a.put o.dst v') w') : Oper.wp Try.prog o a w K Q := by
  obtain ⟨i0, hi0, hz0, hz1, hz2⟩ := info_parts info_mv
  have hnews : ∀ j u', (mvC y).toList[j]? = some u' → w.cell? ((⟨u, 0, none⟩ : Addr).add j) = some u' := fun j u' hu => by
    rw [show (⟨u, 0, none⟩ : Addr).add j = ⟨u, j, none⟩ by simp [Addr.add]; omega, cell_of_row w _ j _ _ _ hnew]
    simpa using hu
  have h1 : ∀ u ∈ (mvC y).toList, u.oneCell' = true := by intro u hu; simp [mvC] at hu; rcases hu with rfl | rfl <;> rfl
  obtain ⟨v', w', hr, h2, h3, h4⟩ := run_append_own (P := Try.prog) w base 61 o.type 49 i0 _ 2 16 Try.underlying61 hi0 hz0 hz1 hz2 rfl (by decide) v l.length (mvsC l) hown ⟨u, 0, none⟩ 1 1 (mvC y).toList rfl hnews h1 (by simp only [maxLen]; omega) (by omega) hbase
  have h5 := run_append_fresh (P := Try.prog) w base 61 o.type 49 i0 _ 2 16 Try.underlying61 hi0 hz0 hz1 hz2 v l.length (mvsC l) hown ⟨u, 0, none⟩ 1 1 (mvC y).toList rfl hnews h1 (by simp only [maxLen]; omega) (by omega) v' w' hr
  unfold Oper.wp execOp
  simp only [ho, resolve, invoke, builtin, Sem.run_bind, Sem.run_pure, Result.andThen_ok, List.map_toArray, List.map_cons, List.map_nil, hs, hx, hr]
  refine h v' w' ?_ h3 (fun g hg => (h5 g hg).imp id (fun e => by omega))
  unfold OM
  rw [mvsC_app, mvsC_one, List.length_append, List.length_singleton]
  exact h2

/-- A move is being appended to the row v, which lies in cell j of block gC (the operations 7: the new element, 8: the append, 10: the store). -/
structure JA (wc : World) (B gC j : Nat) (v : Value) (lj : List Mv) (y : Mv) (S : Nat → Bool) (vs : Nat → Value) (W : World) : Prop where
  p0 : S 8 = false → Below wc.heap.size wc W
  p1 : S 7 = true → S 8 = false → ∃ u, vs 7 = .slice (some ⟨u, 0, none⟩) 1 1 ∧ W.heap[u]? = some (.cells (mvC y) 49 (0, 0))
  p2 : S 8 = true → S 10 = false → OM W B (vs 8) (lj ++ [y]) ∧ wc.grownBy W v.ownBlock ∧ Moved wc v (vs 8)
  p3 : S 10 = true → ∃ w9, W = w9.setCell ⟨gC, j, none⟩ (vs 8) ∧ OM w9 B (vs 8) (lj ++ [y]) ∧ wc.grownBy w9 v.ownBlock ∧ Moved wc v (vs 8)
section
variable {wc W W' : World} {B gC j : Nat} {v : Value} {lj : List Mv} {y : Mv} {S : Nat → Bool} {vs : Nat → Value}
theorem JA.keep (h : JA wc B gC j v lj y S vs W) {i : Nat} {u : Value} (h7 : i ≠ 7) (h8 : i ≠ 8) (h10 : i ≠ 10) : JA wc B gC j v lj y (upS S i) (upd vs i u) W := by
  have e7 : upd vs i u 7 = vs 7 := if_neg (fun e => h7 e.symm)
  have e8 : upd vs i u 8 = vs 8 := if_neg (fun e => h8 e.symm)
  have s7 : upS S i 7 = S 7 := if_neg (fun e => h7 e.symm)
  have s8 : upS S i 8 = S 8 := if_neg (fun e => h8 e.symm)
  have s10 : upS S i 10 = S 10 := if_neg (fun e => h10 e.symm)
  exact ⟨by rw [s8]; exact h.p0, by rw [s7, s8, e7]; exact h.p1, by rw [s8, s10, e8]; exact h.p2, by rw [s10, e8]; exact h.p3⟩
theorem JA.elem (h : JA wc B gC j v lj y S vs W) (h8 : S 8 = false) (h10 : S 10 = false) : JA wc B gC j v lj y (upS S 7) (upd vs 7 (.slice (some ⟨W.heap.size, 0, none⟩) 1 1)) (W.alloc (.cells (mvC y) 49)) := by
  have s8 : upS S 7 8 = false := h8
  have s10 : upS S 7 10 = false := h10
  refine ⟨fun _ => (h.p0 h8).trans ((bel_box _).mono (h.p0 h8).size), fun _ _ => ⟨W.heap.size, rfl, heap_alloc_new _ _⟩, fun e => ?_, fun e => ?_⟩
  · rw [s8] at e; cases e
  · rw [s10] at e; cases e
theorem JA.app (h : JA wc B gC j v lj y S vs W) {v' : Value} (h8 : S 8 = false) (h10 : S 10 = false) (ho : OM W' B v' (lj ++ [y])) (hg : W.grownBy W' v.ownBlock) (hm : Moved W v v') : JA wc B gC j v lj y (upS S 8) (upd vs 8 v') W' := by
  have hb := h.p0 h8
  refine ⟨(fun e => by cases e), (fun _ e => by cases e), fun _ _ => ⟨ho, ⟨hg.os.trans hb.os, hg.tape.trans hb.tape, hg.output.trans hb.output, Nat.le_trans hb.size hg.size, fun k hk hr => ?_⟩, fun g e => (hm g e).imp id fun e => Nat.le_trans hb.size e⟩, fun e => ?_⟩
  · rw [hg.block k (Nat.lt_of_lt_of_le hk hb.size) hr]
    exact hb.block k hk
  · have s10 : upS S 8 10 = false := h10
    rw [s10] at e; cases e
theorem JA.store (h : JA wc B gC j v lj y S vs W) (h8 : S 8 = true) (h10 : S 10 = false) : JA wc B gC j v lj y (upS S 10) (upd vs 10 undef) (W.setCell ⟨gC, j, none⟩ (vs 8)) := by
  obtain ⟨a, b, c⟩ := h.p2 h8 h10
  have s8 : upS S 10 8 = true := h8
  refine ⟨fun e => ?_, fun _ e => ?_, (fun _ e => by cases e), fun _ => ⟨W, rfl, a, b, c⟩⟩
  · rw [s8] at e; cases e
  · rw [s8] at e; cases e
end

end Go.Proofs.Ytdkpdpcecjcmcaa
