/- What a flow's to computes; two numbers of an array set to 0. -/
import Derived.Test.YtdkpdpcecjcmcaaRd8
namespace Go.Proofs.Ytdkpdpcecjcmcaa
open Go.RowKit

set_option maxRecDepth 100000 in
set_option maxHeartbeats 4000000 in
theorem to_c (A : Fa) (w0 w : World) (nx : List (List Int)) (st : Nat → Nat → Nat) (F : Ar → Nat → Nat) (s x : Nat) (hb : Below w0.heap.size w0 w) (hv : IsRows w0 A.vN nx) (hx : NX A.n A.k nx) (hM : FlM A w st F) (hs : s < A.n) (hk : x < A.k) :
    Calls Try.prog 56 #[.pointer (some ⟨A.fb, 0, none⟩), .agg #[.int .i64 (s : Int), .int .i64 (x : Int)]] w (Calm (.int .i64 (tgN nx (s, x) : Int)) w) := by
  obtain ⟨aN, cN, bN, oN, V, hvN, hdN, hmN, hVN⟩ := hv.data
  rw [hx.ln] at hvN hdN hmN hVN
  obtain ⟨aR, cR, hVs⟩ := (hVN s hs).2.shape
  rw [hx.lr s hs] at hVs
  have hi := (hVN s hs).2
  rw [hVs] at hi
  obtain ⟨bR, oR, had, -, hdt⟩ := hi.dat
  obtain rfl := had (by omega)
  obtain ⟨hun, hue⟩ := hx.tg (m := (s, x)) hs hk
  have e1 := hdt x hk
  rw [hue] at e1
  have e2 := (hVN s hs).1
  rw [hVs] at e2
  have hb1 : Below w.heap.size w (w.alloc (.cells #[.int .i64 (s : Int), .int .i64 (x : Int)] 49)) := bel_box _
  have bx := heap_alloc_new w (.cells #[.int .i64 (s : Int), .int .i64 (x : Int)] 49)
  have g2 := (hM.below hb1).c2
  rw [hvN, hdN (by omega)] at g2
  have e1' := cellB hb1 (cellB hb e1)
  have e2' := cellB hb1 (cellB hb e2)
  have b0 := cell_of_row _ _ 0 _ _ _ bx
  have b1 := cell_of_row _ _ 1 _ _ _ bx
  have HB1 := Lib.hid hb1
  clear hb1 bx hdt hi hVs hVN hvN hdN hue e1 e2 hM hx hv hb had
  generalize tgN nx (s, x) = u at *
  go_enter Try.func56, Try.ntmps56
  go_upto_region 1 with (fail)
  generalize w.alloc (.cells #[.int .i64 (s : Int), .int .i64 (x : Int)] 49) = w1 at *
  generalize hz : w.heap.size = z at *
  have HZ := Lib.hid hz
  clear hz
  refine wp_region_quiet_lit (by kernel_rfl) (by kernel_rfl) ?_
  ((repeat (go_big_quiet_step (fail))); refine wpQuiet_nil ?_; rintro _ ⟨nq, rfl⟩)
  go_wp2
  go_ret
  exact ⟨rfl, by rw [HZ.out]; exact HB1.out.trans (below_draws _ _ _)⟩

/-- While two numbers of an array are set to 0. -/
structure IZ (A : Fa) (st : Nat → Nat → Nat) (F : Ar → Nat → Nat) (y : Ar) (s t : Nat) (W1 : World) (zb x : Nat) (S : Nat → Bool) (W : World) : Prop where
  ho : Only (fun q => q = A.ab y ∨ W1.heap.size ≤ q) W1 W
  bx : W.heap[zb]? = some (.cells #[.int .i64 (s : Int), .int .i64 (x : Int)] 49 (0, 0))
  fl : ∃ F', FlM A W st F' ∧ (∀ z, z ≠ y → F' z = F z) ∧ (∀ v, F y v = 0 → F' y v = 0) ∧ (S 14 = true → F' y s = 0) ∧ (S 16 = true → F' y t = 0)
section
variable {A : Fa} {B : Nat} {st : Nat → Nat → Nat} {F : Ar → Nat → Nat} {y : Ar} {s t : Nat} {W1 W W' : World} {zb x : Nat} {S S' : Nat → Bool}
theorem IZ.keep (h : IZ A st F y s t W1 zb x S W) (h1 : S' 14 = S 14) (h2 : S' 16 = S 16) : IZ A st F y s t W1 zb x S' W :=
  ⟨h.ho, h.bx, by rw [h1, h2]; exact h.fl⟩
theorem IZ.below (h : IZ A st F y s t W1 zb x S W) (hb : Below W.heap.size W W') : IZ A st F y s t W1 zb x S W' :=
  ⟨h.ho.trans (Only.of_below hb), (hb.block _ (Array.getElem?_eq_some_iff.1 h.bx).1).trans h.bx, by
    obtain ⟨F', h1, h2⟩ := h.fl
    exact ⟨F', h1.below hb, h2⟩⟩
theorem IZ.one (h : IZ A st F y s t W1 zb x S W) (hA : A.Ok B) (hz : zb ≠ A.ab y) (h2 : S' 16 = S 16) : IZ A st F y s t W1 zb x S' (W.setCell ⟨A.ab y, s, none⟩ (.int .i64 0)) := by
  have ho : Only (fun q => q = A.ab y) W (W.setCell ⟨A.ab y, s, none⟩ (.int .i64 0)) := Only.set _ _ _ rfl
  refine ⟨h.ho.trans (ho.mono fun q _ e => .inl e), (ho.block _ (Array.getElem?_eq_some_iff.1 h.bx).1 hz).trans h.bx, ?_⟩
  obtain ⟨F', k1, k2, k3, k4, k5⟩ := h.fl
  have hup : ∀ v, upF F' y s 0 y v = if v = s then 0 else F' y v := fun v => by rw [upF_same]; rfl
  refine ⟨upF F' y s 0, k1.put hA y s 0, fun z e => by rw [upF_ne _ _ _ e, k2 z e], fun v hv => ?_, fun _ => by rw [hup, if_pos rfl], fun e => ?_⟩
  · rw [hup]; split
    · rfl
    · exact k3 v hv
  · rw [hup]; split
    · rfl
    · exact k5 (h2 ▸ e)
theorem IZ.two (h : IZ A st F y s t W1 zb x S W) (hA : A.Ok B) (hz : zb ≠ A.ab y) (h2 : S' 14 = S 14) : IZ A st F y s t W1 zb x S' (W.setCell ⟨A.ab y, t, none⟩ (.int .i64 0)) := by
  have ho : Only (fun q => q = A.ab y) W (W.setCell ⟨A.ab y, t, none⟩ (.int .i64 0)) := Only.set _ _ _ rfl
  refine ⟨h.ho.trans (ho.mono fun q _ e => .inl e), (ho.block _ (Array.getElem?_eq_some_iff.1 h.bx).1 hz).trans h.bx, ?_⟩
  obtain ⟨F', k1, k2, k3, k4, k5⟩ := h.fl
  have hup : ∀ v, upF F' y t 0 y v = if v = t then 0 else F' y v := fun v => by rw [upF_same]; rfl
  refine ⟨upF F' y t 0, k1.put hA y t 0, fun z e => by rw [upF_ne _ _ _ e, k2 z e], fun v hv => ?_, fun e => ?_, fun _ => by rw [hup, if_pos rfl]⟩
  · rw [hup]; split
    · rfl
    · exact k3 v hv
  · rw [hup]; split
    · rfl
    · exact k4 (h2 ▸ e)
theorem IZ.cells (h : IZ A st F y s t W1 zb x S W) : W.cell? ⟨A.fb, 5, none⟩ = some (.slice (some ⟨A.ab .prt, 0, none⟩) A.n A.n) ∧ W.cell? ⟨A.fb, 6, none⟩ = some (.slice (some ⟨A.ab .idx, 0, none⟩) A.n A.n) ∧ W.cell? ⟨zb, 0, none⟩ = some (.int .i64 (s : Int)) ∧ W.cell? ⟨zb, 1, none⟩ = some (.int .i64 (x : Int)) := by
  obtain ⟨F', k1, -⟩ := h.fl
  exact ⟨k1.c5, k1.c6, cell_of_row _ _ 0 _ _ _ h.bx, cell_of_row _ _ 1 _ _ _ h.bx⟩
theorem IZ.put (h : IZ A st F y s t W1 zb x S W) {j : Nat} (hj : j < A.n) : (∃ v, W.cell? ⟨A.ab y, j, none⟩ = some v) ∧ W.frozen? ⟨A.ab y, j, none⟩ = false := by
  obtain ⟨F', k1, -⟩ := h.fl
  exact ⟨⟨_, k1.arr y hj⟩, (k1.a y).fz j⟩
end

/-- 'append' of a move to a row of one's own, in a region that draws its order. -/
theorem wp_app_mv {o : Oper} {a : Act} {K : Act → World → Prop} {Q : Exit → Act → World → Prop} (w : World) (s x : Operand) (y : Mv)
    (ho : o.op = .call { callee := .builtin .append, args := #[s, x], argTypes := #[61, 61] })
    (base : Nat) (v : Value) (l : List Mv) (hs : a.eval s = v) (hown : OM w base v l) (hx : a.eval x = .slice (some ⟨w.heap.size, 0, none⟩) 1 1)
    (hn : l.length < 8796093022207) (hbase : base ≤ w.heap.size)
    (h : ∀ v' w', OM w' base v' (l ++ [y]) → w.grownBy w' v.ownBlock → Moved w v v' → K (a.put o.dst v') w') :
    Oper.wp Try.prog o a (w.alloc (.cells #[.int .i64 (y.1 : Int), .int .i64 (y.2 : Int)] 49)).drew K Q := by
  obtain ⟨i0, hi0, hz0, hz1, hz2⟩ := info_parts info_mv
  refine wp_append_lies _ s x _ ho base _ i0 _ 2 16 Try.underlying61 hi0 hz0 hz1 hz2 rfl (by decide) v l.length _ hs ((World.ownsRow.alloc hown _).drew) ⟨w.heap.size, 0, none⟩ 1 1 (mvC y).toList hx rfl (World.news_of_block (cs := mvC y) (t := 49) (fr := (0, 0)) (heap_alloc_new w _)) (by intro u hu; simp [mvC] at hu; rcases hu with rfl | rfl <;> rfl) (by omega) (by simp only [maxLen]; omega) (by omega) (by simp; omega) (w.heap.size + 1) (by simp) ?_
  intro g cap w' h1 h2 h3 h4
  refine h _ _ (by unfold OM; rw [mvsC_app, mvsC_one, List.length_append, List.length_singleton]; exact h1) ⟨h2.os, h2.tape, h2.output, by have := h2.size; rw [drew_heap] at this; simp at this; omega, fun k hk hr => ?_⟩ (fun k hk => ?_)
  · rw [h2.block k (by rw [drew_heap]; simp; omega) hr]; exact heap_alloc_old w _ hk
  · obtain rfl : g = k := by simpa [Value.ownBlock] using hk
    rcases h3 with e | e
    · exact .inl e
    · exact .inr (by omega)
theorem info_mvs : (Try.prog.info? 61).map (fun i => (i.zero, i.size, i.bytes)) = some (some (.slice none 0 0), 1, 24) := by kernel_rfl
/-- 'append' of an empty row of moves. -/
theorem app_nilrow {ops : Array Oper} {rest : List Oper} {o : Oper} {a : Act} {Q : Exit → Act → World → Prop} {w : World} (hgd : o.guard = none) (s x : Operand)
    (ho : o.op = .call { callee := .builtin .append, args := #[s, x], argTypes := #[67, 67] })
    (base : Nat) (v : Value) (n : Nat) (vals : List Value) (hown : w.ownsRow base 61 1 v n vals) (hs : a.eval s = v) (m : Nat) (hm : m = w.heap.size) (hx : a.eval x = .slice (some ⟨m, 0, none⟩) 1 1)
    (hn : n < 5864062014000) (hbase : base ≤ w.heap.size)
    (h : ∀ v' w', w'.ownsRow base 61 1 v' (n + 1) (vals ++ [.slice none 0 0]) → w.grownBy w' v.ownBlock → Moved w v v' → wpList Try.prog ops Q rest (a.put o.dst v') w') :
    wpList Try.prog ops Q (o :: rest) a (w.alloc (.cells #[.slice none 0 0] 61)) :=
  wpList_app1 hgd s x _ _ 24 _ _ ho Try.underlying67 info_mvs rfl base v n _ hs hown m hm hx rfl (by omega) (by decide) hbase h

end Go.Proofs.Ytdkpdpcecjcmcaa
