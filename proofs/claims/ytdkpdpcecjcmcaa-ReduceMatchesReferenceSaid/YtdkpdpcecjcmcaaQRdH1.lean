/- The fixed examples of chapter 19: what the program makes of them (plain), and Example. -/
import Derived.Test.YtdkpdpcecjcmcaaQRd29
import Derived.Test.YtdkpdpcecjcmcaaQRd28
namespace Go.Proofs.Ytdkpdpcecjcmcaa
open Go.RowKit

theorem ints_lit {w : World} {g : Nat} (l : List Int) (h : w.heap[g]? = some (.cells (l.map (Value.int .i64)).toArray 3 (0, 0))) (hn : l.length ≤ 3000) (hI : ∀ x ∈ l, I64 x) : IsInts w (.slice (some ⟨g, 0, none⟩) l.length l.length) l := by
  refine ⟨⟨_, _, g, 0, rfl, Nat.le_refl _, by simp only [maxLen]; omega, by simp only [maxN]; omega, (fun h => by cases h), fun _ => rfl, fun j hj => ?_⟩, hI⟩
  rw [Nat.zero_add, cell_of_row w g j _ _ _ h]
  simp [ivF, List.getD, hj]
theorem rows_lit {w : World} {g : Nat} (ll : List (List Int)) (vals : List Value) (h : w.heap[g]? = some (.cells vals.toArray 29 (0, 0))) (hl : vals.length = ll.length) (hn : ll.length ≤ 3000) (hr : ∀ j, j < ll.length → IsInts w (vals.getD j undef) (ll.getD j [])) : IsRows w (.slice (some ⟨g, 0, none⟩) ll.length ll.length) ll := by
  refine ⟨fun j => vals.getD j undef, ⟨_, _, g, 0, rfl, Nat.le_refl _, by simp only [maxLen]; omega, by simp only [maxN]; omega, (fun h => by cases h), fun _ => rfl, fun j hj => ?_⟩, hr⟩
  rw [Nat.zero_add, cell_of_row w g j _ _ _ h]
  simp [List.getD, show j < vals.length by omega]
/-- A box in new memory. -/
theorem box_new {w0 w : World} {B : Nat} (hb : Below B w0 w) (hB : B ≤ w.heap.size) (cs : Array Value) (t : TypeId) : (w.alloc (.cells cs t)).heap[w.heap.size]? = some (.cells cs t (0, 0)) ∧ Below w.heap.size w (w.alloc (.cells cs t)) ∧ Below B w0 (w.alloc (.cells cs t)) :=
  ⟨heap_alloc_new _ _, bel_box _, hb.trans ((bel_box _).mono hB)⟩
theorem IsAuto.shape {w : World} {v : Value} {a : Au} (h : IsAuto w v a) : ∃ p2 k2 p3 k3, v = .agg #[.int .i64 a.letters, .int .i64 a.start, .slice p2 a.next.length k2, .slice p3 a.prio.length k3] := by
  obtain ⟨v2, v3, rfl, -, ⟨V2, ⟨a2, s2, -, -, rfl, -⟩, -⟩, ⟨V3, ⟨a3, s3, -, -, rfl, -⟩, -⟩⟩ := h
  exact ⟨_, _, _, _, rfl⟩

/-- The example of the chapter. -/
def exA : Au := ⟨2, 0, [[1, 2], [0, 1], [1, 2], [0, 3]], [[4, 7], [6, 5], [4, 7], [3, 3]]⟩
def exT : Au := ⟨2, 0, [[1, 2], [0, 1], [1, 2]], [[4, 7], [6, 5], [4, 7]]⟩
def exM : Au := ⟨2, 0, [[1, 0], [0, 1]], [[4, 7], [6, 5]]⟩
def exQ : Au := ⟨2, 0, [[1, 0], [0, 1]], [[0, 1], [0, 1]]⟩
def exR : Au := ⟨2, 0, [[0, 0]], [[0, 1]]⟩
def ex1 : Au := ⟨1, 0, [[0]], [[7]]⟩
def ex2 : Au := ⟨1, 0, [[1], [0]], [[4], [6]]⟩
theorem ex_trim : trimF exA = exT := by decide +kernel
theorem ex_merge : mergeF exT = exM := by decide +kernel
theorem ex_none : trimF noAu = noAu := by decide +kernel

section
variable {tg : Mv → Nat} {pr : Mv → Int} {S : Mv → Prop} {m : Mv}
theorem loop_on (h : S m) (e : tg m = m.1) : OnC tg S m := ⟨h, by rw [e]; exact Rch.refl _⟩
end
theorem ex_one : priosF ex1 = ⟨1, 0, [[0]], [[1]]⟩ := by
  have hS : ∀ m : Mv, AllM ex1.letters.toNat ex1 m ↔ m = (0, 0) := fun m => by
    show (m.1 < 1 ∧ m.2 < 1) ↔ _
    rw [Prod.ext_iff]; omega
  have h0 : valF ex1 (0, 0) = 1 := by
    refine valF_eq ?_
    have hon : OnC (tgN ex1.next) (AllM ex1.letters.toNat ex1) (0, 0) := loop_on ((hS _).2 rfl) rfl
    have := Val.least (pr := prA ex1) (b := 0) hon ⟨⟨(0, 0), hon.self, rfl⟩, fun x hx => by rw [(hS x).1 hx.1]; exact Int.le_refl _⟩
    exact this
  have hv : validA ex1 = true := by decide +kernel
  unfold priosF
  rw [if_pos hv]
  show (⟨1, 0, [[0]], [[valF ex1 (0, 0)]]⟩ : Au) = _
  rw [h0]
theorem ex_two : priosF ex2 = ⟨1, 0, [[1], [0]], [[0], [0]]⟩ := by
  have hS : ∀ m : Mv, AllM ex2.letters.toNat ex2 m ↔ m = (0, 0) ∨ m = (1, 0) := fun m => by
    show (m.1 < 2 ∧ m.2 < 1) ↔ _
    rw [Prod.ext_iff, Prod.ext_iff]
    show _ ↔ (m.1 = 0 ∧ m.2 = 0) ∨ (m.1 = 1 ∧ m.2 = 0)
    omega
  have s0 : AllM ex2.letters.toNat ex2 (0, 0) := (hS _).2 (.inl rfl)
  have s1 : AllM ex2.letters.toNat ex2 (1, 0) := (hS _).2 (.inr rfl)
  have e0 : Rch (EdS (tgN ex2.next) (AllM ex2.letters.toNat ex2)) 0 1 := Rch.one ⟨(0, 0), s0, rfl, rfl⟩
  have e1 : Rch (EdS (tgN ex2.next) (AllM ex2.letters.toNat ex2)) 1 0 := Rch.one ⟨(1, 0), s1, rfl, rfl⟩
  have o0 : OnC (tgN ex2.next) (AllM ex2.letters.toNat ex2) (0, 0) := ⟨s0, e1⟩
  have o1 : OnC (tgN ex2.next) (AllM ex2.letters.toNat ex2) (1, 0) := ⟨s1, e0⟩
  have hle : ∀ x, AllM ex2.letters.toNat ex2 x → 4 ≤ prA ex2 x := fun x hx => by
    rcases (hS x).1 hx with rfl | rfl <;> decide
  have l0 : LeastC (tgN ex2.next) (prA ex2) (AllM ex2.letters.toNat ex2) (0, 0) 4 := ⟨⟨(0, 0), o0.self, rfl⟩, fun x hx => hle x hx.1⟩
  have l1 : LeastC (tgN ex2.next) (prA ex2) (AllM ex2.letters.toNat ex2) (1, 0) 4 := ⟨⟨(0, 0), ⟨s0, e1, Rch.refl _⟩, rfl⟩, fun x hx => hle x hx.1⟩
  have h0 : valF ex2 (0, 0) = 0 := valF_eq (Val.least (pr := prA ex2) (b := 0) o0 l0)
  have h1 : valF ex2 (1, 0) = 0 := by
    refine valF_eq (Val.rest o1 l1 (by decide) ?_)
    have hR : ∀ x, RestC (tgN ex2.next) (prA ex2) (AllM ex2.letters.toNat ex2) (1, 0) 4 x → x = (1, 0) := fun x hx => by
      rcases (hS x).1 hx.1.1 with rfl | rfl
      · exact absurd hx.2 (by decide)
      · rfl
    refine Val.out ⟨o1.self, by decide⟩ fun h => ?_
    have := Rch.closed (A := fun y => y = 0) (fun x y hx he => by
      obtain ⟨m, hm, e, -⟩ := he
      rw [hR m hm] at e
      have e : 1 = x := e
      omega) h.2 rfl
    exact absurd this (by decide)
  have hv : validA ex2 = true := by decide +kernel
  unfold priosF
  rw [if_pos hv]
  show (⟨1, 0, [[1], [0]], [[valF ex2 (0, 0)], [valF ex2 (1, 0)]]⟩ : Au) = _
  rw [h0, h1]
theorem ex_prios : priosF exM = exQ := by
  have hS : ∀ m : Mv, AllM exM.letters.toNat exM m ↔ m = (0, 0) ∨ m = (0, 1) ∨ m = (1, 0) ∨ m = (1, 1) := fun m => by
    show (m.1 < 2 ∧ m.2 < 2) ↔ _
    simp only [Prod.ext_iff]
    omega
  have s0 : AllM exM.letters.toNat exM (0, 0) := (hS _).2 (.inl rfl)
  have s2 : AllM exM.letters.toNat exM (1, 0) := (hS _).2 (.inr (.inr (.inl rfl)))
  have e0 : Rch (EdS (tgN exM.next) (AllM exM.letters.toNat exM)) 0 1 := Rch.one ⟨(0, 0), s0, rfl, rfl⟩
  have e1 : Rch (EdS (tgN exM.next) (AllM exM.letters.toNat exM)) 1 0 := Rch.one ⟨(1, 0), s2, rfl, rfl⟩
  have hW : ∀ u v, u < 2 → v < 2 → Rch (EdS (tgN exM.next) (AllM exM.letters.toNat exM)) u v := fun u v hu hv => by
    match u, v, hu, hv with
    | 0, 0, _, _ => exact Rch.refl _
    | 0, 1, _, _ => exact e0
    | 1, 0, _, _ => exact e1
    | 1, 1, _, _ => exact Rch.refl _
    | u + 2, _, h, _ => exact absurd h (by omega)
    | _, v + 2, _, h => exact absurd h (by omega)
  have ht : ∀ m, AllM exM.letters.toNat exM m → m.1 < 2 ∧ tgN exM.next m < 2 := fun m hm => by
    rcases (hS m).1 hm with rfl | rfl | rfl | rfl <;> exact ⟨by decide, by decide⟩
  have hI : ∀ m x, AllM exM.letters.toNat exM m → AllM exM.letters.toNat exM x → InC (tgN exM.next) (AllM exM.letters.toNat exM) m x := fun m x hm hx => ⟨hx, hW _ _ (ht m hm).1 (ht x hx).1, hW _ _ (ht x hx).2 (ht m hm).1⟩
  have ho : ∀ m, AllM exM.letters.toNat exM m → OnC (tgN exM.next) (AllM exM.letters.toNat exM) m := fun m hm => ⟨hm, hW _ _ (ht m hm).2 (ht m hm).1⟩
  have hle : ∀ x, AllM exM.letters.toNat exM x → 4 ≤ prA exM x := fun x hx => by
    rcases (hS x).1 hx with rfl | rfl | rfl | rfl <;> decide
  have hl : ∀ m, AllM exM.letters.toNat exM m → LeastC (tgN exM.next) (prA exM) (AllM exM.letters.toNat exM) m 4 := fun m hm => ⟨⟨(0, 0), hI m _ hm s0, rfl⟩, fun x hx => hle x hx.1⟩
  have hR : ∀ m x, AllM exM.letters.toNat exM m → (RestC (tgN exM.next) (prA exM) (AllM exM.letters.toNat exM) m 4 x ↔ x = (0, 1) ∨ x = (1, 0) ∨ x = (1, 1)) := fun m x hm => by
    constructor
    · intro hx
      rcases (hS x).1 hx.1.1 with rfl | rfl | rfl | rfl
      · exact absurd hx.2 (by decide)
      · exact .inl rfl
      · exact .inr (.inl rfl)
      · exact .inr (.inr rfl)
    · intro hx
      have h1 : AllM exM.letters.toNat exM x := (hS x).2 (.inr hx)
      refine ⟨hI m x hm h1, ?_⟩
      rcases hx with rfl | rfl | rfl <;> decide
  have hRn : ∀ {S : Mv → Prop}, (∀ x, S x → x = (0, 1) ∨ x = (1, 0) ∨ x = (1, 1)) → ¬ Rch (EdS (tgN exM.next) S) 0 1 := fun hS2 h => by
    have := Rch.closed (A := fun y => y = 0) (fun x y hx he => by
      obtain ⟨m, hm, e, f⟩ := he
      subst hx
      rcases hS2 m hm with rfl | rfl | rfl
      · exact f.symm
      · exact absurd e (by decide)
      · exact absurd e (by decide)) h rfl
    exact absurd this (by decide)
  have h00 : valF exM (0, 0) = 0 := valF_eq (Val.least (pr := prA exM) (b := 0) (ho _ s0) (hl _ s0))
  have t1 : AllM exM.letters.toNat exM (0, 1) := (hS _).2 (.inr (.inl rfl))
  have t3 : AllM exM.letters.toNat exM (1, 1) := (hS _).2 (.inr (.inr (.inr rfl)))
  have h01 : valF exM (0, 1) = 1 := by
    refine valF_eq (Val.rest (ho _ t1) (hl _ t1) (by decide) ?_)
    have hr := fun x => hR (0, 1) x t1
    have hon : OnC (tgN exM.next) (RestC (tgN exM.next) (prA exM) (AllM exM.letters.toNat exM) (0, 1) 4) (0, 1) := loop_on ((hr _).2 (.inl rfl)) rfl
    refine Val.least (pr := prA exM) (b := qB 0 4) hon ⟨⟨(0, 1), hon.self, rfl⟩, fun x hx => ?_⟩
    rcases (hr x).1 hx.1 with rfl | rfl | rfl
    · exact Int.le_refl _
    · exact absurd hx.2.1 (hRn fun x => (hr x).1)
    · exact absurd hx.2.1 (hRn fun x => (hr x).1)
  have h10 : valF exM (1, 0) = 0 := by
    refine valF_eq (Val.rest (ho _ s2) (hl _ s2) (by decide) ?_)
    have hr := fun x => hR (1, 0) x s2
    exact Val.out ((hr _).2 (.inr (.inl rfl))) fun h => hRn (fun x => (hr x).1) h.2
  have h11 : valF exM (1, 1) = 1 := by
    refine valF_eq (Val.rest (ho _ t3) (hl _ t3) (by decide) ?_)
    have hr := fun x => hR (1, 1) x t3
    have hon : OnC (tgN exM.next) (RestC (tgN exM.next) (prA exM) (AllM exM.letters.toNat exM) (1, 1) 4) (1, 1) := loop_on ((hr _).2 (.inr (.inr rfl))) rfl
    refine Val.least (pr := prA exM) (b := qB 0 4) hon ⟨⟨(1, 1), hon.self, rfl⟩, fun x hx => ?_⟩
    rcases (hr x).1 hx.1 with rfl | rfl | rfl
    · exact absurd hx.2.2 (hRn fun x => (hr x).1)
    · exact absurd hx.2.2 (hRn fun x => (hr x).1)
    · exact Int.le_refl _
  have hv : validA exM = true := by decide +kernel
  unfold priosF
  rw [if_pos hv]
  show (⟨2, 0, [[1, 0], [0, 1]], [[valF exM (0, 0), valF exM (0, 1)], [valF exM (1, 0), valF exM (1, 1)]]⟩ : Au) = _
  rw [h00, h01, h10, h11]; rfl
theorem ex_reduce : reduceF exA = exR := by
  unfold reduceF
  rw [ex_trim, ex_merge, ex_prios]
  decide +kernel

def ExOut (w : World) (e : Ending) (w' : World) : Prop := ∃ v', e = .returned v' ∧ IsAuto w' v' exA ∧ Below w.heap.size w w'
set_option maxRecDepth 100000 in
set_option maxHeartbeats 4000000 in
theorem Example_c (w : World) : Calls Try.prog 32 #[] w (ExOut w) := by
  go_enter Try.func32, Try.ntmps32
  go_wp2_with fail
  have hb : Below w.heap.size w (((((((((((w.alloc (.cells #[.int .i64 2, .int .i64 0, .slice (some ⟨w.heap.size + 1 + 1 + 1 + 1 + 1, 0, none⟩) 4 4, .slice (some ⟨w.heap.size + 1 + 1 + 1 + 1 + 1 + 1 + 1 + 1 + 1 + 1, 0, none⟩) 4 4] 24)).alloc (.cells #[.int .i64 1, .int .i64 2] 3)).alloc (.cells #[.int .i64 0, .int .i64 1] 3)).alloc (.cells #[.int .i64 1, .int .i64 2] 3)).alloc (.cells #[.int .i64 0, .int .i64 3] 3)).alloc (.cells #[.slice (some ⟨w.heap.size + 1, 0, none⟩) 2 2, .slice (some ⟨w.heap.size + 1 + 1, 0, none⟩) 2 2, .slice (some ⟨w.heap.size + 1 + 1 + 1, 0, none⟩) 2 2, .slice (some ⟨w.heap.size + 1 + 1 + 1 + 1, 0, none⟩) 2 2] 29)).alloc (.cells #[.int .i64 4, .int .i64 7] 3)).alloc (.cells #[.int .i64 6, .int .i64 5] 3)).alloc (.cells #[.int .i64 4, .int .i64 7] 3)).alloc (.cells #[.int .i64 3, .int .i64 3] 3)).alloc (.cells #[.slice (some ⟨w.heap.size + 1 + 1 + 1 + 1 + 1 + 1, 0, none⟩) 2 2, .slice (some ⟨w.heap.size + 1 + 1 + 1 + 1 + 1 + 1 + 1, 0, none⟩) 2 2, .slice (some ⟨w.heap.size + 1 + 1 + 1 + 1 + 1 + 1 + 1 + 1, 0, none⟩) 2 2, .slice (some ⟨w.heap.size + 1 + 1 + 1 + 1 + 1 + 1 + 1 + 1 + 1, 0, none⟩) 2 2] 29)) := (by repeat (first | exact Below.refl _ _ | assumption | (refine belA ?_ _) | (refine belD ?_ _)))
  have y0 : (((((((((((w.alloc (.cells #[.int .i64 2, .int .i64 0, .slice (some ⟨w.heap.size + 1 + 1 + 1 + 1 + 1, 0, none⟩) 4 4, .slice (some ⟨w.heap.size + 1 + 1 + 1 + 1 + 1 + 1 + 1 + 1 + 1 + 1, 0, none⟩) 4 4] 24)).alloc (.cells #[.int .i64 1, .int .i64 2] 3)).alloc (.cells #[.int .i64 0, .int .i64 1] 3)).alloc (.cells #[.int .i64 1, .int .i64 2] 3)).alloc (.cells #[.int .i64 0, .int .i64 3] 3)).alloc (.cells #[.slice (some ⟨w.heap.size + 1, 0, none⟩) 2 2, .slice (some ⟨w.heap.size + 1 + 1, 0, none⟩) 2 2, .slice (some ⟨w.heap.size + 1 + 1 + 1, 0, none⟩) 2 2, .slice (some ⟨w.heap.size + 1 + 1 + 1 + 1, 0, none⟩) 2 2] 29)).alloc (.cells #[.int .i64 4, .int .i64 7] 3)).alloc (.cells #[.int .i64 6, .int .i64 5] 3)).alloc (.cells #[.int .i64 4, .int .i64 7] 3)).alloc (.cells #[.int .i64 3, .int .i64 3] 3)).alloc (.cells #[.slice (some ⟨w.heap.size + 1 + 1 + 1 + 1 + 1 + 1, 0, none⟩) 2 2, .slice (some ⟨w.heap.size + 1 + 1 + 1 + 1 + 1 + 1 + 1, 0, none⟩) 2 2, .slice (some ⟨w.heap.size + 1 + 1 + 1 + 1 + 1 + 1 + 1 + 1, 0, none⟩) 2 2, .slice (some ⟨w.heap.size + 1 + 1 + 1 + 1 + 1 + 1 + 1 + 1 + 1, 0, none⟩) 2 2] 29)).heap[w.heap.size]? = some (.cells #[.int .i64 2, .int .i64 0, .slice (some ⟨w.heap.size + 1 + 1 + 1 + 1 + 1, 0, none⟩) 4 4, .slice (some ⟨w.heap.size + 1 + 1 + 1 + 1 + 1 + 1 + 1 + 1 + 1 + 1, 0, none⟩) 4 4] 24 (0, 0)) := (by (repeat (rw [alloc_get]; first | rw [if_pos (by first | (simp; done) | (simp; omega))] | rw [if_neg (by first | (simp; done) | (simp; omega))])); (try rfl))
  have y1 : (((((((((((w.alloc (.cells #[.int .i64 2, .int .i64 0, .slice (some ⟨w.heap.size + 1 + 1 + 1 + 1 + 1, 0, none⟩) 4 4, .slice (some ⟨w.heap.size + 1 + 1 + 1 + 1 + 1 + 1 + 1 + 1 + 1 + 1, 0, none⟩) 4 4] 24)).alloc (.cells #[.int .i64 1, .int .i64 2] 3)).alloc (.cells #[.int .i64 0, .int .i64 1] 3)).alloc (.cells #[.int .i64 1, .int .i64 2] 3)).alloc (.cells #[.int .i64 0, .int .i64 3] 3)).alloc (.cells #[.slice (some ⟨w.heap.size + 1, 0, none⟩) 2 2, .slice (some ⟨w.heap.size + 1 + 1, 0, none⟩) 2 2, .slice (some ⟨w.heap.size + 1 + 1 + 1, 0, none⟩) 2 2, .slice (some ⟨w.heap.size + 1 + 1 + 1 + 1, 0, none⟩) 2 2] 29)).alloc (.cells #[.int .i64 4, .int .i64 7] 3)).alloc (.cells #[.int .i64 6, .int .i64 5] 3)).alloc (.cells #[.int .i64 4, .int .i64 7] 3)).alloc (.cells #[.int .i64 3, .int .i64 3] 3)).alloc (.cells #[.slice (some ⟨w.heap.size + 1 + 1 + 1 + 1 + 1 + 1, 0, none⟩) 2 2, .slice (some ⟨w.heap.size + 1 + 1 + 1 + 1 + 1 + 1 + 1, 0, none⟩) 2 2, .slice (some ⟨w.heap.size + 1 + 1 + 1 + 1 + 1 + 1 + 1 + 1, 0, none⟩) 2 2, .slice (some ⟨w.heap.size + 1 + 1 + 1 + 1 + 1 + 1 + 1 + 1 + 1, 0, none⟩) 2 2] 29)).heap[w.heap.size + 1]? = some (.cells #[.int .i64 1, .int .i64 2] 3 (0, 0)) := (by (repeat (rw [alloc_get]; first | rw [if_pos (by first | (simp; done) | (simp; omega))] | rw [if_neg (by first | (simp; done) | (simp; omega))])); (try rfl))
  have y2 : (((((((((((w.alloc (.cells #[.int .i64 2, .int .i64 0, .slice (some ⟨w.heap.size + 1 + 1 + 1 + 1 + 1, 0, none⟩) 4 4, .slice (some ⟨w.heap.size + 1 + 1 + 1 + 1 + 1 + 1 + 1 + 1 + 1 + 1, 0, none⟩) 4 4] 24)).alloc (.cells #[.int .i64 1, .int .i64 2] 3)).alloc (.cells #[.int .i64 0, .int .i64 1] 3)).alloc (.cells #[.int .i64 1, .int .i64 2] 3)).alloc (.cells #[.int .i64 0, .int .i64 3] 3)).alloc (.cells #[.slice (some ⟨w.heap.size + 1, 0, none⟩) 2 2, .slice (some ⟨w.heap.size + 1 + 1, 0, none⟩) 2 2, .slice (some ⟨w.heap.size + 1 + 1 + 1, 0, none⟩) 2 2, .slice (some ⟨w.heap.size + 1 + 1 + 1 + 1, 0, none⟩) 2 2] 29)).alloc (.cells #[.int .i64 4, .int .i64 7] 3)).alloc (.cells #[.int .i64 6, .int .i64 5] 3)).alloc (.cells #[.int .i64 4, .int .i64 7] 3)).alloc (.cells #[.int .i64 3, .int .i64 3] 3)).alloc (.cells #[.slice (some ⟨w.heap.size + 1 + 1 + 1 + 1 + 1 + 1, 0, none⟩) 2 2, .slice (some ⟨w.heap.size + 1 + 1 + 1 + 1 + 1 + 1 + 1, 0, none⟩) 2 2, .slice (some ⟨w.heap.size + 1 + 1 + 1 + 1 + 1 + 1 + 1 + 1, 0, none⟩) 2 2, .slice (some ⟨w.heap.size + 1 + 1 + 1 + 1 + 1 + 1 + 1 + 1 + 1, 0, none⟩) 2 2] 29)).heap[w.heap.size + 1 + 1]? = some (.cells #[.int .i64 0, .int .i64 1] 3 (0, 0)) := (by (repeat (rw [alloc_get]; first | rw [if_pos (by first | (simp; done) | (simp; omega))] | rw [if_neg (by first | (simp; done) | (simp; omega))])); (try rfl))
  have y3 : (((((((((((w.alloc (.cells #[.int .i64 2, .int .i64 0, .slice (some ⟨w.heap.size + 1 + 1 + 1 + 1 + 1, 0, none⟩) 4 4, .slice (some ⟨w.heap.size + 1 + 1 + 1 + 1 + 1 + 1 + 1 + 1 + 1 + 1, 0, none⟩) 4 4] 24)).alloc (.cells #[.int .i64 1, .int .i64 2] 3)).alloc (.cells #[.int .i64 0, .int .i64 1] 3)).alloc (.cells #[.int .i64 1, .int .i64 2] 3)).alloc (.cells #[.int .i64 0, .int .i64 3] 3)).alloc (.cells #[.slice (some ⟨w.heap.size + 1, 0, none⟩) 2 2, .slice (some ⟨w.heap.size + 1 + 1, 0, none⟩) 2 2, .slice (some ⟨w.heap.size + 1 + 1 + 1, 0, none⟩) 2 2, .slice (some ⟨w.heap.size + 1 + 1 + 1 + 1, 0, none⟩) 2 2] 29)).alloc (.cells #[.int .i64 4, .int .i64 7] 3)).alloc (.cells #[.int .i64 6, .int .i64 5] 3)).alloc (.cells #[.int .i64 4, .int .i64 7] 3)).alloc (.cells #[.int .i64 3, .int .i64 3] 3)).alloc (.cells #[.slice (some ⟨w.heap.size + 1 + 1 + 1 + 1 + 1 + 1, 0, none⟩) 2 2, .slice (some ⟨w.heap.size + 1 + 1 + 1 + 1 + 1 + 1 + 1, 0, none⟩) 2 2, .slice (some ⟨w.heap.size + 1 + 1 + 1 + 1 + 1 + 1 + 1 + 1, 0, none⟩) 2 2, .slice (some ⟨w.heap.size + 1 + 1 + 1 + 1 + 1 + 1 + 1 + 1 + 1, 0, none⟩) 2 2] 29)).heap[w.heap.size + 1 + 1 + 1]? = some (.cells #[.int .i64 1, .int .i64 2] 3 (0, 0)) := (by (repeat (rw [alloc_get]; first | rw [if_pos (by first | (simp; done) | (simp; omega))] | rw [if_neg (by first | (simp; done) | (simp; omega))])); (try rfl))
  have y4 : (((((((((((w.alloc (.cells #[.int .i64 2, .int .i64 0, .slice (some ⟨w.heap.size + 1 + 1 + 1 + 1 + 1, 0, none⟩) 4 4, .slice (some ⟨w.heap.size + 1 + 1 + 1 + 1 + 1 + 1 + 1 + 1 + 1 + 1, 0, none⟩) 4 4] 24)).alloc (.cells #[.int .i64 1, .int .i64 2] 3)).alloc (.cells #[.int .i64 0, .int .i64 1] 3)).alloc (.cells #[.int .i64 1, .int .i64 2] 3)).alloc (.cells #[.int .i64 0, .int .i64 3] 3)).alloc (.cells #[.slice (some ⟨w.heap.size + 1, 0, none⟩) 2 2, .slice (some ⟨w.heap.size + 1 + 1, 0, none⟩) 2 2, .slice (some ⟨w.heap.size + 1 + 1 + 1, 0, none⟩) 2 2, .slice (some ⟨w.heap.size + 1 + 1 + 1 + 1, 0, none⟩) 2 2] 29)).alloc (.cells #[.int .i64 4, .int .i64 7] 3)).alloc (.cells #[.int .i64 6, .int .i64 5] 3)).alloc (.cells #[.int .i64 4, .int .i64 7] 3)).alloc (.cells #[.int .i64 3, .int .i64 3] 3)).alloc (.cells #[.slice (some ⟨w.heap.size + 1 + 1 + 1 + 1 + 1 + 1, 0, none⟩) 2 2, .slice (some ⟨w.heap.size + 1 + 1 + 1 + 1 + 1 + 1 + 1, 0, none⟩) 2 2, .slice (some ⟨w.heap.size + 1 + 1 + 1 + 1 + 1 + 1 + 1 + 1, 0, none⟩) 2 2, .slice (some ⟨w.heap.size + 1 + 1 + 1 + 1 + 1 + 1 + 1 + 1 + 1, 0, none⟩) 2 2] 29)).heap[w.heap.size + 1 + 1 + 1 + 1]? = some (.cells #[.int .i64 0, .int .i64 3] 3 (0, 0)) := (by (repeat (rw [alloc_get]; first | rw [if_pos (by first | (simp; done) | (simp; omega))] | rw [if_neg (by first | (simp; done) | (simp; omega))])); (try rfl))
  have y5 : (((((((((((w.alloc (.cells #[.int .i64 2, .int .i64 0, .slice (some ⟨w.heap.size + 1 + 1 + 1 + 1 + 1, 0, none⟩) 4 4, .slice (some ⟨w.heap.size + 1 + 1 + 1 + 1 + 1 + 1 + 1 + 1 + 1 + 1, 0, none⟩) 4 4] 24)).alloc (.cells #[.int .i64 1, .int .i64 2] 3)).alloc (.cells #[.int .i64 0, .int .i64 1] 3)).alloc (.cells #[.int .i64 1, .int .i64 2] 3)).alloc (.cells #[.int .i64 0, .int .i64 3] 3)).alloc (.cells #[.slice (some ⟨w.heap.size + 1, 0, none⟩) 2 2, .slice (some ⟨w.heap.size + 1 + 1, 0, none⟩) 2 2, .slice (some ⟨w.heap.size + 1 + 1 + 1, 0, none⟩) 2 2, .slice (some ⟨w.heap.size + 1 + 1 + 1 + 1, 0, none⟩) 2 2] 29)).alloc (.cells #[.int .i64 4, .int .i64 7] 3)).alloc (.cells #[.int .i64 6, .int .i64 5] 3)).alloc (.cells #[.int .i64 4, .int .i64 7] 3)).alloc (.cells #[.int .i64 3, .int .i64 3] 3)).alloc (.cells #[.slice (some ⟨w.heap.size + 1 + 1 + 1 + 1 + 1 + 1, 0, none⟩) 2 2, .slice (some ⟨w.heap.size + 1 + 1 + 1 + 1 + 1 + 1 + 1, 0, none⟩) 2 2, .slice (some ⟨w.heap.size + 1 + 1 + 1 + 1 + 1 + 1 + 1 + 1, 0, none⟩) 2 2, .slice (some ⟨w.heap.size + 1 + 1 + 1 + 1 + 1 + 1 + 1 + 1 + 1, 0, none⟩) 2 2] 29)).heap[w.heap.size + 1 + 1 + 1 + 1 + 1]? = some (.cells #[.slice (some ⟨w.heap.size + 1, 0, none⟩) 2 2, .slice (some ⟨w.heap.size + 1 + 1, 0, none⟩) 2 2, .slice (some ⟨w.heap.size + 1 + 1 + 1, 0, none⟩) 2 2, .slice (some ⟨w.heap.size + 1 + 1 + 1 + 1, 0, none⟩) 2 2] 29 (0, 0)) := (by (repeat (rw [alloc_get]; first | rw [if_pos (by first | (simp; done) | (simp; omega))] | rw [if_neg (by first | (simp; done) | (simp; omega))])); (try rfl))
  have y6 : (((((((((((w.alloc (.cells #[.int .i64 2, .int .i64 0, .slice (some ⟨w.heap.size + 1 + 1 + 1 + 1 + 1, 0, none⟩) 4 4, .slice (some ⟨w.heap.size + 1 + 1 + 1 + 1 + 1 + 1 + 1 + 1 + 1 + 1, 0, none⟩) 4 4] 24)).alloc (.cells #[.int .i64 1, .int .i64 2] 3)).alloc (.cells #[.int .i64 0, .int .i64 1] 3)).alloc (.cells #[.int .i64 1, .int .i64 2] 3)).alloc (.cells #[.int .i64 0, .int .i64 3] 3)).alloc (.cells #[.slice (some ⟨w.heap.size + 1, 0, none⟩) 2 2, .slice (some ⟨w.heap.size + 1 + 1, 0, none⟩) 2 2, .slice (some ⟨w.heap.size + 1 + 1 + 1, 0, none⟩) 2 2, .slice (some ⟨w.heap.size + 1 + 1 + 1 + 1, 0, none⟩) 2 2] 29)).alloc (.cells #[.int .i64 4, .int .i64 7] 3)).alloc (.cells #[.int .i64 6, .int .i64 5] 3)).alloc (.cells #[.int .i64 4, .int .i64 7] 3)).alloc (.cells #[.int .i64 3, .int .i64 3] 3)).alloc (.cells #[.slice (some ⟨w.heap.size + 1 + 1 + 1 + 1 + 1 + 1, 0, none⟩) 2 2, .slice (some ⟨w.heap.size + 1 + 1 + 1 + 1 + 1 + 1 + 1, 0, none⟩) 2 2, .slice (some ⟨w.heap.size + 1 + 1 + 1 + 1 + 1 + 1 + 1 + 1, 0, none⟩) 2 2, .slice (some ⟨w.heap.size + 1 + 1 + 1 + 1 + 1 + 1 + 1 + 1 + 1, 0, none⟩) 2 2] 29)).heap[w.heap.size + 1 + 1 + 1 + 1 + 1 + 1]? = some (.cells #[.int .i64 4, .int .i64 7] 3 (0, 0)) := (by (repeat (rw [alloc_get]; first | rw [if_pos (by first | (simp; done) | (simp; omega))] | rw [if_neg (by first | (simp; done) | (simp; omega))])); (try rfl))
  have y7 : (((((((((((w.alloc (.cells #[.int .i64 2, .int .i64 0, .slice (some ⟨w.heap.size + 1 + 1 + 1 + 1 + 1, 0, none⟩) 4 4, .slice (some ⟨w.heap.size + 1 + 1 + 1 + 1 + 1 + 1 + 1 + 1 + 1 + 1, 0, none⟩) 4 4] 24)).alloc (.cells #[.int .i64 1, .int .i64 2] 3)).alloc (.cells #[.int .i64 0, .int .i64 1] 3)).alloc (.cells #[.int .i64 1, .int .i64 2] 3)).alloc (.cells #[.int .i64 0, .int .i64 3] 3)).alloc (.cells #[.slice (some ⟨w.heap.size + 1, 0, none⟩) 2 2, .slice (some ⟨w.heap.size + 1 + 1, 0, none⟩) 2 2, .slice (some ⟨w.heap.size + 1 + 1 + 1, 0, none⟩) 2 2, .slice (some ⟨w.heap.size + 1 + 1 + 1 + 1, 0, none⟩) 2 2] 29)).alloc (.cells #[.int .i64 4, .int .i64 7] 3)).alloc (.cells #[.int .i64 6, .int .i64 5] 3)).alloc (.cells #[.int .i64 4, .int .i64 7] 3)).alloc (.cells #[.int .i64 3, .int .i64 3] 3)).alloc (.cells #[.slice (some ⟨w.heap.size + 1 + 1 + 1 + 1 + 1 + 1, 0, none⟩) 2 2, .slice (some ⟨w.heap.size + 1 + 1 + 1 + 1 + 1 + 1 + 1, 0, none⟩) 2 2, .slice (some ⟨w.heap.size + 1 + 1 + 1 + 1 + 1 + 1 + 1 + 1, 0, none⟩) 2 2, .slice (some ⟨w.heap.size + 1 + 1 + 1 + 1 + 1 + 1 + 1 + 1 + 1, 0, none⟩) 2 2] 29)).heap[w.heap.size + 1 + 1 + 1 + 1 + 1 + 1 + 1]? = some (.cells #[.int .i64 6, .int .i64 5] 3 (0, 0)) := (by (repeat (rw [alloc_get]; first | rw [if_pos (by first | (simp; done) | (simp; omega))] | rw [if_neg (by first | (simp; done) | (simp; omega))])); (try rfl))
  have y8 : (((((((((((w.alloc (.cells #[.int .i64 2, .int .i64 0, .slice (some ⟨w.heap.size + 1 + 1 + 1 + 1 + 1, 0, none⟩) 4 4, .slice (some ⟨w.heap.size + 1 + 1 + 1 + 1 + 1 + 1 + 1 + 1 + 1 + 1, 0, none⟩) 4 4] 24)).alloc (.cells #[.int .i64 1, .int .i64 2] 3)).alloc (.cells #[.int .i64 0, .int .i64 1] 3)).alloc (.cells #[.int .i64 1, .int .i64 2] 3)).alloc (.cells #[.int .i64 0, .int .i64 3] 3)).alloc (.cells #[.slice (some ⟨w.heap.size + 1, 0, none⟩) 2 2, .slice (some ⟨w.heap.size + 1 + 1, 0, none⟩) 2 2, .slice (some ⟨w.heap.size + 1 + 1 + 1, 0, none⟩) 2 2, .slice (some ⟨w.heap.size + 1 + 1 + 1 + 1, 0, none⟩) 2 2] 29)).alloc (.cells #[.int .i64 4, .int .i64 7] 3)).alloc (.cells #[.int .i64 6, .int .i64 5] 3)).alloc (.cells #[.int .i64 4, .int .i64 7] 3)).alloc (.cells #[.int .i64 3, .int .i64 3] 3)).alloc (.cells #[.slice (some ⟨w.heap.size + 1 + 1 + 1 + 1 + 1 + 1, 0, none⟩) 2 2, .slice (some ⟨w.heap.size + 1 + 1 + 1 + 1 + 1 + 1 + 1, 0, none⟩) 2 2, .slice (some ⟨w.heap.size + 1 + 1 + 1 + 1 + 1 + 1 + 1 + 1, 0, none⟩) 2 2, .slice (some ⟨w.heap.size + 1 + 1 + 1 + 1 + 1 + 1 + 1 + 1 + 1, 0, none⟩) 2 2] 29)).heap[w.heap.size + 1 + 1 + 1 + 1 + 1 + 1 + 1 + 1]? = some (.cells #[.int .i64 4, .int .i64 7] 3 (0, 0)) := (by (repeat (rw [alloc_get]; first | rw [if_pos (by first | (simp; done) | (simp; omega))] | rw [if_neg (by first | (simp; done) | (simp; omega))])); (try rfl))
  have y9 : (((((((((((w.alloc (.cells #[.int .i64 2, .int .i64 0, .slice (some ⟨w.heap.size + 1 + 1 + 1 + 1 + 1, 0, none⟩) 4 4, .slice (some ⟨w.heap.size + 1 + 1 + 1 + 1 + 1 + 1 + 1 + 1 + 1 + 1, 0, none⟩) 4 4] 24)).alloc (.cells #[.int .i64 1, .int .i64 2] 3)).alloc (.cells #[.int .i64 0, .int .i64 1] 3)).alloc (.cells #[.int .i64 1, .int .i64 2] 3)).alloc (.cells #[.int .i64 0, .int .i64 3] 3)).alloc (.cells #[.slice (some ⟨w.heap.size + 1, 0, none⟩) 2 2, .slice (some ⟨w.heap.size + 1 + 1, 0, none⟩) 2 2, .slice (some ⟨w.heap.size + 1 + 1 + 1, 0, none⟩) 2 2, .slice (some ⟨w.heap.size + 1 + 1 + 1 + 1, 0, none⟩) 2 2] 29)).alloc (.cells #[.int .i64 4, .int .i64 7] 3)).alloc (.cells #[.int .i64 6, .int .i64 5] 3)).alloc (.cells #[.int .i64 4, .int .i64 7] 3)).alloc (.cells #[.int .i64 3, .int .i64 3] 3)).alloc (.cells #[.slice (some ⟨w.heap.size + 1 + 1 + 1 + 1 + 1 + 1, 0, none⟩) 2 2, .slice (some ⟨w.heap.size + 1 + 1 + 1 + 1 + 1 + 1 + 1, 0, none⟩) 2 2, .slice (some ⟨w.heap.size + 1 + 1 + 1 + 1 + 1 + 1 + 1 + 1, 0, none⟩) 2 2, .slice (some ⟨w.heap.size + 1 + 1 + 1 + 1 + 1 + 1 + 1 + 1 + 1, 0, none⟩) 2 2] 29)).heap[w.heap.size + 1 + 1 + 1 + 1 + 1 + 1 + 1 + 1 + 1]? = some (.cells #[.int .i64 3, .int .i64 3] 3 (0, 0)) := (by (repeat (rw [alloc_get]; first | rw [if_pos (by first | (simp; done) | (simp; omega))] | rw [if_neg (by first | (simp; done) | (simp; omega))])); (try rfl))
  have y10 : (((((((((((w.alloc (.cells #[.int .i64 2, .int .i64 0, .slice (some ⟨w.heap.size + 1 + 1 + 1 + 1 + 1, 0, none⟩) 4 4, .slice (some ⟨w.heap.size + 1 + 1 + 1 + 1 + 1 + 1 + 1 + 1 + 1 + 1, 0, none⟩) 4 4] 24)).alloc (.cells #[.int .i64 1, .int .i64 2] 3)).alloc (.cells #[.int .i64 0, .int .i64 1] 3)).alloc (.cells #[.int .i64 1, .int .i64 2] 3)).alloc (.cells #[.int .i64 0, .int .i64 3] 3)).alloc (.cells #[.slice (some ⟨w.heap.size + 1, 0, none⟩) 2 2, .slice (some ⟨w.heap.size + 1 + 1, 0, none⟩) 2 2, .slice (some ⟨w.heap.size + 1 + 1 + 1, 0, none⟩) 2 2, .slice (some ⟨w.heap.size + 1 + 1 + 1 + 1, 0, none⟩) 2 2] 29)).alloc (.cells #[.int .i64 4, .int .i64 7] 3)).alloc (.cells #[.int .i64 6, .int .i64 5] 3)).alloc (.cells #[.int .i64 4, .int .i64 7] 3)).alloc (.cells #[.int .i64 3, .int .i64 3] 3)).alloc (.cells #[.slice (some ⟨w.heap.size + 1 + 1 + 1 + 1 + 1 + 1, 0, none⟩) 2 2, .slice (some ⟨w.heap.size + 1 + 1 + 1 + 1 + 1 + 1 + 1, 0, none⟩) 2 2, .slice (some ⟨w.heap.size + 1 + 1 + 1 + 1 + 1 + 1 + 1 + 1, 0, none⟩) 2 2, .slice (some ⟨w.heap.size + 1 + 1 + 1 + 1 + 1 + 1 + 1 + 1 + 1, 0, none⟩) 2 2] 29)).heap[w.heap.size + 1 + 1 + 1 + 1 + 1 + 1 + 1 + 1 + 1 + 1]? = some (.cells #[.slice (some ⟨w.heap.size + 1 + 1 + 1 + 1 + 1 + 1, 0, none⟩) 2 2, .slice (some ⟨w.heap.size + 1 + 1 + 1 + 1 + 1 + 1 + 1, 0, none⟩) 2 2, .slice (some ⟨w.heap.size + 1 + 1 + 1 + 1 + 1 + 1 + 1 + 1, 0, none⟩) 2 2, .slice (some ⟨w.heap.size + 1 + 1 + 1 + 1 + 1 + 1 + 1 + 1 + 1, 0, none⟩) 2 2] 29 (0, 0)) := (by (repeat (rw [alloc_get]; first | rw [if_pos (by first | (simp; done) | (simp; omega))] | rw [if_neg (by first | (simp; done) | (simp; omega))])); (try rfl))
  generalize (((((((((((w.alloc (.cells #[.int .i64 2, .int .i64 0, .slice (some ⟨w.heap.size + 1 + 1 + 1 + 1 + 1, 0, none⟩) 4 4, .slice (some ⟨w.heap.size + 1 + 1 + 1 + 1 + 1 + 1 + 1 + 1 + 1 + 1, 0, none⟩) 4 4] 24)).alloc (.cells #[.int .i64 1, .int .i64 2] 3)).alloc (.cells #[.int .i64 0, .int .i64 1] 3)).alloc (.cells #[.int .i64 1, .int .i64 2] 3)).alloc (.cells #[.int .i64 0, .int .i64 3] 3)).alloc (.cells #[.slice (some ⟨w.heap.size + 1, 0, none⟩) 2 2, .slice (some ⟨w.heap.size + 1 + 1, 0, none⟩) 2 2, .slice (some ⟨w.heap.size + 1 + 1 + 1, 0, none⟩) 2 2, .slice (some ⟨w.heap.size + 1 + 1 + 1 + 1, 0, none⟩) 2 2] 29)).alloc (.cells #[.int .i64 4, .int .i64 7] 3)).alloc (.cells #[.int .i64 6, .int .i64 5] 3)).alloc (.cells #[.int .i64 4, .int .i64 7] 3)).alloc (.cells #[.int .i64 3, .int .i64 3] 3)).alloc (.cells #[.slice (some ⟨w.heap.size + 1 + 1 + 1 + 1 + 1 + 1, 0, none⟩) 2 2, .slice (some ⟨w.heap.size + 1 + 1 + 1 + 1 + 1 + 1 + 1, 0, none⟩) 2 2, .slice (some ⟨w.heap.size + 1 + 1 + 1 + 1 + 1 + 1 + 1 + 1, 0, none⟩) 2 2, .slice (some ⟨w.heap.size + 1 + 1 + 1 + 1 + 1 + 1 + 1 + 1 + 1, 0, none⟩) 2 2] 29)) = w1 at *
  have rn0 := ints_lit [1, 2] y1 (by decide) (by simp [I64])
  have rp0 := ints_lit [4, 7] y6 (by decide) (by simp [I64])
  have rn1 := ints_lit [0, 1] y2 (by decide) (by simp [I64])
  have rp1 := ints_lit [6, 5] y7 (by decide) (by simp [I64])
  have rn2 := ints_lit [1, 2] y3 (by decide) (by simp [I64])
  have rp2 := ints_lit [4, 7] y8 (by decide) (by simp [I64])
  have rn3 := ints_lit [0, 3] y4 (by decide) (by simp [I64])
  have rp3 := ints_lit [3, 3] y9 (by decide) (by simp [I64])
  have ra : IsRows w1 (.slice (some ⟨w.heap.size + 1 + 1 + 1 + 1 + 1, 0, none⟩) 4 4) [[1, 2], [0, 1], [1, 2], [0, 3]] := rows_lit [[1, 2], [0, 1], [1, 2], [0, 3]] [.slice (some ⟨w.heap.size + 1, 0, none⟩) 2 2, .slice (some ⟨w.heap.size + 1 + 1, 0, none⟩) 2 2, .slice (some ⟨w.heap.size + 1 + 1 + 1, 0, none⟩) 2 2, .slice (some ⟨w.heap.size + 1 + 1 + 1 + 1, 0, none⟩) 2 2] y5 rfl (by decide) fun j hj => match j, hj with
    | 0, _ => rn0
    | 1, _ => rn1
    | 2, _ => rn2
    | 3, _ => rn3
    | q + 4, h => absurd h (by simp)
  have rb : IsRows w1 (.slice (some ⟨w.heap.size + 1 + 1 + 1 + 1 + 1 + 1 + 1 + 1 + 1 + 1, 0, none⟩) 4 4) [[4, 7], [6, 5], [4, 7], [3, 3]] := rows_lit [[4, 7], [6, 5], [4, 7], [3, 3]] [.slice (some ⟨w.heap.size + 1 + 1 + 1 + 1 + 1 + 1, 0, none⟩) 2 2, .slice (some ⟨w.heap.size + 1 + 1 + 1 + 1 + 1 + 1 + 1, 0, none⟩) 2 2, .slice (some ⟨w.heap.size + 1 + 1 + 1 + 1 + 1 + 1 + 1 + 1, 0, none⟩) 2 2, .slice (some ⟨w.heap.size + 1 + 1 + 1 + 1 + 1 + 1 + 1 + 1 + 1, 0, none⟩) 2 2] y10 rfl (by decide) fun j hj => match j, hj with
    | 0, _ => rp0
    | 1, _ => rp1
    | 2, _ => rp2
    | 3, _ => rp3
    | q + 4, h => absurd h (by simp)
  have ha : IsAuto w1 (.agg #[.int .i64 2, .int .i64 0, .slice (some ⟨w.heap.size + 1 + 1 + 1 + 1 + 1, 0, none⟩) 4 4, .slice (some ⟨w.heap.size + 1 + 1 + 1 + 1 + 1 + 1 + 1 + 1 + 1 + 1, 0, none⟩) 4 4]) ⟨2, 0, [[1, 2], [0, 1], [1, 2], [0, 3]], [[4, 7], [6, 5], [4, 7], [3, 3]]⟩ := ⟨_, _, rfl, ⟨by simp [I64], by simp [I64]⟩, ra, rb⟩
  clear ra rb rn0 rp0 rn1 rp1 rn2 rp2 rn3 rp3
  have hx := y0
  clear y0 y1 y2 y3 y4 y5 y6 y7 y8 y9 y10
  have k0 := cell_of_row _ _ 0 _ _ _ hx
  have k1 := cell_of_row _ _ 1 _ _ _ hx
  have k2 := cell_of_row _ _ 2 _ _ _ hx
  have k3 := cell_of_row _ _ 3 _ _ _ hx
  refine bodyPost_ret (v := .agg #[.int .i64 2, .int .i64 0, .slice (some ⟨w.heap.size + 1 + 1 + 1 + 1 + 1, 0, none⟩) 4 4, .slice (some ⟨w.heap.size + 1 + 1 + 1 + 1 + 1 + 1 + 1 + 1 + 1 + 1, 0, none⟩) 4 4]) (by simp [results, Try.results32, go_sem, k0, k1, k2, k3]) rfl ?_
  exact ⟨_, rfl, ha, hb⟩

end Go.Proofs.Ytdkpdpcecjcmcaa
