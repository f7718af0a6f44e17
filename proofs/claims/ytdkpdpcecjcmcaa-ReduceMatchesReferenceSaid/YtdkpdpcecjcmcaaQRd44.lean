/- What lower does, for sets of any size. The greatest relation of equivalent states, found by striking out pairs (plain). -/
import Derived.Test.YtdkpdpcecjcmcaaQRd43
import Derived.Test.YtdkpdpcecjcmcaaQRd23
namespace Go.Proofs.Ytdkpdpcecjcmcaa

theorem lower_c (w0 : World) (v : Value) (a : Au) (k B : Nat) (ha : IsAuto w0 v a) (hA : AuV a k) (hB : w0.heap.size ≤ B) : ∀ N, LowerC w0 v a k B N := fun N =>
  Nat.strongRecOn N fun N ih => lower_step w0 v a k B N ha hA hB ih

end Go.Proofs.Ytdkpdpcecjcmcaa

namespace Go.Proofs.Ytdkpdpcecjcmcaa

section
variable {a : Au} {k : Nat}
/-- Nothing equivalent is struck out; what is left has the same priorities. -/
def EI (a : Au) (k : Nat) (M : Nat → Nat → Bool) : Prop := (∀ i j, i < a.next.length → j < a.next.length → (∀ d, eqN a k d i j) → M i j = true) ∧ (∀ i j, i < a.next.length → j < a.next.length → M i j = true → a.prio.getD i [] = a.prio.getD j [])
def ClM (a : Au) (k : Nat) (M : Nat → Nat → Bool) : Prop := ∀ i j x, i < a.next.length → j < a.next.length → x < k → M i j = true → M (nxI a i x) (nxI a j x) = true
theorem EI.done (hA : AuV a k) {M : Nat → Nat → Bool} (h : EI a k M) (hc : ClM a k M) {i j : Nat} (hi : i < a.next.length) (hj : j < a.next.length) : M i j = true ↔ ∀ d, eqN a k d i j := by
  refine ⟨fun hm d => ?_, fun hd => h.1 i j hi hj hd⟩
  have key : ∀ (d : Nat) (i j : Nat), i < a.next.length → j < a.next.length → M i j = true → eqN a k d i j := by
    intro d
    induction d with
    | zero => intro i j hi hj hm; exact h.2 i j hi hj hm
    | succ d ih =>
      intro i j hi hj hm
      exact ⟨ih i j hi hj hm, fun x hx => ih _ _ (hA.nxI hi hx) (hA.nxI hj hx) (hc i j x hi hj hx hm)⟩
  exact key d i j hi hj hm
theorem EI.start (a : Au) (k : Nat) : EI a k fun i j => decide (a.prio.getD i [] = a.prio.getD j []) :=
  ⟨fun _ _ _ _ h => decide_eq_true (h 0), fun _ _ _ _ h => of_decide_eq_true h⟩
theorem EI.drop {M : Nat → Nat → Bool} (h : EI a k M) (hA : AuV a k) {i j x : Nat} (hi : i < a.next.length) (hj : j < a.next.length) (hx : x < k) (hm : M (nxI a i x) (nxI a j x) = false) : EI a k (upM M i j false) := by
  refine ⟨fun p q hp hq hd => ?_, fun p q hp hq hpq => ?_⟩
  · unfold upM
    by_cases e : p = i ∧ q = j
    · obtain ⟨rfl, rfl⟩ := e
      have h2 := h.1 _ _ (hA.nxI hp hx) (hA.nxI hq hx) fun d => (hd (d + 1)).2 x hx
      rw [hm] at h2; cases h2
    · rw [if_neg e]; exact h.1 p q hp hq hd
  · unfold upM at hpq
    by_cases e : p = i ∧ q = j
    · rw [if_pos e] at hpq; cases hpq
    · rw [if_neg e] at hpq; exact h.2 p q hp hq hpq
/-- How many pairs are left. -/
def prs (n : Nat) : List (Nat × Nat) := (List.range n).flatMap fun i => (List.range n).map fun j => (i, j)
theorem prs_mem {n i j : Nat} : (i, j) ∈ prs n ↔ i < n ∧ j < n := by
  unfold prs
  simp only [List.mem_flatMap, List.mem_range, List.mem_map, Prod.mk.injEq]
  constructor
  · rintro ⟨a, ha, b, hb, rfl, rfl⟩; exact ⟨ha, hb⟩
  · rintro ⟨h1, h2⟩; exact ⟨i, h1, j, h2, rfl, rfl⟩
def cntE (n : Nat) (M : Nat → Nat → Bool) : Nat := (prs n).countP fun p => M p.1 p.2
theorem cntP_lt {α : Type} {p q : α → Bool} : ∀ {l : List α} {y : α}, (∀ x ∈ l, q x = true → p x = true) → y ∈ l → p y = true → q y = false → l.countP q < l.countP p
  | [], y, _, hy, _, _ => nomatch hy
  | x :: l, y, h, hy, hp, hq => by
    rw [List.countP_cons, List.countP_cons]
    have hle : l.countP q ≤ l.countP p := List.countP_mono_left fun z hz => h z (List.mem_cons_of_mem _ hz)
    rcases List.mem_cons.1 hy with rfl | hy
    · rw [hp, hq]; simp; omega
    · have ih := cntP_lt (fun z hz => h z (List.mem_cons_of_mem _ hz)) hy hp hq
      have hx := h x List.mem_cons_self
      cases e : q x
      · simp; omega
      · rw [hx e]; simp; omega
theorem cnt_drop {n : Nat} {M : Nat → Nat → Bool} {i j : Nat} (hi : i < n) (hj : j < n) (hm : M i j = true) : cntE n (upM M i j false) < cntE n M := by
  refine cntP_lt (y := (i, j)) (fun x _ hx => ?_) (prs_mem.2 ⟨hi, hj⟩) hm (by unfold upM; rw [if_pos ⟨rfl, rfl⟩])
  unfold upM at hx
  split at hx
  · cases hx
  · exact hx
def Chk (a : Au) (k : Nat) (M : Nat → Nat → Bool) (i0 k0 x0 : Nat) : Prop := ∀ i j x, i < a.next.length → j < a.next.length → x < k → (i < i0 ∨ i = i0 ∧ (j < k0 ∨ j = k0 ∧ x < x0)) → M i j = true → M (nxI a i x) (nxI a j x) = true
/-- Where a pass stands. -/
structure PS (a : Au) (k : Nat) (M0 M : Nat → Nat → Bool) (b : Bool) (i0 k0 x0 : Nat) : Prop where
  e : EI a k M
  f : b = false → M = M0 ∧ Chk a k M0 i0 k0 x0
  t : b = true → cntE a.next.length M < cntE a.next.length M0
variable {M0 M : Nat → Nat → Bool} {b : Bool} {i0 k0 x0 : Nat}
theorem PS.start (h : EI a k M) : PS a k M M false 0 0 0 := ⟨h, fun _ => ⟨rfl, fun i j x _ _ _ h => by omega⟩, fun h => (nomatch h)⟩
theorem PS.keep (h : PS a k M0 M b i0 k0 x0) (hm : M i0 k0 = true → M (nxI a i0 x0) (nxI a k0 x0) = true) : PS a k M0 M b i0 k0 (x0 + 1) := by
  refine ⟨h.e, fun hb => ?_, h.t⟩
  obtain ⟨rfl, hc⟩ := h.f hb
  refine ⟨rfl, fun i j x hi hj hx hd hmm => ?_⟩
  by_cases e : i = i0 ∧ j = k0 ∧ x = x0
  · obtain ⟨rfl, rfl, rfl⟩ := e; exact hm hmm
  · exact hc i j x hi hj hx (by omega) hmm
theorem PS.drop (h : PS a k M0 M b i0 k0 x0) (hA : AuV a k) (hi : i0 < a.next.length) (hj : k0 < a.next.length) (hx : x0 < k) (hm : M i0 k0 = true) (hn : M (nxI a i0 x0) (nxI a k0 x0) = false) : PS a k M0 (upM M i0 k0 false) true i0 k0 (x0 + 1) := by
  refine ⟨h.e.drop hA hi hj hx hn, fun hb => (nomatch hb), fun _ => ?_⟩
  have h1 := cnt_drop (n := a.next.length) hi hj hm
  cases b with
  | false => rw [← (h.f rfl).1]; exact h1
  | true => exact Nat.lt_trans h1 (h.t rfl)
theorem PS.nextk (h : PS a k M0 M b i0 k0 k) : PS a k M0 M b i0 (k0 + 1) 0 :=
  ⟨h.e, fun hb => ⟨(h.f hb).1, fun i j x hi hj hx hd hm => (h.f hb).2 i j x hi hj hx (by omega) hm⟩, h.t⟩
theorem PS.nexti (h : PS a k M0 M b i0 a.next.length 0) : PS a k M0 M b (i0 + 1) 0 0 :=
  ⟨h.e, fun hb => ⟨(h.f hb).1, fun i j x hi hj hx hd hm => (h.f hb).2 i j x hi hj hx (by omega) hm⟩, h.t⟩
theorem PS.closed (h : PS a k M0 M false a.next.length 0 0) : ClM a k M := by
  obtain ⟨rfl, hc⟩ := h.f rfl
  exact fun i j x hi hj hx hm => hc i j x hi hj hx (.inl hi) hm
end

end Go.Proofs.Ytdkpdpcecjcmcaa
