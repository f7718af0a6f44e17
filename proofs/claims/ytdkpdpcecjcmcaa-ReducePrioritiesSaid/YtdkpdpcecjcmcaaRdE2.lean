/- ReducePriorities, the plain part: on a loop that comes back the least priorities have the same parity. -/
import Derived.Test.YtdkpdpcecjcmcaaRdE1
import Derived.Test.YtdkpdpcecjcmcaaRdS2
namespace Go.Proofs.Ytdkpdpcecjcmcaa

theorem mnP_le {p : Nat → Int} : ∀ {T t : Nat}, t < T → mnP p T ≤ p t
  | T + 1, t, h => by
    show min (mnP p T) (p T) ≤ p t
    by_cases e : t = T
    · subst e; omega
    · have := mnP_le (p := p) (T := T) (t := t) (by omega); omega
theorem mnP_ex {p : Nat → Int} : ∀ {T : Nat}, mnP p T = 1000000 ∨ ∃ t, p t = mnP p T
  | 0 => .inl rfl
  | T + 1 => by
    show min (mnP p T) (p T) = _ ∨ ∃ t, p t = min (mnP p T) (p T)
    by_cases h : mnP p T ≤ p T
    · rw [Int.min_eq_left h]; exact mnP_ex
    · rw [Int.min_eq_right (by omega)]; exact .inr ⟨T, rfl⟩
theorem mnP_all {p : Nat → Int} {T : Nat} (hT : 0 < T) (hp : ∀ t, p t ≤ 20000) (hper : ∀ t, p (t + T) = p t) : (∃ t, p t = mnP p T) ∧ ∀ t, mnP p T ≤ p t := by
  have hmul : ∀ t k, p (t + k * T) = p t := fun t k => by
    induction k with
    | zero => simp
    | succ k ih => rw [Nat.succ_mul, ← Nat.add_assoc, hper, ih]
  refine ⟨?_, fun t => ?_⟩
  · rcases mnP_ex (p := p) (T := T) with h | h
    · have h1 := mnP_le (p := p) hT
      have := hp 0
      omega
    · exact h
  · have h1 := hmul (t % T) (t / T)
    have h2 := Nat.mod_add_div t T
    rw [Nat.mul_comm] at h2
    rw [h2] at h1
    rw [h1]
    exact mnP_le (Nat.mod_lt _ hT)
section
variable {a : Au} {K : Nat} {w : Ls}
theorem ev_true (hA : AuV a K) (hw : validI a.letters w = true) {i j : Nat} (hij : i < j) (he : stN a w i = stN a w j) : evB a (priosA a) w.loop (stN a w i) ((j - i) * w.loop.length) = true := by
  obtain ⟨-, h2, h3⟩ := valid_let hw
  rw [hA.L] at h2
  have hq := stN_bd hA.valid hw i
  have hc : posQ a w.loop (stN a w i) ((j - i) * w.loop.length) = stN a w i := by
    rw [← stN_posQ, show i + (j - i) = j by omega]; exact he.symm
  have hT : 0 < (j - i) * w.loop.length := Nat.mul_pos (by omega) h3
  have hb := posQ_bd hA h2 h3 hq
  have hlt : ∀ t, (w.loop.getD (t % w.loop.length) 0).toNat < K := fun t => by
    have hx := h2 _ (getD_mem (l := w.loop) (x := t % w.loop.length) (Nat.mod_lt _ h3))
    omega
  have hm : ∀ t, (t + (j - i) * w.loop.length) % w.loop.length = t % w.loop.length := fun t => Nat.add_mul_mod_self_right ..
  have e1 : prW a a w.loop (stN a w i) = prQ a w.loop (stN a w i) := rfl
  have e2 : prW a (priosA a) w.loop (stN a w i) = prQ (priosA a) w.loop (stN a w i) := funext fun t => by
    show prL (priosA a) (posQ a w.loop (stN a w i) t) _ = prL (priosA a) (posQ (priosA a) w.loop (stN a w i) t) _
    rw [prios_posQ]
  have g1 := mnP_all (p := prQ a w.loop (stN a w i)) hT (fun t => (hA.pr _ _ (show (posQ a w.loop (stN a w i) t).toNat < _ by have := hb t; omega) (hlt t)).2) fun t => by
    unfold prQ; rw [posQ_per hc, hm]
  have g2 := mnP_all (p := prQ (priosA a) w.loop (stN a w i)) hT (fun t => (hA.prios.pr _ _ (show (posQ (priosA a) w.loop (stN a w i) t).toNat < a.next.length by rw [prios_posQ]; have := hb t; omega) (hlt t)).2) fun t => by
    unfold prQ; rw [prios_posQ, prios_posQ, posQ_per hc, hm]
  have h5 := prios_cycle hA h2 h3 hq (by omega) hc g1 g2
  unfold evB
  rw [e1, e2, h5]; simp
/-- The states behind the rounds, as long as none comes back. -/
theorem st_room (hA : AuV a K) (hw : validI a.letters w = true) {j : Nat} (h : ∀ i k, i < j → k < i → stN a w k ≠ stN a w i) : j ≤ a.next.length := by
  have hn : (stL a w j).Nodup := by
    unfold stL List.Nodup
    rw [List.pairwise_map, List.pairwise_iff_getElem]
    intro i k hi hk hik
    simp only [List.length_range] at hi hk
    simp only [List.getElem_range]
    exact h k i hk hik
  have := nd_int hn fun y hy => by
    obtain ⟨i, -, rfl⟩ := List.mem_map.1 hy
    exact stN_bd hA.valid hw i
  simpa [stL] using this
theorem endS_read (a : Au) : ∀ (ls : List Int) (q m : Int), (readF a (q, m) ls).1 = endS a q ls
  | [], _, _ => rfl
  | _ :: ls, _, _ => endS_read a ls _ _
theorem stN_zero (a : Au) (w : Ls) : stN a w 0 = endS a a.start w.stem := endS_read ..
theorem stN_next (a : Au) (w : Ls) (i : Nat) : stN a w (i + 1) = endS a (stN a w i) w.loop := endS_read ..
end
open Go.RowKit in
/-- Rows of rows, seen from each later world; each row as such. -/
theorem IsRows.at3 {w : World} {p : Option Addr} {n q : Nat} {ll : List (List Int)} (h : IsRows w (.slice p n q) ll) : n = ll.length ∧ n ≤ 140737488351232 ∧ ∃ b o, (0 < n → p = some ⟨b, o, none⟩) ∧ ∀ W, Below w.heap.size w W → ∀ s, s < n →
    ∃ bx ox cx ao, W.cell? ⟨b, o + s, none⟩ = some (.slice ao (ll.getD s []).length cx) ∧ (0 < (ll.getD s []).length → ao = some ⟨bx, ox, none⟩) ∧ IsInts W (.slice ao (ll.getD s []).length cx) (ll.getD s []) ∧ ∀ x, x < (ll.getD s []).length → W.cell? ⟨bx, ox + x, none⟩ = some (.int .i64 ((ll.getD s []).getD x 0)) := by
  obtain ⟨a, c, b, o, V, e, h1, h2, h3⟩ := h.data
  obtain ⟨rfl, rfl, rfl⟩ : p = a ∧ n = ll.length ∧ q = c := by simpa using e
  refine ⟨rfl, h2, b, o, h1, fun W hW s hs => ?_⟩
  obtain ⟨h4, h5⟩ := h3 s hs
  obtain ⟨a', c', e'⟩ := h5.shp
  rw [e'] at h4 h5
  obtain ⟨b', o', h6, h7, h8⟩ := h5.dat
  exact ⟨b', o', c', a', cellB hW h4, h6, h5.below hW, fun x hx => cellB hW (h8 x hx)⟩
theorem at_loop {l : Ls} {q : Nat} (hf : formB l = true) (hq : q < l.loop.length) : atI l ((l.stem.length : Int) + (q : Int)) = l.loop.getD q 0 := by
  rw [atI_nat (by omega) hf, show ((l.stem.length : Int) + (q : Int)).toNat = l.stem.length + q by omega]
  unfold atL
  rw [if_neg (by omega), show l.stem.length + q - l.stem.length = q by omega, Nat.mod_eq_of_lt hq]
end Go.Proofs.Ytdkpdpcecjcmcaa
