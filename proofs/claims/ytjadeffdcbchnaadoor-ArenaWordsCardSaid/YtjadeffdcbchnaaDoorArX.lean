/- Readings and plain facts that the laws share: shapes, cells, what Build returns on what is well-formed. -/
import Derived.Test.YtjadeffdcbchnaaDoorAr29
namespace Go.Proofs.YtjadeffdcbchnaaDoor
open Go.RowKit

theorem IsGame.dat {w : World} {g : Gm} {N : Nat} {a0 a1 a2 : Option Addr} {n0 n1 n2 k0 k1 k2 : Nat} (h : IsGame w (.agg #[.slice a0 n0 k0, .slice a1 n1 k1, .slice a2 n2 k2]) g) (l0 : g.owner.length = N) (l1 : g.prio.length = N) (l2 : g.succ.length = N) :
    N = n0 ∧ N = n1 ∧ N = n2 ∧ ∃ b0 o0 b1 o1 b2 o2, ∃ V : Nat → Value, (0 < N → a0 = some ⟨b0, o0, none⟩ ∧ a1 = some ⟨b1, o1, none⟩ ∧ a2 = some ⟨b2, o2, none⟩) ∧
      ∀ j, j < N → w.cell? ⟨b0, o0 + j, none⟩ = some (.int .i64 (g.owner.getD j 0)) ∧ w.cell? ⟨b1, o1 + j, none⟩ = some (.int .i64 (g.prio.getD j 0)) ∧ w.cell? ⟨b2, o2 + j, none⟩ = some (V j) ∧ IsInts w (V j) (g.succ.getD j []) := by
  obtain ⟨v0, v1, v2, hv, ⟨⟨ao0, cap0, b0, off0, rfl, g0⟩, _⟩, ⟨⟨ao1, cap1, b1, off1, rfl, g1⟩, _⟩, ⟨V, ⟨ao2, cap2, b2, off2, rfl, g2⟩, hr⟩⟩ := h
  injection hv with hv
  injection hv with hv
  simp only [List.cons.injEq, Value.slice.injEq, and_true] at hv
  obtain ⟨⟨rfl, rfl, rfl⟩, ⟨rfl, rfl, rfl⟩, rfl, rfl, rfl⟩ := hv
  exact ⟨l0.symm, l1.symm, l2.symm, b0, off0, b1, off1, b2, off2, V, fun hN => ⟨g0.ad (by omega), g1.ad (by omega), g2.ad (by omega)⟩, fun j hj => ⟨g0.el j (by omega), g1.el j (by omega), g2.el j (by omega), hr j (by omega)⟩⟩
theorem IsInts.shp {w : World} {v : Value} {l : List Int} (h : IsInts w v l) : ∃ a c, v = .slice a l.length c := by
  obtain ⟨⟨a, c, b, o, rfl, -⟩, -⟩ := h
  exact ⟨a, c, rfl⟩
theorem IsInts.dat {w : World} {a : Option Addr} {n c : Nat} {l : List Int} (h : IsInts w (.slice a n c) l) : ∃ b o, (0 < n → a = some ⟨b, o, none⟩) ∧ n ≤ 140737488351232 ∧ ∀ j, j < n → w.cell? ⟨b, o + j, none⟩ = some (.int .i64 (l.getD j 0)) := by
  obtain ⟨⟨a', c', b, o, hv, ha⟩, -⟩ := h
  injection hv with h1 h2 h3
  subst h1 h2 h3
  exact ⟨b, o, fun h => ha.ad h, ha.nb, fun j hj => ha.el j hj⟩
theorem IsAuto.shp {w : World} {v : Value} {a : Au} (h : IsAuto w v a) : ∃ p2 n2 k2 p3 n3 k3, v = .agg #[.int .i64 a.letters, .int .i64 a.start, .slice p2 n2 k2, .slice p3 n3 k3] := by
  obtain ⟨v2, v3, rfl, -, ⟨V2, ⟨a2, c2, b2, o2, rfl, -⟩, -⟩, ⟨V3, ⟨a3, c3, b3, o3, rfl, -⟩, -⟩⟩ := h
  exact ⟨_, _, _, _, _, _, rfl⟩
theorem IsPls.shp {w : World} {v : Value} {l : List Pl} (h : IsPls w v l) : ∃ ao cap, v = .slice ao l.length cap := by
  obtain ⟨ao, cap, b, off, rfl, -⟩ := h
  exact ⟨ao, cap, rfl⟩
theorem IsPls.dat {w : World} {a : Option Addr} {n c : Nat} {l : List Pl} (h : IsPls w (.slice a n c) l) : ∃ b o, (0 < n → a = some ⟨b, o, none⟩) ∧ n ≤ 140737488351232 ∧ ∀ j, (hj : j < l.length) → w.cell? ⟨b, o + j * 3, none⟩ = some (.int .i64 l[j].st) ∧ w.cell? ⟨b, o + j * 3 + 1, none⟩ = some (.int .i64 l[j].inn) ∧ w.cell? ⟨b, o + j * 3 + 2, none⟩ = some (.int .i64 l[j].pr) := by
  obtain ⟨a', c', b, o, hv, ha, -⟩ := h
  injection hv with h1 h2 h3
  subst h1 h2 h3
  exact ⟨b, o, fun h => ha.ad h, by have := ha.nm; unfold maxN at this; omega, fun j hj => ⟨ha.e0 j hj, ha.e1 j hj, ha.e2 j hj⟩⟩
section
variable {S : Pl → List Pl}
theorem bfs_lenX {most : Nat} : ∀ (f k : Nat) (l r : List Pl), bfsF S most f k l = some r → l.length ≤ most → r.length ≤ most := by
  intro f
  induction f with
  | zero => intro k l r h; cases h
  | succ f ih =>
    intro k l r h hl
    unfold bfsF at h
    by_cases hk : k < l.length
    · rw [dif_pos hk] at h
      split at h
      · rename_i hm; exact ih _ _ _ h hm
      · cases h
    · rw [dif_neg hk] at h
      cases h
      exact hl
end
section
variable {a : Au} {l : List Sig} {r : List Pl}
theorem badB_not (hs : validS l = true) (hv : validA a = true) (he : a.letters = lettersI l) {m : Int} (h1 : 1 ≤ m) (h2 : m ≤ 3000) : badB a l m = false := by
  unfold badB
  rw [hs, hv, he]
  simp; omega
theorem buildE_som (hs : validS l = true) (hv : validA a = true) (he : a.letters = lettersI l) {m : Int} (h1 : 1 ≤ m) (h2 : m ≤ 3000) (h : buildP a l m.toNat = some r) : buildE a l m = (plGm (succPl a (joinT l)) (topA a) r r.length, r, 0) := by
  unfold buildE
  rw [badB_not hs hv he h1 h2, if_neg (by simp), h]
theorem buildE_non (hs : validS l = true) (hv : validA a = true) (he : a.letters = lettersI l) {m : Int} (h1 : 1 ≤ m) (h2 : m ≤ 3000) (h : buildP a l m.toNat = none) : buildE a l m = (⟨[], [], []⟩, [], 2) := by
  unfold buildE
  rw [badB_not hs hv he h1 h2, if_neg (by simp), h]
end

end Go.Proofs.YtjadeffdcbchnaaDoor
