/- What shifted computes; the walk of SolveExchange. -/
import Derived.Test.YtjhafakkadnfmaaSo32
import Derived.Test.YtjhafakkadnfmaaRegSt
namespace Go.Proofs.Ytjhafakkadnfmaa
open Go.RowKit

/-- The priorities, replaced up to a place. -/
def shK (l : List Int) (b : Int) (k : Nat) : List Int := (List.range l.length).map fun i => if i < k then l.getD i 0 + 2 * b * (1 + l.getD i 0 / 2) else l.getD i 0
theorem shK_len (l : List Int) (b : Int) (k : Nat) : (shK l b k).length = l.length := by simp [shK]
theorem shK_zero (l : List Int) (b : Int) : shK l b 0 = l := by
  apply List.ext_getElem (by simp [shK])
  intro i h1 h2
  simp [shK, List.getD, h2]
theorem shK_all (l : List Int) (b : Int) : shK l b l.length = l.map fun x => x + 2 * b * (1 + x / 2) := by
  apply List.ext_getElem (by simp [shK])
  intro i h1 h2
  have : i < l.length := by simpa [shK] using h1
  simp [shK, List.getD, this]
theorem shK_at (l : List Int) (b : Int) (k : Nat) (h : k < l.length) : (shK l b k).getD k 0 = l.getD k 0 := by simp [shK, List.getD, h]
theorem shK_succ (l : List Int) (b : Int) (k : Nat) : shK l b (k + 1) = (shK l b k).set k (l.getD k 0 + 2 * b * (1 + l.getD k 0 / 2)) := by
  apply List.ext_getElem (by simp [shK])
  intro i h1 h2
  rw [List.getElem_set]
  have hi : i < l.length := by simpa [shK] using h1
  simp only [shK, List.getElem_map, List.getElem_range]
  by_cases e : k = i
  · subst e; simp
  · rw [if_neg e]
    by_cases h3 : i < k
    · rw [if_pos (by omega), if_pos h3]
    · rw [if_neg (by omega), if_neg h3]

def RSh (zb gb n cb k : Nat) (x b : Int) (ix : Nat) (v : Value) (_ : World) : Prop :=
  match ix with
  | 0 => v = .pointer (some ⟨zb, 1, none⟩)
  | 1 => v = .slice (some ⟨gb, 0, none⟩) n cb
  | 2 => v = .int .i64 (k : Int)
  | 3 => v = .pointer (some ⟨zb, 1, none⟩)
  | 4 => v = .slice (some ⟨gb, 0, none⟩) n cb
  | 5 => v = .int .i64 (k : Int)
  | 6 => v = .pointer (some ⟨gb, k, none⟩)
  | 7 => v = .int .i64 x
  | 8 => v = .int .i64 b
  | 9 => v = .int .i64 (2 * b)
  | 10 => v = .pointer (some ⟨zb, 1, none⟩)
  | 11 => v = .slice (some ⟨gb, 0, none⟩) n cb
  | 12 => v = .int .i64 (k : Int)
  | 13 => v = .pointer (some ⟨gb, k, none⟩)
  | 14 => v = .int .i64 x
  | 15 => v = .int .i64 (x / 2)
  | 16 => v = .int .i64 (1 + x / 2)
  | 17 => v = .int .i64 (2 * b * (1 + x / 2))
  | 18 => v = .int .i64 (x + 2 * b * (1 + x / 2))
  | 19 => v = .pointer (some ⟨gb, k, none⟩)
  | _ => True
theorem RSh.mono (zb gb n cb k : Nat) (x b : Int) (ix : Nat) (v : Value) (W W' : World) (h : RSh zb gb n cb k x b ix v W) (_ : Below W.heap.size W W') : RSh zb gb n cb k x b ix v W' := by
  unfold RSh at *
  split at h <;> exact h

theorem OI.atZ {w : World} {base g n cap : Nat} {l : List Int} (h : OI w base (.slice (some ⟨g, 0, none⟩) n cap) l) (hn : n = l.length) (j : Nat) (hj : j < l.length) : w.cell? ⟨g, j, none⟩ = some (.int .i64 (l.getD j 0)) := by
  rw [getD_lt _ _ _ hj]; exact h.at' hn j hj

set_option maxRecDepth 100000 in
set_option maxHeartbeats 8000000 in
theorem shifted_c (w : World) (vg : Value) (g : Gm) (b : Int) (hg : IsGame w vg g) (hn : g.prio.length ≤ 3000) (hp : ∀ i, i < g.prio.length → 0 ≤ g.prio.getD i 0 ∧ g.prio.getD i 0 ≤ 1000) (hb0 : 0 ≤ b) (hb4 : b ≤ 4) :
    Calls Try.prog 22 #[vg, .int .i64 b] w (NewGame (shiftG g b) w) := by
  obtain ⟨v0, v1, v2, rfl, i0, i1, i2⟩ := hg
  have HI0 := Lib.hid i0
  have HI1 := Lib.hid i1
  have HI2 := Lib.hid i2
  obtain ⟨⟨ao0, cap0, b0, off0, rfl, -⟩, -⟩ := i0
  obtain ⟨⟨ao1, cap1, b1, off1, rfl, -⟩, -⟩ := i1
  obtain ⟨V, ⟨ao2, cap2, b2, off2, rfl, -⟩, -⟩ := i2
  obtain ⟨n, hpn⟩ : ∃ n, n = g.prio.length := ⟨_, rfl⟩
  rw [← hpn] at hn hp ⊢
  have HPN := Lib.hid hpn
  have HI1' : Hid (IsInts w (Value.slice ao1 n cap1) g.prio) := by have := HI1.out; rwa [← hpn] at this
  have HP := Lib.hid hp
  clear hp HI1 hpn
  have hmx : Try.prog.follows .mixedOrders = true := by kernel_rfl
  go_enter Try.func22, Try.ntmps22
  go_wp2_with (at_builtin; go_loud (refine app_ints rfl _ _ rfl (w.heap.size + 2) _ _ [] g.prio (OI.down (OI_emptyN _ _ (by simp)) (by omega)) rfl (HI1'.out.below (by repeat (first | exact Below.refl _ _ | assumption | (refine belA ?_ _) | (refine belD ?_ _)))) rfl (by rw [← HPN.out]; simp; omega) (by simp) ?_; intro v' w' hown' hg hmv; have hBW := ((bel_box _).mono (by simp)).grown (B := w.heap.size + 2) hg (by simp) (fun g h => by simp [Value.ownBlock] at h; omega); have HF : Hid (Fr w w' #[Value.slice ao0 g.owner.length cap0, Value.slice ao1 n cap1, Value.slice ao2 g.succ.length cap2]) := ⟨Boxed.start ((bel_box _).trans (hBW.mono (by simp))), (hBW.block _ (by simp)).trans (by (repeat (rw [alloc_get]; first | rw [if_pos (by first | (simp; done) | (simp; omega))] | rw [if_neg (by first | (simp; done) | (simp; omega))])); (try rfl))⟩; rw [List.nil_append] at hown'; obtain ⟨aob, cb, hv'⟩ := hown'.slice; rw [← HPN.out] at hv'; subst hv'; have HO := Lib.hid hown'; clear hown' hg hmv hBW; have HF2 := Lib.hid (HF.out.set1 (.slice aob n cb)); have HO2 := Lib.hid (HO.out.setFar (n := w.heap.size) (j := 1) (u := .slice aob n cb) (by omega)); obtain ⟨⟨p0, p1, p2⟩, -, p3, -⟩ := HF.out.cells))
  generalize (w'.setCell ⟨w.heap.size, 1, none⟩ (.slice aob n cb)) = w2 at *
  clear p0 p1 p2 p3 HF HO
  go_loopg [5] n (fun gh i wr => ∃ k : Nat, gh = n - k ∧ i = .int .i64 k ∧ k ≤ n ∧ Fr w wr #[Value.slice ao0 g.owner.length cap0, Value.slice aob n cb, Value.slice ao2 g.succ.length cap2] ∧ OI wr (w.heap.size + 2) (.slice aob n cb) (shK g.prio b k))
  case atStart => exact ⟨0, by omega, rfl, by omega, HF2.out, by rw [shK_zero]; exact HO2.out⟩
  case round =>
    obtain ⟨k, hgk, rfl, hk, hF, hO⟩ := hrel
    have HGK := Lib.hid hgk
    clear hgk HF2 HO2
    obtain ⟨⟨r0, r1, r2⟩, -⟩ := hF.cells
    have HL : Hid ((shK g.prio b k).length = n) := by show _ = _; rw [shK_len, HPN.out]
    by_cases hlt : k < n
    · obtain ⟨gb, cq, hvq, hgq, -⟩ := hO.row (by rw [HL.out]; omega)
      simp only [Value.slice.injEq] at hvq
      obtain ⟨rfl, -, rfl⟩ := hvq
      have c1 := hO.atZ HL.out.symm k (by rw [HL.out]; exact hlt)
      rw [shK_at _ _ _ (by rw [← HPN.out]; exact hlt)] at c1
      have f1 := hO.fz HL.out.symm k
      obtain ⟨x0, x1⟩ := HP.out k hlt
      have HS := Lib.hid (shK_succ g.prio b k)
      obtain ⟨w3, rfl⟩ : ∃ w3 : World, w3 = wr := ⟨_, rfl⟩
      have HOS : Hid (∀ W, Below w3.drew.heap.size w3.drew W → OI W (w.heap.size + 2) (.slice (some ⟨gb, 0, none⟩) n cb) (shK g.prio b k)) := fun W h => hO.below ((Below.drew (Below.refl _ _)).trans h)
      have HFS : Hid (∀ W, Below w3.drew.heap.size w3.drew W → Fr w W #[Value.slice ao0 g.owner.length cap0, Value.slice (some ⟨gb, 0, none⟩) n cb, Value.slice ao2 g.succ.length cap2]) := fun W h => hF.step (((Below.drew (Below.refl _ _)).trans h).mono hF.lt)
      have HC1 := Lib.hid c1
      clear hF hO c1 f1 r0 r1 r2
      have HCL : Hid (∀ W, Below w3.drew.heap.size w3.drew W → W.cell? ⟨w.heap.size, 1, none⟩ = some (Value.slice (some ⟨gb, 0, none⟩) n cb) ∧ W.cell? ⟨gb, k, none⟩ = some (.int .i64 (g.prio.getD k 0))) := fun W h => by
        refine ⟨(HFS.out W h).cells.1.2.1, ?_⟩
        have h1 := (HOS.out W h).atZ HL.out.symm k (by rw [HL.out]; exact hlt)
        rwa [shK_at _ _ _ (by rw [← HPN.out]; exact hlt)] at h1
      generalize g.prio.getD k 0 = x at *
      have q1 : x.tdiv 2 = x / 2 := Int.tdiv_eq_ediv_of_nonneg x0
      have q2 : IntKind.i64.wrap (x / 2) = x / 2 := IntWalk.i64_in _ ⟨by omega, by omega⟩
      have hbd := shift_bd ⟨hb0, hb4⟩ ⟨x0, x1⟩
      have q3 : IntKind.i64.wrap (2 * b) = 2 * b := IntWalk.i64_in _ ⟨by omega, by omega⟩
      have q4 : IntKind.i64.wrap (1 + x / 2) = 1 + x / 2 := IntWalk.i64_in _ ⟨by omega, by omega⟩
      have q5 : IntKind.i64.wrap (2 * b * (1 + x / 2)) = 2 * b * (1 + x / 2) := IntWalk.i64_in _ ⟨by omega, by omega⟩
      have q6 : IntKind.i64.wrap (x + 2 * b * (1 + x / 2)) = x + 2 * b * (1 + x / 2) := IntWalk.i64_in _ ⟨by omega, by omega⟩
      clear hbd
      have d1 := (HCL.out w3.drew (Below.refl _ _)).1
      replace d1 : w3.cell? ⟨w.heap.size, 1, none⟩ = some (Value.slice (some ⟨gb, 0, none⟩) n cb) := d1
      go_upto_region 5 with (fail)
      clear d1
      refine region_last hmx (RSh w.heap.size gb n cb k x b) (fun vs => { tmps := (_ :: _ :: _ :: _ :: _ :: _ :: _ :: _ :: _ :: _ :: _ :: _ :: _ :: _ :: _ :: _ :: _ :: _ :: vs 0 :: vs 1 :: vs 2 :: vs 3 :: vs 4 :: vs 5 :: vs 6 :: vs 7 :: vs 8 :: vs 9 :: vs 10 :: vs 11 :: vs 12 :: vs 13 :: vs 14 :: vs 15 :: vs 16 :: vs 17 :: vs 18 :: vs 19 :: _ :: []).toArray, defers := [] }) (fun n => [u18, u19, u20, u21, u22, u23, u24, u25, u26, u27, u28, u29, u30, u31, u32, u33, u34, u35, u36, u37].getD n undef) 20 rfl (by kernel_rfl) (by kernel_rfl) (RSh.mono w.heap.size gb n cb k x b) ?step ?last
      case step =>
        intro ix o hi ho
        match ix, hi, ho with
      | 0, hi, ho =>
        obtain rfl := Option.some.inj ho
        intro vs W K hB hD hK
        have HK := Lib.hid hK
        clear hK hD ho hi
        dsimp only
        go_simp
        have h := HK.out _ _ (Below.refl _ _) rfl
        simp only [upd, Nat.reduceEqDiff, reduceIte] at h
        exact h
      | 1, hi, ho =>
        obtain rfl := Option.some.inj ho
        intro vs W K hB hD hK
        have HK := Lib.hid hK
        have e0 : vs 0 = .pointer (some ⟨w.heap.size, 1, none⟩) := dep_of hD 0 (by rfl)
        have c1 := (HCL.out W hB).1
        clear hK hD ho hi
        dsimp only
        go_simp
        have h := HK.out _ _ (Below.refl _ _) rfl
        simp only [upd, Nat.reduceEqDiff, reduceIte, e0] at h
        exact h
      | 2, hi, ho =>
        obtain rfl := Option.some.inj ho
        intro vs W K hB hD hK
        have HK := Lib.hid hK
        clear hK hD ho hi
        dsimp only
        go_simp
        have h := HK.out _ _ (Below.refl _ _) rfl
        simp only [upd, Nat.reduceEqDiff, reduceIte] at h
        exact h
      | 3, hi, ho =>
        obtain rfl := Option.some.inj ho
        intro vs W K hB hD hK
        have HK := Lib.hid hK
        clear hK hD ho hi
        dsimp only
        go_simp
        have h := HK.out _ _ (Below.refl _ _) rfl
        simp only [upd, Nat.reduceEqDiff, reduceIte] at h
        exact h
      | 4, hi, ho =>
        obtain rfl := Option.some.inj ho
        intro vs W K hB hD hK
        have HK := Lib.hid hK
        have e3 : vs 3 = .pointer (some ⟨w.heap.size, 1, none⟩) := dep_of hD 3 (by rfl)
        have c1 := (HCL.out W hB).1
        clear hK hD ho hi
        dsimp only
        go_simp
        have h := HK.out _ _ (Below.refl _ _) rfl
        simp only [upd, Nat.reduceEqDiff, reduceIte, e3] at h
        exact h
      | 5, hi, ho =>
        obtain rfl := Option.some.inj ho
        intro vs W K hB hD hK
        have HK := Lib.hid hK
        clear hK hD ho hi
        dsimp only
        go_simp
        have h := HK.out _ _ (Below.refl _ _) rfl
        simp only [upd, Nat.reduceEqDiff, reduceIte] at h
        exact h
      | 6, hi, ho =>
        obtain rfl := Option.some.inj ho
        intro vs W K hB hD hK
        have HK := Lib.hid hK
        have e4 : vs 4 = .slice (some ⟨gb, 0, none⟩) n cb := dep_of hD 4 (by rfl)
        have e5 : vs 5 = .int .i64 (k : Int) := dep_of hD 5 (by rfl)
        clear hK hD ho hi
        dsimp only
        go_simp
        have h := HK.out _ _ (Below.refl _ _) rfl
        simp only [upd, Nat.reduceEqDiff, reduceIte, e4, e5] at h
        exact h
      | 7, hi, ho =>
        obtain rfl := Option.some.inj ho
        intro vs W K hB hD hK
        have HK := Lib.hid hK
        have e6 : vs 6 = .pointer (some ⟨gb, k, none⟩) := dep_of hD 6 (by rfl)
        have c2 := (HCL.out W hB).2
        clear hK hD ho hi
        dsimp only
        go_simp
        have h := HK.out _ _ (Below.refl _ _) rfl
        simp only [upd, Nat.reduceEqDiff, reduceIte, e6] at h
        exact h
      | 8, hi, ho =>
        obtain rfl := Option.some.inj ho
        intro vs W K hB hD hK
        have HK := Lib.hid hK
        clear hK hD ho hi
        dsimp only
        go_simp
        have h := HK.out _ _ (Below.refl _ _) rfl
        simp only [upd, Nat.reduceEqDiff, reduceIte] at h
        exact h
      | 9, hi, ho =>
        obtain rfl := Option.some.inj ho
        intro vs W K hB hD hK
        have HK := Lib.hid hK
        have e8 : vs 8 = .int .i64 b := dep_of hD 8 (by rfl)
        clear hK hD ho hi
        dsimp only
        go_simp
        have h := HK.out _ _ (Below.refl _ _) rfl
        simp only [upd, Nat.reduceEqDiff, reduceIte, e8] at h
        exact h
      | 10, hi, ho =>
        obtain rfl := Option.some.inj ho
        intro vs W K hB hD hK
        have HK := Lib.hid hK
        clear hK hD ho hi
        dsimp only
        go_simp
        have h := HK.out _ _ (Below.refl _ _) rfl
        simp only [upd, Nat.reduceEqDiff, reduceIte] at h
        exact h
      | 11, hi, ho =>
        obtain rfl := Option.some.inj ho
        intro vs W K hB hD hK
        have HK := Lib.hid hK
        have e10 : vs 10 = .pointer (some ⟨w.heap.size, 1, none⟩) := dep_of hD 10 (by rfl)
        have c1 := (HCL.out W hB).1
        clear hK hD ho hi
        dsimp only
        go_simp
        have h := HK.out _ _ (Below.refl _ _) rfl
        simp only [upd, Nat.reduceEqDiff, reduceIte, e10] at h
        exact h
      | 12, hi, ho =>
        obtain rfl := Option.some.inj ho
        intro vs W K hB hD hK
        have HK := Lib.hid hK
        clear hK hD ho hi
        dsimp only
        go_simp
        have h := HK.out _ _ (Below.refl _ _) rfl
        simp only [upd, Nat.reduceEqDiff, reduceIte] at h
        exact h
      | 13, hi, ho =>
        obtain rfl := Option.some.inj ho
        intro vs W K hB hD hK
        have HK := Lib.hid hK
        have e11 : vs 11 = .slice (some ⟨gb, 0, none⟩) n cb := dep_of hD 11 (by rfl)
        have e12 : vs 12 = .int .i64 (k : Int) := dep_of hD 12 (by rfl)
        clear hK hD ho hi
        dsimp only
        go_simp
        have h := HK.out _ _ (Below.refl _ _) rfl
        simp only [upd, Nat.reduceEqDiff, reduceIte, e11, e12] at h
        exact h
      | 14, hi, ho =>
        obtain rfl := Option.some.inj ho
        intro vs W K hB hD hK
        have HK := Lib.hid hK
        have e13 : vs 13 = .pointer (some ⟨gb, k, none⟩) := dep_of hD 13 (by rfl)
        have c2 := (HCL.out W hB).2
        clear hK hD ho hi
        dsimp only
        go_simp
        have h := HK.out _ _ (Below.refl _ _) rfl
        simp only [upd, Nat.reduceEqDiff, reduceIte, e13] at h
        exact h
      | 15, hi, ho =>
        obtain rfl := Option.some.inj ho
        intro vs W K hB hD hK
        have HK := Lib.hid hK
        have e14 : vs 14 = .int .i64 x := dep_of hD 14 (by rfl)
        clear hK hD ho hi
        dsimp only
        go_simp
        have h := HK.out _ _ (Below.refl _ _) rfl
        simp only [upd, Nat.reduceEqDiff, reduceIte, e14] at h
        exact h
      | 16, hi, ho =>
        obtain rfl := Option.some.inj ho
        intro vs W K hB hD hK
        have HK := Lib.hid hK
        have e15 : vs 15 = .int .i64 (x / 2) := dep_of hD 15 (by rfl)
        clear hK hD ho hi
        dsimp only
        go_simp
        have h := HK.out _ _ (Below.refl _ _) rfl
        simp only [upd, Nat.reduceEqDiff, reduceIte, e15] at h
        exact h
      | 17, hi, ho =>
        obtain rfl := Option.some.inj ho
        intro vs W K hB hD hK
        have HK := Lib.hid hK
        have e9 : vs 9 = .int .i64 (2 * b) := dep_of hD 9 (by rfl)
        have e16 : vs 16 = .int .i64 (1 + x / 2) := dep_of hD 16 (by rfl)
        clear hK hD ho hi
        dsimp only
        go_simp
        have h := HK.out _ _ (Below.refl _ _) rfl
        simp only [upd, Nat.reduceEqDiff, reduceIte, e9, e16] at h
        exact h
      | 18, hi, ho =>
        obtain rfl := Option.some.inj ho
        intro vs W K hB hD hK
        have HK := Lib.hid hK
        have e7 : vs 7 = .int .i64 x := dep_of hD 7 (by rfl)
        have e17 : vs 17 = .int .i64 (2 * b * (1 + x / 2)) := dep_of hD 17 (by rfl)
        clear hK hD ho hi
        dsimp only
        go_simp
        have h := HK.out _ _ (Below.refl _ _) rfl
        simp only [upd, Nat.reduceEqDiff, reduceIte, e7, e17] at h
        exact h
      | 19, hi, ho =>
        obtain rfl := Option.some.inj ho
        intro vs W K hB hD hK
        have HK := Lib.hid hK
        have e1 : vs 1 = .slice (some ⟨gb, 0, none⟩) n cb := dep_of hD 1 (by rfl)
        have e2 : vs 2 = .int .i64 (k : Int) := dep_of hD 2 (by rfl)
        clear hK hD ho hi
        dsimp only
        go_simp
        have h := HK.out _ _ (Below.refl _ _) rfl
        simp only [upd, Nat.reduceEqDiff, reduceIte, e1, e2] at h
        exact h
      | n + 20, hi, ho => omega
      case last =>
        intro o ho
        obtain rfl := Option.some.inj ho
        intro vs W K hB hall hK
        have HK := Lib.hid hK
        have e18 : vs 18 = .int .i64 (x + 2 * b * (1 + x / 2)) := hall 18 (by omega)
        have e19 : vs 19 = .pointer (some ⟨gb, k, none⟩) := hall 19 (by omega)
        have c2 := (HCL.out W hB).2
        have f2 := (HOS.out W hB).fz HL.out.symm k
        have HO3 := Lib.hid ((HOS.out W hB).set HL.out.symm k (x + 2 * b * (1 + x / 2)))
        have HF3 := Lib.hid ((HFS.out W hB).own (g := gb) (j := k) hgq (.int .i64 (x + 2 * b * (1 + x / 2))))
        clear hK hall ho
        dsimp only
        go_simp
        refine HK.out _ _ ?_
        clear c2 f2 HK HCL HOS HFS HC1
        generalize (W.setCell ⟨gb, k, none⟩ (.int .i64 (x + 2 * b * (1 + x / 2)))) = w4 at *
        clear e18 e19
        generalize vs 0 = q0
        generalize vs 1 = q1
        generalize vs 2 = q2
        generalize vs 3 = q3
        generalize vs 4 = q4
        generalize vs 5 = q5
        generalize vs 6 = q6
        generalize vs 7 = q7
        generalize vs 8 = q8
        generalize vs 9 = q9
        generalize vs 10 = q10
        generalize vs 11 = q11
        generalize vs 12 = q12
        generalize vs 13 = q13
        generalize vs 14 = q14
        generalize vs 15 = q15
        generalize vs 16 = q16
        generalize vs 17 = q17
        generalize vs 18 = q18
        generalize vs 19 = q19
        clear vs
        go_wp2
        go_roundg (n - (k + 1))
        case measure => have := HGK.out; omega
        case rel => exact ⟨k + 1, rfl, by go_num, by omega, HF3.out, by rw [HS.out]; exact HO3.out⟩
    · obtain rfl : n = k := by omega
      have HFw := Lib.hid hF
      have HOw := Lib.hid hO
      obtain ⟨⟨z0, z1, z2⟩, y0, y1, y2⟩ := hF.res
      clear hF hO
      go_wp2
      (have hc3 := three_set (a := .slice ao0 g.owner.length cap0) (b := .slice aob n cb) (c := .slice ao2 g.succ.length cap2) HFw.out.rc); (have c0 := cell_of_row _ _ 0 _ _ _ hc3); (have c1 := cell_of_row _ _ 1 _ _ _ hc3); (have c2 := cell_of_row _ _ 2 _ _ _ hc3); (refine bodyPost_ret (v := .agg #[.slice ao0 g.owner.length cap0, .slice aob n cb, .slice ao2 g.succ.length cap2]) (by simp [results, Try.results22, go_sem, c0, c1, c2]) rfl ?_)
      have hbf := below_three (a := .slice ao0 g.owner.length cap0) (b := .slice aob n cb) (c := .slice ao2 g.succ.length cap2) HFw.out.bx.bl (Nat.le_succ _)
      refine gameEnd hbf (HI0.out.below hbf) ?_ (HI2.out.below hbf)
      show IsInts _ _ (g.prio.map fun x => x + 2 * b * (1 + x / 2))
      have hO : OI _ (w.heap.size + 2) (.slice aob n cb) (shK g.prio b n) := ((HOw.out.setFar (n := w.heap.size + 1) (j := 0) (u := .slice ao0 g.owner.length cap0) (by omega)).setFar (n := w.heap.size + 1) (j := 1) (u := .slice aob n cb) (by omega)).setFar (n := w.heap.size + 1) (j := 2) (u := .slice ao2 g.succ.length cap2) (by omega)
      have h1 := shK_all g.prio b
      rw [← HPN.out] at h1
      rw [← h1]
      refine hO.is (by rw [shK_len, ← HPN.out]; unfold maxN; omega) fun y hy => ?_
      rw [h1] at hy
      obtain ⟨x, hx, rfl⟩ := List.mem_map.1 hy
      obtain ⟨i, hi, rfl⟩ := List.getElem_of_mem hx
      have h2 := HP.out i (by rw [HPN.out]; exact hi)
      rw [getD_lt _ _ _ hi] at h2
      have h3 := shift_bd ⟨hb0, hb4⟩ h2
      unfold I64; omega

set_option maxRecDepth 100000 in
set_option maxHeartbeats 8000000 in
theorem Exchange_w (w : World) (vg : Value) (g : Gm) (by1 : Int) (hg : IsGame w vg g) (hy : 0 ≤ by1 ∧ by1 ≤ 255) :
    Calls Try.prog 7 #[vg, .int .u8 by1] w (Calm (.bool true) w) := by
  obtain ⟨v0, v1, v2, rfl, i0, i1, i2⟩ := id hg
  have HG := Lib.hid hg
  clear hg
  obtain ⟨⟨ao0, cap0, b0, off0, rfl, -⟩, -⟩ := i0
  obtain ⟨⟨ao1, cap1, b1, off1, rfl, -⟩, -⟩ := i1
  obtain ⟨V, ⟨ao2, cap2, b2, off2, rfl, -⟩, -⟩ := i2
  obtain ⟨hy0, hy1⟩ := hy
  go_enter Try.func7, Try.ntmps7
  go_upto_region 1 with (fail)
  have hbg := boxGame (w := w) (v0 := Value.slice ao0 g.owner.length cap0) (v1 := Value.slice ao1 g.prio.length cap1) (v2 := Value.slice ao2 g.succ.length cap2)
  generalize (w.alloc (Obj.cells #[Value.slice ao0 g.owner.length cap0, Value.slice ao1 g.prio.length cap1, Value.slice ao2 g.succ.length cap2] 25)) = w1 at *
  have HBX : Hid (∀ W, Below w1.heap.size w1 W → W.heap[w.heap.size]? = some (Obj.cells #[Value.slice ao0 g.owner.length cap0, Value.slice ao1 g.prio.length cap1, Value.slice ao2 g.succ.length cap2] 25 (0, 0))) := fun W hW => (hW.block _ (Array.getElem?_eq_some_iff.1 hbg.1).1).trans hbg.1
  have HB := Lib.hid hbg.2
  clear hbg
  go_wp2_with fail
  refine (head_c w1).mono ?_
  rintro e w2 ⟨rfl, hW⟩
  have hX := HBX.out w2 hW
  have d0 := cell_of_row _ _ 0 _ _ _ hX
  have d1 := cell_of_row _ _ 1 _ _ _ hX
  have d2 := cell_of_row _ _ 2 _ _ _ hX
  go_wp2_with fail
  refine (small_c w2 _ g 30 (HG.out.below (HB.out.trans (hW.mono HB.out.size)))).mono ?_
  rintro e w3 ⟨rfl, hb⟩
  replace hW := hW.trans (hb.mono hW.size)
  clear hb hX d0 d1 d2
  cases hsm : smallV g 30 with
  | false =>
    have hF := HB.out.trans (hW.mono HB.out.size)
    go_wp2
    go_ret
    exact ⟨rfl, hF⟩
  | true =>
    have hsm2 : smallB g 30 = true ∧ validB g = true := by unfold smallV at hsm; rwa [Bool.and_eq_true] at hsm
    have HV := Lib.hid hsm2.2
    have HSl := Lib.hid (small_sl hsm2.1)
    obtain ⟨la, lb, lc⟩ := valid_lens hsm2.2
    have HON : Hid (g.owner.length ≤ 3000 ∧ g.prio.length = g.owner.length ∧ g.succ.length = g.owner.length) := ⟨la, lb, lc⟩
    clear hsm hsm2 la lb lc
    have hX := HBX.out w3 hW
    have d0 := cell_of_row _ _ 0 _ _ _ hX
    have d1 := cell_of_row _ _ 1 _ _ _ hX
    have d2 := cell_of_row _ _ 2 _ _ _ hX
    go_wp2_with fail
    refine (Greatest_c w3 _ g (HG.out.below (HB.out.trans (hW.mono HB.out.size))) (by have := HON.out; omega)).mono ?_
    rintro e w4 ⟨rfl, hb⟩
    replace hW := hW.trans (hb.mono hW.size)
    clear hb hX d0 d1 d2
    by_cases hgr : 1000 < greatI g.prio
    · have hF := HB.out.trans (hW.mono HB.out.size)
      have hdc : decide (1000 < greatI g.prio) = true := decide_eq_true hgr
      go_wp2
      go_ret
      exact ⟨rfl, hF⟩
    · have hgr2 : greatI g.prio ≤ 1000 := by omega
      have HP : Hid (∀ i, i < g.owner.length → g.prio.getD i 0 ≤ 1000) := fun i hi => by have := le_greatI g.prio i (by have := HON.out; omega); omega
      have HSW : Hid (swapR g = swapG g) := by
        show _ = _
        unfold swapR
        rw [HV.out, if_pos]
        have : inB 29999 g.prio = true := by
          unfold inB
          rw [all_iff_getD _ _ (0 : Int)]
          intro i hi
          have h1 := HP.out i (by have := HON.out; omega)
          have h2 := (valid_at HV.out i (by have := HON.out; omega)).2.1
          simp only [Bool.and_eq_true, decide_eq_true_eq]; omega
        rw [this]; rfl
      have hX := HBX.out w4 hW
      have d0 := cell_of_row _ _ 0 _ _ _ hX
      have d1 := cell_of_row _ _ 1 _ _ _ hX
      have d2 := cell_of_row _ _ 2 _ _ _ hX
      have hdc : decide (1000 < greatI g.prio) = false := decide_eq_false hgr
      clear hgr
      generalize greatI g.prio = gr at *
      go_wp2_with fail
      refine (SolveR_c w4 _ g (HG.out.below (HB.out.trans (hW.mono HB.out.size))) HSl.out).mono ?_
      rintro e w5 ⟨vs, rfl, hi, hb⟩
      replace hW := hW.trans (hb.mono hW.size)
      have HIs := Lib.hid hi
      clear hb hX d0 d1 d2 hi hgr2 hdc
      have hX := HBX.out w5 hW
      have d0 := cell_of_row _ _ 0 _ _ _ hX
      have d1 := cell_of_row _ _ 1 _ _ _ hX
      have d2 := cell_of_row _ _ 2 _ _ _ hX
      go_wp2_with fail
      refine (Swap_c w5 _ g (HG.out.below (HB.out.trans (hW.mono HB.out.size))) HSl.out).mono ?_
      rintro e w6 ⟨vm, rfl, hm, hb⟩
      rw [HSW.out] at hm
      have HIs6 := Lib.hid (HIs.out.below hb)
      replace hW := hW.trans (hb.mono hW.size)
      clear hb hX d0 d1 d2 HIs
      go_wp2_with fail
      refine (SolveR_c w6 _ (swapG g) hm HSl.out).mono ?_
      rintro e w7 ⟨vx, rfl, hi, hb⟩
      have HIs7 := Lib.hid (HIs6.out.below hb)
      replace hW := hW.trans (hb.mono hW.size)
      rw [swap_sol HV.out (fun i h => Int.le_trans (HP.out i h) (by omega))] at hi
      clear hb hm HIs6
      have HSL : Hid ((solR g).length = g.owner.length) := solR_len HV.out
      have HTW : Hid (∀ i, i < g.owner.length → (solR g).getD i 0 = 0 ∨ (solR g).getD i 0 = 1) := fun i hi => solR_two HV.out i hi
      obtain ⟨⟨aw, cw, bw, ow, hvw, gw⟩, -⟩ := id HIs7.out
      subst hvw
      obtain ⟨⟨ax, cx, bx, ox, rfl, gx⟩, -⟩ := hi
      rw [List.length_map, HSL.out] at gx ⊢
      rw [HSL.out] at gw
      have HGw := Lib.hid gw
      have HGx := Lib.hid gx
      have hX := HBX.out w7 hW
      have d2 := cell_of_row _ _ 2 _ _ _ hX
      rw [HON.out.2.2] at d2
      have hneq : ((g.owner.length : Int) != (g.owner.length : Int)) = false := by simp
      have hnl : g.owner.length ≤ 3000 := HON.out.1
      have HIs8 : Hid (IsInts w7 (Value.slice aw g.owner.length cw) (solR g)) := by have := HIs7.out; rwa [HSL.out] at this
      have HF := Lib.hid (HB.out.trans (hW.mono HB.out.size))
      have HX := Lib.hid hX
      clear hX gw gx HIs7 HSW
      go_wp2
      clear d2 hneq
      go_loopg [8] g.owner.length (fun gh i wr => ∃ k m : Nat, gh = g.owner.length - k ∧ i = .int .i64 k ∧ k ≤ g.owner.length ∧ wr = w7.drewN m)
      case atStart => exact ⟨0, 0, by omega, rfl, by omega, rfl⟩
      case round =>
        obtain ⟨k, m, hgk, rfl, hk, rfl⟩ := hrel
        have HGK := Lib.hid hgk
        clear hgk
        by_cases hlt : k < g.owner.length
        · have hgs := HGw.out
          obtain rfl := hgs.ad (by omega)
          have e4 := hgs.el k hlt
          have hgx := HGx.out
          obtain rfl := hgx.ad (by omega)
          have e5 := hgx.el k hlt
          unfold ivF at e4 e5
          rw [getD_map0 _ _ _ (by rw [HSL.out]; exact hlt)] at e5
          have ht := HTW.out k hlt
          clear hgs hgx
          generalize (solR g).getD k 0 = x at *
          have hne : (1 - x != 1 - x) = false := by simp
          have hwr : IntKind.i64.wrap (1 - x) = 1 - x := IntWalk.i64_in _ ⟨by omega, by omega⟩
          clear ht
          go_wp2
          go_quiet (fail)
          go_wp2
          go_roundg (g.owner.length - (k + 1))
          case rel => exact ⟨k + 1, _, rfl, by go_num, by omega, rfl⟩
          case measure => have := HGK.out; omega
        · obtain rfl : k = g.owner.length := by omega
          have hX : (w7.drewN m).heap[w.heap.size]? = _ := HX.out
          have d0 := cell_of_row _ _ 0 _ _ _ hX
          have d1 := cell_of_row _ _ 1 _ _ _ hX
          have d2 := cell_of_row _ _ 2 _ _ _ hX
          have htm : by1.tmod 5 = by1 % 5 := Int.tmod_eq_emod_of_nonneg hy0
          have hw1 : IntKind.i64.wrap by1 = by1 := IntWalk.i64_in _ ⟨by omega, by omega⟩
          have hbm : 0 ≤ by1 % 5 ∧ by1 % 5 ≤ 4 := by omega
          generalize by1 % 5 = bm at *
          obtain ⟨hbm0, hbm1⟩ := hbm
          have hw2 : IntKind.i64.wrap bm = bm := IntWalk.i64_in _ ⟨by omega, by omega⟩
          have HB8 : Hid (Below w7.heap.size w7 (w7.drewN m)) := below_draws _ _ _
          generalize w7.drewN m = w8 at *
          go_wp2_with fail
          refine (shifted_c w8 _ g bm (HG.out.below (HF.out.trans (HB8.out.mono HF.out.size))) (by have := HON.out; omega) (fun i hi => ?_) hbm0 hbm1).mono ?_
          · have h1 := HP.out i (by have := HON.out; omega)
            have h2 := (valid_at HV.out i (by have := HON.out; omega)).2.1
            omega
          rintro e w9 ⟨vm, rfl, hm, hb9⟩
          have HB9 := Lib.hid (HB8.out.trans (hb9.mono HB8.out.size))
          clear hb9 HB8 d0 d1 d2 hX
          go_wp2_with fail
          refine (SolveR_c w9 _ (shiftG g bm) hm HSl.out).mono ?_
          rintro e w10 ⟨vz, rfl, hi, hb10⟩
          rw [shift_sol HV.out HP.out ⟨hbm0, hbm1⟩] at hi
          have HB10 := Lib.hid (HB9.out.trans (hb10.mono HB9.out.size))
          have HIz := Lib.hid hi
          clear hb10 HB9 hm hi
          go_wp2_with fail
          refine (Same23_c w10 _ _ (solR g) HIz.out (HIs8.out.below HB10.out)).mono ?_
          rintro e w11 ⟨rfl, hb11⟩
          have hF := HF.out.trans ((HB10.out.trans (hb11.mono HB10.out.size)).mono HF.out.size)
          clear hb11
          go_wp2
          go_ret
          exact ⟨rfl, hF⟩

end Go.Proofs.Ytjhafakkadnfmaa
