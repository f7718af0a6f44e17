/- The law RankMatchesReference: its walk. -/
import Derived.Test.YtijkjhcigdfdgaaQRkA1
namespace Go.Proofs.Ytijkjhcigdfdgaa
open Go.RowKit

theorem light_look {g : Gm} (h : lightB g = true) : LookH g := by
  unfold lightB at h
  simp only [Bool.and_eq_true, Bool.or_eq_true, Bool.not_eq_true', decide_eq_true_eq] at h
  obtain ⟨hs, ho⟩ := h
  obtain ⟨s1, s2, s3⟩ := small_prio hs
  refine ⟨fun i => by have := s3 i; omega, by omega, fun hv => ?_⟩
  rcases ho with ho | ⟨⟨h1, h2⟩, h3⟩
  · rw [hv] at ho; cases ho
  · omega
theorem best_in (f : Nat → Nat) (l : List Int) : bestI f l ∈ l ∨ bestI f l = l.getD 0 0 := by
  unfold bestI
  have key : ∀ (l' : List Int) (b : Int), l'.foldl (fun b x => if f x.toNat < f b.toNat then x else b) b ∈ l' ∨ l'.foldl (fun b x => if f x.toNat < f b.toNat then x else b) b = b := by
    intro l'
    induction l' with
    | nil => intro b; exact .inr rfl
    | cons x t ih =>
      intro b
      simp only [List.foldl_cons]
      by_cases hx : f x.toNat < f b.toNat
      · rw [if_pos hx]
        rcases ih x with h | h
        · exact .inl (List.mem_cons_of_mem _ h)
        · rw [h]; exact .inl (List.mem_cons_self ..)
      · rw [if_neg hx]
        rcases ih b with h | h
        · exact .inl (List.mem_cons_of_mem _ h)
        · exact .inr h
  exact key l _
theorem cho_fit (g : Gm) (p : Int) (m : List (List Int)) : (choG g p m).length ≤ 3000 ∧ ∀ x ∈ choG g p m, I64 x := by
  unfold choG
  cases hw : viewG g p with
  | none => exact ⟨by simp, by simp⟩
  | some h =>
    dsimp only
    have hv := (view_valid hw).1
    have hl := (valid_lens hv).1
    by_cases hm : pmB h m = true
    · rw [if_pos hm]
      refine ⟨by simp only [choV, List.length_map, List.length_range]; omega, fun x hx => ?_⟩
      simp only [choV, List.mem_map, List.mem_range] at hx
      obtain ⟨v, hv', rfl⟩ := hx
      by_cases hc : own h v = 0 ∧ m.getD v [] ≠ []
      · rw [if_pos hc]
        obtain ⟨-, -, hne, hed⟩ := valid_at hv v hv'
        have hb : ∀ x ∈ h.succ.getD v [], I64 x := fun x hx => by have := hed x hx; simp only [I64]; omega
        rcases best_in (fun u => cdN (moG h) (m.getD u [])) (h.succ.getD v []) with h1 | h1
        · exact hb _ h1
        · rw [h1]; exact getD_I64 hb 0
      · rw [if_neg hc]; simp only [I64]; omega
    · rw [if_neg hm]; exact ⟨by simp, by simp⟩
def NewI (l : List Int) (w : World) (e : Ending) (w' : World) : Prop := ∃ v, e = .returned v ∧ IsInts w' v l ∧ Below w.heap.size w w'
theorem NewSet.newI {g : Gm} {p : Int} {m : List (List Int)} {w w' : World} {e : Ending} (h : NewSet (choG g p m) w e w') : NewI (choG g p m) w e w' := by
  obtain ⟨v, rfl, ho, hb⟩ := h
  have := cho_fit g p m
  exact ⟨v, rfl, ho.is (by simp only [maxN]; omega) this.2, hb⟩
def RMa (a0 a1 a2 a3 a4 am : Option Addr) (n0 n1 n2 c0 c1 c2 c3 c4 lm cm la _zg : Nat) (p ec wk : Int) (bv : Bool) (LC : List Int) (ix : Nat) (u : Value) (W : World) : Prop :=
  match ix with
  | 0 => u = .bool true
  | 1 => u = .bool true
  | 2 => u = .int .i64 ec
  | 3 => u = .int .i64 ec
  | 4 => u = .bool true
  | 5 => u = .bool true
  | 6 => u = .bool true
  | 7 => u = .slice a3 la c3
  | 8 => u = .slice a4 la c4
  | 9 => u = .bool true
  | 10 => u = .bool true
  | 11 => u = .bool true
  | 12 => u = .agg #[.slice a0 n0 c0, .slice a1 n1 c1, .slice a2 n2 c2]
  | 13 => u = .int .i64 p
  | 14 => u = .int .i64 wk
  | 15 => u = .agg #[.slice a0 n0 c0, .slice a1 n1 c1, .slice a2 n2 c2]
  | 16 => u = .int .i64 p
  | 17 => u = .int .i64 wk
  | 18 => u = .bool true
  | 19 => u = .bool true
  | 20 => u = .bool true
  | 21 => u = .agg #[.slice a0 n0 c0, .slice a1 n1 c1, .slice a2 n2 c2]
  | 22 => u = .int .i64 p
  | 23 => u = .slice am lm cm
  | 24 => u = .bool bv
  | 25 => u = .agg #[.slice a0 n0 c0, .slice a1 n1 c1, .slice a2 n2 c2]
  | 26 => u = .int .i64 p
  | 27 => u = .slice am lm cm
  | 28 => u = .bool bv
  | 29 => u = .bool true
  | 30 => u = .bool true
  | 31 => u = .bool true
  | 32 => u = .agg #[.slice a0 n0 c0, .slice a1 n1 c1, .slice a2 n2 c2]
  | 33 => u = .int .i64 p
  | 34 => u = .slice am lm cm
  | 35 => IsInts W u LC
  | 36 => u = .agg #[.slice a0 n0 c0, .slice a1 n1 c1, .slice a2 n2 c2]
  | 37 => u = .int .i64 p
  | 38 => u = .slice am lm cm
  | 39 => IsInts W u LC
  | 40 => u = .bool true
  | 41 => u = .bool true
  | 42 => u = .bool true
  | _ => True
theorem RMa.below {ix : Nat} {u : Value} {W W' : World} {a0 a1 a2 a3 a4 am : Option Addr} {n0 n1 n2 c0 c1 c2 c3 c4 lm cm la zg : Nat} {p ec wk : Int} {bv : Bool} {LC : List Int} (h : RMa a0 a1 a2 a3 a4 am n0 n1 n2 c0 c1 c2 c3 c4 lm cm la zg p ec wk bv LC ix u W) (hb : Below W.heap.size W W') : RMa a0 a1 a2 a3 a4 am n0 n1 n2 c0 c1 c2 c3 c4 lm cm la zg p ec wk bv LC ix u W' := by
  unfold RMa at *
  split at h <;> first | exact h | trivial | exact IsInts.below h hb

set_option maxRecDepth 100000 in
set_option maxHeartbeats 8000000 in
theorem Match_walk (w : World) (vg vm : Value) (g : Gm) (p : Int) (m : List (List Int)) (hg : IsGame w vg g) (hm : IsRows w vm m) : Calls Try.prog 3 #[vg, .int .i64 p, vm] w (Calm (.bool true) w) := by
  have hmx : Try.prog.follows .mixedOrders = true := by kernel_rfl
  obtain ⟨am, cm, rfl⟩ : ∃ a c, vm = .slice a m.length c := by
    obtain ⟨a, c, b, o, V, rfl, -⟩ := hm.data
    exact ⟨a, c, rfl⟩
  generalize hlm : m.length = lm at *
  clear hlm
  obtain ⟨a0, c0, a1, c1, a2, c2, rfl⟩ := hg.shape
  generalize hn0 : g.owner.length = n0 at *
  generalize hn1 : g.prio.length = n1 at *
  generalize hn2 : g.succ.length = n2 at *
  have HN0 := Lib.hid hn0
  clear hn0 hn1 hn2
  go_enter Try.func3, Try.ntmps3
  go_upto_region 1 with (fail)
  obtain ⟨hx, hb, hB⟩ := box_new (w0 := w) (Below.refl _ _) (Nat.le_refl _) #[.slice a0 n0 c0, .slice a1 n1 c1, .slice a2 n2 c2] 25
  replace hg := hg.below hb
  replace hm := hm.below hb
  generalize w.alloc (.cells #[.slice a0 n0 c0, .slice a1 n1 c1, .slice a2 n2 c2] 25) = w1 at *
  clear hb
  go_wp2_with fail
  refine (head_c _).mono ?_
  rintro e w2 ⟨rfl, hb⟩
  replace hx := (hb.block _ (Array.getElem?_eq_some_iff.1 hx).1).trans hx
  replace hg := hg.below hb
  replace hm := hm.below hb
  replace hB := hB.trans (hb.mono hB.size)
  clear hb 
  have k0 := cell_of_row _ _ 0 _ _ _ hx
  have k1 := cell_of_row _ _ 1 _ _ _ hx
  have k2 := cell_of_row _ _ 2 _ _ _ hx
  go_wp2_with fail
  refine (Light_c _ _ g hg).mono ?_
  rintro e w3 ⟨rfl, hb⟩
  replace hx := (hb.block _ (Array.getElem?_eq_some_iff.1 hx).1).trans hx
  replace hg := hg.below hb
  replace hm := hm.below hb
  replace hB := hB.trans (hb.mono hB.size)
  clear hb k0 k1 k2
  cases hf : lightB g with
  | false =>
    clear hf
    go_wp2_with fail
    go_ret
    exact ⟨rfl, hB⟩
  | true =>
  have HF := Lib.hid (light_look hf)
  clear hf
  by_cases h20 : (20 : Int) < (lm : Int)
  · go_wp2_with fail
    go_ret
    exact ⟨rfl, hB⟩
  obtain ⟨bM, oM, dM, nM, fM⟩ := hm.dat2
  have HFM := Lib.hid fM
  have HBB := Lib.hid hB
  have HGG := Lib.hid hg
  have HMM := Lib.hid hm
  have HXX := Lib.hid hx
  clear fM hg hm hx hB
  go_wp2_with fail
  go_loopg [8] lm (fun gh i wr => ∃ k : Nat, gh = lm - k ∧ i = .int .i64 (k : Int) ∧ k ≤ lm ∧ w3 = wr)
  case atStart => exact ⟨0, rfl, rfl, by omega, rfl⟩
  case round =>
    obtain ⟨k, hgk, rfl, hk, rfl⟩ := hrel
    have HGK := Lib.hid hgk
    clear hgk
    by_cases hlt : k < lm
    · obtain rfl := dM (by omega)
      have i1 : (k : Int) < (lm : Int) := by omega
      have hi0 : (0 : Int) ≤ (k : Int) := by omega
      obtain ⟨a1', e1, cM, -⟩ := HFM.out k hlt
      generalize (m.getD k []).length = x at *
      by_cases h12 : (12 : Int) < (x : Int)
      · go_wp2
        go_ret
        exact ⟨rfl, HBB.out⟩
      · go_wp2
        go_roundg (lm - (k + 1))
        case measure => have := HGK.out; omega
        case rel => exact ⟨k + 1, rfl, by go_num, by omega, rfl⟩
    · have i1 : ¬ (k : Int) < (lm : Int) := by omega
      have hg := HGG.out
      have hm := HMM.out
      have hx := HXX.out
      have hB := HBB.out
      clear HGG HMM HXX HBB HFM dM nM h20
      obtain ⟨A, ec, hAe⟩ : ∃ A ec, measG g p = (A, ec) := ⟨_, _, rfl⟩
      go_upto_region 9 with (fail)
      have k0 := cell_of_row _ _ 0 _ _ _ hx
      have k1 := cell_of_row _ _ 1 _ _ _ hx
      have k2 := cell_of_row _ _ 2 _ _ _ hx
      go_wp2_with fail
      refine (Measure_c _ _ g p hg HF.out fun h e hw => top_work e hw).mono ?_
      intro e w4 h
      obtain ⟨a3, c3, rfl, hm0, hb⟩ : ∃ a c, e = .returned (.tuple #[.slice a A.length c, .int .i64 ec]) ∧ IsRows w4 (.slice a A.length c) A ∧ Below w3.heap.size w3 w4 := h.ex hAe
      clear h
      replace hx := (hb.block _ (Array.getElem?_eq_some_iff.1 hx).1).trans hx
      replace hg := hg.below hb
      replace hm := hm.below hb
      replace hB := hB.trans (hb.mono hB.size)
      clear hb k0 k1 k2
      go_upto_region 10 with (fail)
      have k0 := cell_of_row _ _ 0 _ _ _ hx
      have k1 := cell_of_row _ _ 1 _ _ _ hx
      have k2 := cell_of_row _ _ 2 _ _ _ hx
      go_wp2_with fail
      refine (RMeasure_c _ _ g p hg HF.out.n).mono ?_
      intro e w5 h
      obtain ⟨a4, c4, rfl, hm1, hb⟩ : ∃ a c, e = .returned (.tuple #[.slice a A.length c, .int .i64 ec]) ∧ IsRows w5 (.slice a A.length c) A ∧ Below w4.heap.size w4 w5 := h.ex hAe
      clear h
      replace hx := (hb.block _ (Array.getElem?_eq_some_iff.1 hx).1).trans hx
      replace hg := hg.below hb
      replace hm := hm.below hb
      replace hm0 := hm0.below hb
      replace hB := hB.trans (hb.mono hB.size)
      clear hb k0 k1 k2
      go_upto_region 11 with (fail)
      obtain ⟨wk, hwk⟩ : ∃ wk, wk = (workV g p : Int) := ⟨_, rfl⟩
      obtain ⟨bv, hbv⟩ : ∃ bv, bv = validV g p m := ⟨_, rfl⟩
      obtain ⟨LC, hLC⟩ : ∃ LC, LC = choG g p m := ⟨_, rfl⟩
      have HBB := Lib.hid hB
      have HBD : Hid (∀ W, Below w5.drew.heap.size w5.drew W → Below w5.heap.size w5 W) := fun W h => (Below.drew (B := w5.heap.size) (Below.refl _ _)).trans h
      have HG : Hid (∀ W, Below w5.drew.heap.size w5.drew W → W.cell? ⟨w.heap.size, 0, none⟩ = some (.slice a0 n0 c0) ∧ W.cell? ⟨w.heap.size, 1, none⟩ = some (.slice a1 n1 c1) ∧ W.cell? ⟨w.heap.size, 2, none⟩ = some (.slice a2 n2 c2)) := fun W h => by
        have hh := HBD.out W h
        have k := (hh.block _ (Array.getElem?_eq_some_iff.1 hx).1).trans hx
        exact ⟨cell_of_row _ _ 0 _ _ _ k, cell_of_row _ _ 1 _ _ _ k, cell_of_row _ _ 2 _ _ _ k⟩
      have HSM : Hid (∀ W, Below w5.drew.heap.size w5.drew W → Calls Try.prog 13 #[.slice a3 A.length c3, .slice a4 A.length c4] W (Calm (.bool true) W)) := fun W h => by
        have := Same_c W _ _ A A (hm0.below (HBD.out W h)) (hm1.below (HBD.out W h))
        rw [show decide (A = A) = true from decide_eq_true rfl] at this
        exact this.mono fun e w' h => h.calm
      have HW1 : Hid (∀ W, Below w5.drew.heap.size w5.drew W → Calls Try.prog 14 #[.agg #[.slice a0 n0 c0, .slice a1 n1 c1, .slice a2 n2 c2], .int .i64 p] W (Calm (.int .i64 wk) W)) := fun W h => by
        rw [hwk]; exact Work_c W _ g p (hg.below (HBD.out W h)) HF.out
      have HW2 : Hid (∀ W, Below w5.drew.heap.size w5.drew W → Calls Try.prog 15 #[.agg #[.slice a0 n0 c0, .slice a1 n1 c1, .slice a2 n2 c2], .int .i64 p] W (Calm (.int .i64 wk) W)) := fun W h => by
        rw [hwk]; exact RWork_c W _ g p (hg.below (HBD.out W h)) HF.out.n
      have HV1 : Hid (∀ W, Below w5.drew.heap.size w5.drew W → Calls Try.prog 16 #[.agg #[.slice a0 n0 c0, .slice a1 n1 c1, .slice a2 n2 c2], .int .i64 p, .slice am lm cm] W (Calm (.bool bv) W)) := fun W h => by
        rw [hbv]; exact Valid_c W _ _ g p m (hg.below (HBD.out W h)) (hm.below (HBD.out W h)) HF.out
      have HV2 : Hid (∀ W, Below w5.drew.heap.size w5.drew W → Calls Try.prog 17 #[.agg #[.slice a0 n0 c0, .slice a1 n1 c1, .slice a2 n2 c2], .int .i64 p, .slice am lm cm] W (Calm (.bool bv) W)) := fun W h => by
        rw [hbv]; exact RValidM_c W _ _ g p m (hg.below (HBD.out W h)) (hm.below (HBD.out W h)) HF.out.n
      have HC1 : Hid (∀ W, Below w5.drew.heap.size w5.drew W → Calls Try.prog 19 #[.agg #[.slice a0 n0 c0, .slice a1 n1 c1, .slice a2 n2 c2], .int .i64 p, .slice am lm cm] W (NewI LC W)) := fun W h => by
        rw [hLC]; exact (Choose_c W _ _ g p m (hg.below (HBD.out W h)) (hm.below (HBD.out W h)) HF.out).mono fun e w' h => h.newI
      have HC2 : Hid (∀ W, Below w5.drew.heap.size w5.drew W → Calls Try.prog 20 #[.agg #[.slice a0 n0 c0, .slice a1 n1 c1, .slice a2 n2 c2], .int .i64 p, .slice am lm cm] W (NewI LC W)) := fun W h => by
        rw [hLC]; exact (RChoose_c W _ _ g p m (hg.below (HBD.out W h)) (hm.below (HBD.out W h)) HF.out.n).mono fun e w' h => h.newI
      have HIN : Hid (∀ W u v, IsInts W u LC → IsInts W v LC → Calls Try.prog 18 #[u, v] W (Calm (.bool true) W)) := fun W u v h1 h2 => by
        have := Ints_c W u v LC LC h1 h2
        rw [show decide (LC = LC) = true from decide_eq_true rfl] at this
        exact this.mono fun e w' h => h.calm
      clear hm0 hm1 hg hm hx hB hwk hbv hLC hAe HF
      generalize A.length = la at *
      refine region_stable hmx (RMa a0 a1 a2 a3 a4 am n0 n1 n2 c0 c1 c2 c3 c4 lm cm la w.heap.size p ec wk bv LC) (fun vs => { tmps := (_ :: _ :: _ :: _ :: _ :: _ :: vs 42 :: _ :: _ :: _ :: _ :: _ :: _ :: _ :: _ :: _ :: _ :: _ :: _ :: _ :: _ :: _ :: _ :: _ :: _ :: _ :: _ :: _ :: _ :: _ :: _ :: _ :: _ :: _ :: _ :: _ :: _ :: _ :: _ :: _ :: _ :: _ :: _ :: _ :: _ :: _ :: _ :: _ :: vs 0 :: vs 1 :: vs 2 :: vs 3 :: vs 4 :: vs 5 :: vs 6 :: vs 7 :: vs 8 :: vs 9 :: vs 10 :: vs 11 :: vs 12 :: vs 13 :: vs 14 :: vs 15 :: vs 16 :: vs 17 :: vs 18 :: vs 19 :: vs 20 :: vs 21 :: vs 22 :: vs 23 :: vs 24 :: vs 25 :: vs 26 :: vs 27 :: vs 28 :: vs 29 :: vs 30 :: vs 31 :: vs 32 :: vs 33 :: vs 34 :: vs 35 :: vs 36 :: vs 37 :: vs 38 :: vs 39 :: vs 40 :: vs 41 :: []).toArray, defers := _ }) (fun n => [undef, undef, undef, undef, undef, undef, undef, undef, undef, undef, undef, undef, undef, undef, undef, undef, undef, undef, undef, undef, undef, undef, undef, undef, undef, undef, undef, undef, undef, undef, undef, undef, undef, undef, undef, undef, undef, undef, undef, undef, undef, undef, u6].getD n undef) rfl (by kernel_rfl) (fun _ _ _ _ h hb => h.below hb) ?step ?fin
      case step =>
        intro ix o ho
        match ix, ho with
        | 0, ho =>
          obtain rfl := Option.some.inj ho
          intro vs W K hB hD hK
          have HK := Lib.hid hK
          clear hK hD ho
          dsimp only
          go_simp
          have h := HK.out _ _ (Below.refl _ _) rfl
          simp only [upd, Nat.reduceEqDiff, reduceIte] at h
          exact h
        | 1, ho =>
          obtain rfl := Option.some.inj ho
          intro vs W K hB hD hK
          have HK := Lib.hid hK
          have e0 : vs 0 = .bool true := dep_of hD 0 (by rfl)
          clear hK hD ho
          dsimp only
          go_simp
          have h := HK.out _ _ (Below.refl _ _) rfl
          simp only [upd, Nat.reduceEqDiff, reduceIte, e0] at h
          exact h
        | 2, ho =>
          obtain rfl := Option.some.inj ho
          intro vs W K hB hD hK
          have HK := Lib.hid hK
          have e1 : vs 1 = .bool true := dep_of hD 1 (by rfl)
          clear hK hD ho
          dsimp only
          go_simp
          have h := HK.out _ _ (Below.refl _ _) rfl
          simp only [upd, Nat.reduceEqDiff, reduceIte, e1] at h
          exact h
        | 3, ho =>
          obtain rfl := Option.some.inj ho
          intro vs W K hB hD hK
          have HK := Lib.hid hK
          have e1 : vs 1 = .bool true := dep_of hD 1 (by rfl)
          clear hK hD ho
          dsimp only
          go_simp
          have h := HK.out _ _ (Below.refl _ _) rfl
          simp only [upd, Nat.reduceEqDiff, reduceIte, e1] at h
          exact h
        | 4, ho =>
          obtain rfl := Option.some.inj ho
          intro vs W K hB hD hK
          have HK := Lib.hid hK
          have e1 : vs 1 = .bool true := dep_of hD 1 (by rfl)
          have e2 : vs 2 = .int .i64 ec := dep_of hD 2 (by rfl)
          have e3 : vs 3 = .int .i64 ec := dep_of hD 3 (by rfl)
          clear hK hD ho
          dsimp only
          go_simp
          have h := HK.out _ _ (Below.refl _ _) rfl
          simp only [upd, Nat.reduceEqDiff, reduceIte, e1, e2, e3] at h
          exact h
        | 5, ho =>
          obtain rfl := Option.some.inj ho
          intro vs W K hB hD hK
          have HK := Lib.hid hK
          have e1 : vs 1 = .bool true := dep_of hD 1 (by rfl)
          have e4 : vs 4 = .bool true := dep_of hD 4 (by rfl)
          clear hK hD ho
          dsimp only
          go_simp
          have h := HK.out _ _ (Below.refl _ _) rfl
          simp only [upd, Nat.reduceEqDiff, reduceIte, e1, e4] at h
          exact h
        | 6, ho =>
          obtain rfl := Option.some.inj ho
          intro vs W K hB hD hK
          have HK := Lib.hid hK
          have e5 : vs 5 = .bool true := dep_of hD 5 (by rfl)
          clear hK hD ho
          dsimp only
          go_simp
          have h := HK.out _ _ (Below.refl _ _) rfl
          simp only [upd, Nat.reduceEqDiff, reduceIte, e5] at h
          exact h
        | 7, ho =>
          obtain rfl := Option.some.inj ho
          intro vs W K hB hD hK
          have HK := Lib.hid hK
          have e6 : vs 6 = .bool true := dep_of hD 6 (by rfl)
          clear hK hD ho
          dsimp only
          go_simp
          have h := HK.out _ _ (Below.refl _ _) rfl
          simp only [upd, Nat.reduceEqDiff, reduceIte, e6] at h
          exact h
        | 8, ho =>
          obtain rfl := Option.some.inj ho
          intro vs W K hB hD hK
          have HK := Lib.hid hK
          have e6 : vs 6 = .bool true := dep_of hD 6 (by rfl)
          clear hK hD ho
          dsimp only
          go_simp
          have h := HK.out _ _ (Below.refl _ _) rfl
          simp only [upd, Nat.reduceEqDiff, reduceIte, e6] at h
          exact h
        | 9, ho =>
          obtain rfl := Option.some.inj ho
          intro vs W K hB hD hK
          have HK := Lib.hid hK
          have e6 : vs 6 = .bool true := dep_of hD 6 (by rfl)
          have e7 : vs 7 = .slice a3 la c3 := dep_of hD 7 (by rfl)
          have e8 : vs 8 = .slice a4 la c4 := dep_of hD 8 (by rfl)
          clear hK hD ho
          dsimp only
          go_simp
          refine (HSM.out W hB).mono ?_
          rintro e W' ⟨rfl, hb⟩
          have h := HK.out _ _ hb rfl
          simp only [upd, Nat.reduceEqDiff, reduceIte, e6, e7, e8] at h
          exact h
        | 10, ho =>
          obtain rfl := Option.some.inj ho
          intro vs W K hB hD hK
          have HK := Lib.hid hK
          have e6 : vs 6 = .bool true := dep_of hD 6 (by rfl)
          have e9 : vs 9 = .bool true := dep_of hD 9 (by rfl)
          clear hK hD ho
          dsimp only
          go_simp
          have h := HK.out _ _ (Below.refl _ _) rfl
          simp only [upd, Nat.reduceEqDiff, reduceIte, e6, e9] at h
          exact h
        | 11, ho =>
          obtain rfl := Option.some.inj ho
          intro vs W K hB hD hK
          have HK := Lib.hid hK
          have e10 : vs 10 = .bool true := dep_of hD 10 (by rfl)
          clear hK hD ho
          dsimp only
          go_simp
          have h := HK.out _ _ (Below.refl _ _) rfl
          simp only [upd, Nat.reduceEqDiff, reduceIte, e10] at h
          exact h
        | 12, ho =>
          obtain rfl := Option.some.inj ho
          intro vs W K hB hD hK
          have HK := Lib.hid hK
          have e11 : vs 11 = .bool true := dep_of hD 11 (by rfl)
          obtain ⟨d0, d1, d2⟩ := HG.out W hB
          clear hK hD ho
          dsimp only
          go_simp
          have h := HK.out _ _ (Below.refl _ _) rfl
          simp only [upd, Nat.reduceEqDiff, reduceIte, e11] at h
          exact h
        | 13, ho =>
          obtain rfl := Option.some.inj ho
          intro vs W K hB hD hK
          have HK := Lib.hid hK
          have e11 : vs 11 = .bool true := dep_of hD 11 (by rfl)
          clear hK hD ho
          dsimp only
          go_simp
          have h := HK.out _ _ (Below.refl _ _) rfl
          simp only [upd, Nat.reduceEqDiff, reduceIte, e11] at h
          exact h
        | 14, ho =>
          obtain rfl := Option.some.inj ho
          intro vs W K hB hD hK
          have HK := Lib.hid hK
          have e11 : vs 11 = .bool true := dep_of hD 11 (by rfl)
          have e12 : vs 12 = .agg #[.slice a0 n0 c0, .slice a1 n1 c1, .slice a2 n2 c2] := dep_of hD 12 (by rfl)
          have e13 : vs 13 = .int .i64 p := dep_of hD 13 (by rfl)
          clear hK hD ho
          dsimp only
          go_simp
          refine (HW1.out W hB).mono ?_
          rintro e W' ⟨rfl, hb⟩
          have h := HK.out _ _ hb rfl
          simp only [upd, Nat.reduceEqDiff, reduceIte, e11, e12, e13] at h
          exact h
        | 15, ho =>
          obtain rfl := Option.some.inj ho
          intro vs W K hB hD hK
          have HK := Lib.hid hK
          have e11 : vs 11 = .bool true := dep_of hD 11 (by rfl)
          obtain ⟨d0, d1, d2⟩ := HG.out W hB
          clear hK hD ho
          dsimp only
          go_simp
          have h := HK.out _ _ (Below.refl _ _) rfl
          simp only [upd, Nat.reduceEqDiff, reduceIte, e11] at h
          exact h
        | 16, ho =>
          obtain rfl := Option.some.inj ho
          intro vs W K hB hD hK
          have HK := Lib.hid hK
          have e11 : vs 11 = .bool true := dep_of hD 11 (by rfl)
          clear hK hD ho
          dsimp only
          go_simp
          have h := HK.out _ _ (Below.refl _ _) rfl
          simp only [upd, Nat.reduceEqDiff, reduceIte, e11] at h
          exact h
        | 17, ho =>
          obtain rfl := Option.some.inj ho
          intro vs W K hB hD hK
          have HK := Lib.hid hK
          have e11 : vs 11 = .bool true := dep_of hD 11 (by rfl)
          have e15 : vs 15 = .agg #[.slice a0 n0 c0, .slice a1 n1 c1, .slice a2 n2 c2] := dep_of hD 15 (by rfl)
          have e16 : vs 16 = .int .i64 p := dep_of hD 16 (by rfl)
          clear hK hD ho
          dsimp only
          go_simp
          refine (HW2.out W hB).mono ?_
          rintro e W' ⟨rfl, hb⟩
          have h := HK.out _ _ hb rfl
          simp only [upd, Nat.reduceEqDiff, reduceIte, e11, e15, e16] at h
          exact h
        | 18, ho =>
          obtain rfl := Option.some.inj ho
          intro vs W K hB hD hK
          have HK := Lib.hid hK
          have e11 : vs 11 = .bool true := dep_of hD 11 (by rfl)
          have e14 : vs 14 = .int .i64 wk := dep_of hD 14 (by rfl)
          have e17 : vs 17 = .int .i64 wk := dep_of hD 17 (by rfl)
          clear hK hD ho
          dsimp only
          go_simp
          have h := HK.out _ _ (Below.refl _ _) rfl
          simp only [upd, Nat.reduceEqDiff, reduceIte, e11, e14, e17] at h
          exact h
        | 19, ho =>
          obtain rfl := Option.some.inj ho
          intro vs W K hB hD hK
          have HK := Lib.hid hK
          have e11 : vs 11 = .bool true := dep_of hD 11 (by rfl)
          have e18 : vs 18 = .bool true := dep_of hD 18 (by rfl)
          clear hK hD ho
          dsimp only
          go_simp
          have h := HK.out _ _ (Below.refl _ _) rfl
          simp only [upd, Nat.reduceEqDiff, reduceIte, e11, e18] at h
          exact h
        | 20, ho =>
          obtain rfl := Option.some.inj ho
          intro vs W K hB hD hK
          have HK := Lib.hid hK
          have e19 : vs 19 = .bool true := dep_of hD 19 (by rfl)
          clear hK hD ho
          dsimp only
          go_simp
          have h := HK.out _ _ (Below.refl _ _) rfl
          simp only [upd, Nat.reduceEqDiff, reduceIte, e19] at h
          exact h
        | 21, ho =>
          obtain rfl := Option.some.inj ho
          intro vs W K hB hD hK
          have HK := Lib.hid hK
          have e20 : vs 20 = .bool true := dep_of hD 20 (by rfl)
          obtain ⟨d0, d1, d2⟩ := HG.out W hB
          clear hK hD ho
          dsimp only
          go_simp
          have h := HK.out _ _ (Below.refl _ _) rfl
          simp only [upd, Nat.reduceEqDiff, reduceIte, e20] at h
          exact h
        | 22, ho =>
          obtain rfl := Option.some.inj ho
          intro vs W K hB hD hK
          have HK := Lib.hid hK
          have e20 : vs 20 = .bool true := dep_of hD 20 (by rfl)
          clear hK hD ho
          dsimp only
          go_simp
          have h := HK.out _ _ (Below.refl _ _) rfl
          simp only [upd, Nat.reduceEqDiff, reduceIte, e20] at h
          exact h
        | 23, ho =>
          obtain rfl := Option.some.inj ho
          intro vs W K hB hD hK
          have HK := Lib.hid hK
          have e20 : vs 20 = .bool true := dep_of hD 20 (by rfl)
          clear hK hD ho
          dsimp only
          go_simp
          have h := HK.out _ _ (Below.refl _ _) rfl
          simp only [upd, Nat.reduceEqDiff, reduceIte, e20] at h
          exact h
        | 24, ho =>
          obtain rfl := Option.some.inj ho
          intro vs W K hB hD hK
          have HK := Lib.hid hK
          have e20 : vs 20 = .bool true := dep_of hD 20 (by rfl)
          have e21 : vs 21 = .agg #[.slice a0 n0 c0, .slice a1 n1 c1, .slice a2 n2 c2] := dep_of hD 21 (by rfl)
          have e22 : vs 22 = .int .i64 p := dep_of hD 22 (by rfl)
          have e23 : vs 23 = .slice am lm cm := dep_of hD 23 (by rfl)
          clear hK hD ho
          dsimp only
          go_simp
          refine (HV1.out W hB).mono ?_
          rintro e W' ⟨rfl, hb⟩
          have h := HK.out _ _ hb rfl
          simp only [upd, Nat.reduceEqDiff, reduceIte, e20, e21, e22, e23] at h
          exact h
        | 25, ho =>
          obtain rfl := Option.some.inj ho
          intro vs W K hB hD hK
          have HK := Lib.hid hK
          have e20 : vs 20 = .bool true := dep_of hD 20 (by rfl)
          obtain ⟨d0, d1, d2⟩ := HG.out W hB
          clear hK hD ho
          dsimp only
          go_simp
          have h := HK.out _ _ (Below.refl _ _) rfl
          simp only [upd, Nat.reduceEqDiff, reduceIte, e20] at h
          exact h
        | 26, ho =>
          obtain rfl := Option.some.inj ho
          intro vs W K hB hD hK
          have HK := Lib.hid hK
          have e20 : vs 20 = .bool true := dep_of hD 20 (by rfl)
          clear hK hD ho
          dsimp only
          go_simp
          have h := HK.out _ _ (Below.refl _ _) rfl
          simp only [upd, Nat.reduceEqDiff, reduceIte, e20] at h
          exact h
        | 27, ho =>
          obtain rfl := Option.some.inj ho
          intro vs W K hB hD hK
          have HK := Lib.hid hK
          have e20 : vs 20 = .bool true := dep_of hD 20 (by rfl)
          clear hK hD ho
          dsimp only
          go_simp
          have h := HK.out _ _ (Below.refl _ _) rfl
          simp only [upd, Nat.reduceEqDiff, reduceIte, e20] at h
          exact h
        | 28, ho =>
          obtain rfl := Option.some.inj ho
          intro vs W K hB hD hK
          have HK := Lib.hid hK
          have e20 : vs 20 = .bool true := dep_of hD 20 (by rfl)
          have e25 : vs 25 = .agg #[.slice a0 n0 c0, .slice a1 n1 c1, .slice a2 n2 c2] := dep_of hD 25 (by rfl)
          have e26 : vs 26 = .int .i64 p := dep_of hD 26 (by rfl)
          have e27 : vs 27 = .slice am lm cm := dep_of hD 27 (by rfl)
          clear hK hD ho
          dsimp only
          go_simp
          refine (HV2.out W hB).mono ?_
          rintro e W' ⟨rfl, hb⟩
          have h := HK.out _ _ hb rfl
          simp only [upd, Nat.reduceEqDiff, reduceIte, e20, e25, e26, e27] at h
          exact h
        | 29, ho =>
          obtain rfl := Option.some.inj ho
          intro vs W K hB hD hK
          have HK := Lib.hid hK
          have e20 : vs 20 = .bool true := dep_of hD 20 (by rfl)
          have e24 : vs 24 = .bool bv := dep_of hD 24 (by rfl)
          have e28 : vs 28 = .bool bv := dep_of hD 28 (by rfl)
          clear hK hD ho
          dsimp only
          go_simp
          have h := HK.out _ _ (Below.refl _ _) rfl
          simp only [upd, Nat.reduceEqDiff, reduceIte, e20, e24, e28] at h
          exact h
        | 30, ho =>
          obtain rfl := Option.some.inj ho
          intro vs W K hB hD hK
          have HK := Lib.hid hK
          have e20 : vs 20 = .bool true := dep_of hD 20 (by rfl)
          have e29 : vs 29 = .bool true := dep_of hD 29 (by rfl)
          clear hK hD ho
          dsimp only
          go_simp
          have h := HK.out _ _ (Below.refl _ _) rfl
          simp only [upd, Nat.reduceEqDiff, reduceIte, e20, e29] at h
          exact h
        | 31, ho =>
          obtain rfl := Option.some.inj ho
          intro vs W K hB hD hK
          have HK := Lib.hid hK
          have e30 : vs 30 = .bool true := dep_of hD 30 (by rfl)
          clear hK hD ho
          dsimp only
          go_simp
          have h := HK.out _ _ (Below.refl _ _) rfl
          simp only [upd, Nat.reduceEqDiff, reduceIte, e30] at h
          exact h
        | 32, ho =>
          obtain rfl := Option.some.inj ho
          intro vs W K hB hD hK
          have HK := Lib.hid hK
          have e31 : vs 31 = .bool true := dep_of hD 31 (by rfl)
          obtain ⟨d0, d1, d2⟩ := HG.out W hB
          clear hK hD ho
          dsimp only
          go_simp
          have h := HK.out _ _ (Below.refl _ _) rfl
          simp only [upd, Nat.reduceEqDiff, reduceIte, e31] at h
          exact h
        | 33, ho =>
          obtain rfl := Option.some.inj ho
          intro vs W K hB hD hK
          have HK := Lib.hid hK
          have e31 : vs 31 = .bool true := dep_of hD 31 (by rfl)
          clear hK hD ho
          dsimp only
          go_simp
          have h := HK.out _ _ (Below.refl _ _) rfl
          simp only [upd, Nat.reduceEqDiff, reduceIte, e31] at h
          exact h
        | 34, ho =>
          obtain rfl := Option.some.inj ho
          intro vs W K hB hD hK
          have HK := Lib.hid hK
          have e31 : vs 31 = .bool true := dep_of hD 31 (by rfl)
          clear hK hD ho
          dsimp only
          go_simp
          have h := HK.out _ _ (Below.refl _ _) rfl
          simp only [upd, Nat.reduceEqDiff, reduceIte, e31] at h
          exact h
        | 35, ho =>
          obtain rfl := Option.some.inj ho
          intro vs W K hB hD hK
          have HK := Lib.hid hK
          have e31 : vs 31 = .bool true := dep_of hD 31 (by rfl)
          have e32 : vs 32 = .agg #[.slice a0 n0 c0, .slice a1 n1 c1, .slice a2 n2 c2] := dep_of hD 32 (by rfl)
          have e33 : vs 33 = .int .i64 p := dep_of hD 33 (by rfl)
          have e34 : vs 34 = .slice am lm cm := dep_of hD 34 (by rfl)
          clear hK hD ho
          dsimp only
          go_simp
          refine (HC1.out W hB).mono ?_
          rintro e W' ⟨u', rfl, hu, hb⟩
          have h := HK.out _ _ hb hu
          simp only [upd, Nat.reduceEqDiff, reduceIte, e31, e32, e33, e34] at h
          exact h
        | 36, ho =>
          obtain rfl := Option.some.inj ho
          intro vs W K hB hD hK
          have HK := Lib.hid hK
          have e31 : vs 31 = .bool true := dep_of hD 31 (by rfl)
          obtain ⟨d0, d1, d2⟩ := HG.out W hB
          clear hK hD ho
          dsimp only
          go_simp
          have h := HK.out _ _ (Below.refl _ _) rfl
          simp only [upd, Nat.reduceEqDiff, reduceIte, e31] at h
          exact h
        | 37, ho =>
          obtain rfl := Option.some.inj ho
          intro vs W K hB hD hK
          have HK := Lib.hid hK
          have e31 : vs 31 = .bool true := dep_of hD 31 (by rfl)
          clear hK hD ho
          dsimp only
          go_simp
          have h := HK.out _ _ (Below.refl _ _) rfl
          simp only [upd, Nat.reduceEqDiff, reduceIte, e31] at h
          exact h
        | 38, ho =>
          obtain rfl := Option.some.inj ho
          intro vs W K hB hD hK
          have HK := Lib.hid hK
          have e31 : vs 31 = .bool true := dep_of hD 31 (by rfl)
          clear hK hD ho
          dsimp only
          go_simp
          have h := HK.out _ _ (Below.refl _ _) rfl
          simp only [upd, Nat.reduceEqDiff, reduceIte, e31] at h
          exact h
        | 39, ho =>
          obtain rfl := Option.some.inj ho
          intro vs W K hB hD hK
          have HK := Lib.hid hK
          have e31 : vs 31 = .bool true := dep_of hD 31 (by rfl)
          have e36 : vs 36 = .agg #[.slice a0 n0 c0, .slice a1 n1 c1, .slice a2 n2 c2] := dep_of hD 36 (by rfl)
          have e37 : vs 37 = .int .i64 p := dep_of hD 37 (by rfl)
          have e38 : vs 38 = .slice am lm cm := dep_of hD 38 (by rfl)
          clear hK hD ho
          dsimp only
          go_simp
          refine (HC2.out W hB).mono ?_
          rintro e W' ⟨u', rfl, hu, hb⟩
          have h := HK.out _ _ hb hu
          simp only [upd, Nat.reduceEqDiff, reduceIte, e31, e36, e37, e38] at h
          exact h
        | 40, ho =>
          obtain rfl := Option.some.inj ho
          intro vs W K hB hD hK
          have HK := Lib.hid hK
          have e31 : vs 31 = .bool true := dep_of hD 31 (by rfl)
          have i35 := dep_of (R := RMa a0 a1 a2 a3 a4 am n0 n1 n2 c0 c1 c2 c3 c4 lm cm la w.heap.size p ec wk bv LC) hD 35 (by rfl)
          have i39 := dep_of (R := RMa a0 a1 a2 a3 a4 am n0 n1 n2 c0 c1 c2 c3 c4 lm cm la w.heap.size p ec wk bv LC) hD 39 (by rfl)
          clear hK hD ho
          dsimp only
          go_simp
          refine (HIN.out W _ _ i35 i39).mono ?_
          rintro e W' ⟨rfl, hb⟩
          have h := HK.out _ _ hb rfl
          simp only [upd, Nat.reduceEqDiff, reduceIte, e31] at h
          exact h
        | 41, ho =>
          obtain rfl := Option.some.inj ho
          intro vs W K hB hD hK
          have HK := Lib.hid hK
          have e31 : vs 31 = .bool true := dep_of hD 31 (by rfl)
          have e40 : vs 40 = .bool true := dep_of hD 40 (by rfl)
          clear hK hD ho
          dsimp only
          go_simp
          have h := HK.out _ _ (Below.refl _ _) rfl
          simp only [upd, Nat.reduceEqDiff, reduceIte, e31, e40] at h
          exact h
        | 42, ho =>
          obtain rfl := Option.some.inj ho
          intro vs W K hB hD hK
          have HK := Lib.hid hK
          have e41 : vs 41 = .bool true := dep_of hD 41 (by rfl)
          clear hK hD ho
          dsimp only
          go_simp
          have h := HK.out _ _ (Below.refl _ _) rfl
          simp only [upd, Nat.reduceEqDiff, reduceIte, e41] at h
          exact h
        | q + 43, ho => exact absurd ho (by simp)
      case fin =>
        intro vs wz hB hall
        have el : vs 42 = .bool true := hall 42 (by decide)
        have HB3 := Lib.hid (HBB.out.trans ((HBD.out _ hB).mono HBB.out.size))
        clear hall hB HG HSM HW1 HW2 HV1 HV2 HC1 HC2 HIN
        rw [el]
        clear el
        generalize vs 0 = z0q
        generalize vs 1 = z1q
        generalize vs 2 = z2q
        generalize vs 3 = z3q
        generalize vs 4 = z4q
        generalize vs 5 = z5q
        generalize vs 6 = z6q
        generalize vs 7 = z7q
        generalize vs 8 = z8q
        generalize vs 9 = z9q
        generalize vs 10 = z10q
        generalize vs 11 = z11q
        generalize vs 12 = z12q
        generalize vs 13 = z13q
        generalize vs 14 = z14q
        generalize vs 15 = z15q
        generalize vs 16 = z16q
        generalize vs 17 = z17q
        generalize vs 18 = z18q
        generalize vs 19 = z19q
        generalize vs 20 = z20q
        generalize vs 21 = z21q
        generalize vs 22 = z22q
        generalize vs 23 = z23q
        generalize vs 24 = z24q
        generalize vs 25 = z25q
        generalize vs 26 = z26q
        generalize vs 27 = z27q
        generalize vs 28 = z28q
        generalize vs 29 = z29q
        generalize vs 30 = z30q
        generalize vs 31 = z31q
        generalize vs 32 = z32q
        generalize vs 33 = z33q
        generalize vs 34 = z34q
        generalize vs 35 = z35q
        generalize vs 36 = z36q
        generalize vs 37 = z37q
        generalize vs 38 = z38q
        generalize vs 39 = z39q
        generalize vs 40 = z40q
        generalize vs 41 = z41q
        clear vs
        go_wp2
        go_ret
        exact ⟨rfl, HB3.out⟩


end Go.Proofs.Ytijkjhcigdfdgaa
