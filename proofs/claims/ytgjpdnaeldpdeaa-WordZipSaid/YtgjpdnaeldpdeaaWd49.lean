/- The walk of WordZip. -/
import Derived.Test.YtgjpdnaeldpdeaaWd45
namespace Go.Proofs.Ytgjpdnaeldpdeaa
open Go.RowKit

theorem zip_at {a b : Ls} {t : List (List Int)} (h : 0 < (zipI a b t).loop.length) (k : Nat) : ∃ X Y : Nat, atI a k = X ∧ atI b k = Y ∧ X < t.length ∧ Y < (t.getD X []).length ∧ atI (zipI a b t) k = (t.getD X []).getD Y 0 := by
  obtain ⟨ha, hb, hok, hf, hn, hw⟩ := zip_pos h
  have hla := (letters_iff (form_pos ha)).1 ⟨((formB_iff a).1 ha).2.2.2.1, ((formB_iff a).1 ha).2.2.2.2⟩ k
  have hlb := (letters_iff (form_pos hb)).1 ⟨((formB_iff b).1 hb).2.2.2.1, ((formB_iff b).1 hb).2.2.2.2⟩ k
  rw [letB_iff] at hla hlb
  have h1 := hok k
  simp only [zipOk, Bool.and_eq_true, decide_eq_true_eq] at h1
  refine ⟨(atL a k).toNat, (atL b k).toNat, ?_, ?_, h1.1.1, h1.1.2, ?_⟩
  · rw [atI_form ha]; omega
  · rw [atI_form hb]; omega
  · rw [atI_form hf, hw]; rfl
theorem zip_suffixI {a b : Ls} {t : List (List Int)} (h : 0 < (zipI a b t).loop.length) (k : Nat) : zipI (suffixI a k) (suffixI b k) t = suffixI (zipI a b t) k := by
  obtain ⟨ha, hb, hok, hf, hn, hw⟩ := zip_pos h
  rw [suffixI_form ha, suffixI_form hb, suffixI_form hf, zip_suffix h]

/-- What the operations of a drawn statement leave. -/
def RZa (a b : Ls) (ix : Nat) (v : Value) (W : World) : Prop :=
  match ix with
  | 0 => LV (a) v W
  | 1 => LV (b) v W
  | 2 => RV (firstT) v W
  | 3 => LV (zipI a b firstT) v W
  | 4 => LV (a) v W
  | 5 => v = .bool true
  | 6 => v = .bool false
  | _ => True
theorem RZa.mono (a b : Ls) (ix : Nat) (v : Value) (W W' : World) (h : RZa a b ix v W) (hb : Below W.heap.size W W') : RZa a b ix v W' := by
  unfold RZa at *
  split at h <;> first | exact h | exact SL.below h hb | exact LV.below h hb | exact RV.below h hb

/-- What the operations of a drawn statement leave. -/
def RZb (t : List (List Int)) (zl : Ls) (k X Y bt ot ct rb ro nr rc : Nat) (zz : Int) (ix : Nat) (v : Value) (W : World) : Prop :=
  match ix with
  | 0 => v = .int .i64 (X : Int)
  | 1 => v = .bool false
  | 2 => v = .bool false
  | 3 => v = .int .i64 (X : Int)
  | 4 => v = .slice (some ⟨bt, ot, none⟩) t.length ct
  | 5 => v = .int .i64 (t.length : Int)
  | 6 => v = .bool false
  | 7 => v = .bool false
  | 8 => v = .bool false
  | 9 => v = .int .i64 (Y : Int)
  | 10 => v = .bool false
  | 11 => v = .bool false
  | 12 => v = .bool false
  | 13 => v = .int .i64 (Y : Int)
  | 14 => v = .slice (some ⟨bt, ot, none⟩) t.length ct
  | 15 => v = .int .i64 (X : Int)
  | 16 => v = .pointer (some ⟨bt, ot + X, none⟩)
  | 17 => v = .slice (some ⟨rb, ro, none⟩) nr rc
  | 18 => v = .int .i64 (nr : Int)
  | 19 => v = .bool false
  | 20 => v = .bool false
  | 21 => v = .bool false
  | 22 => LV (zl) v W
  | 23 => v = .int .i64 (k : Int)
  | 24 => v = .int .i64 zz
  | 25 => v = .slice (some ⟨bt, ot, none⟩) t.length ct
  | 26 => v = .int .i64 (X : Int)
  | 27 => v = .pointer (some ⟨bt, ot + X, none⟩)
  | 28 => v = .slice (some ⟨rb, ro, none⟩) nr rc
  | 29 => v = .int .i64 (Y : Int)
  | 30 => v = .pointer (some ⟨rb, ro + Y, none⟩)
  | 31 => v = .int .i64 zz
  | 32 => v = .bool false
  | 33 => v = .bool false
  | _ => True
theorem RZb.mono (t : List (List Int)) (zl : Ls) (k X Y bt ot ct rb ro nr rc : Nat) (zz : Int) (ix : Nat) (v : Value) (W W' : World) (h : RZb t zl k X Y bt ot ct rb ro nr rc zz ix v W) (hb : Below W.heap.size W W') : RZb t zl k X Y bt ot ct rb ro nr rc zz ix v W' := by
  unfold RZb at *
  split at h <;> first | exact h | exact SL.below h hb | exact LV.below h hb | exact RV.below h hb

/-- What the operations of a drawn statement leave. -/
def RZc (a b zl : Ls) (t : List (List Int)) (kk bt ot ct : Nat) (ix : Nat) (v : Value) (W : World) : Prop :=
  match ix with
  | 0 => v = .bool true
  | 1 => v = .bool true
  | 2 => LV (zl) v W
  | 3 => v = .int .i64 (kk : Int)
  | 4 => LV (suffixI zl (kk : Int)) v W
  | 5 => LV (a) v W
  | 6 => v = .int .i64 (kk : Int)
  | 7 => LV (suffixI a (kk : Int)) v W
  | 8 => LV (b) v W
  | 9 => v = .int .i64 (kk : Int)
  | 10 => LV (suffixI b (kk : Int)) v W
  | 11 => v = .slice (some ⟨bt, ot, none⟩) t.length ct
  | 12 => LV (suffixI zl (kk : Int)) v W
  | 13 => v = .bool true
  | 14 => v = .bool true
  | 15 => v = .bool true
  | _ => True
theorem RZc.mono (a b zl : Ls) (t : List (List Int)) (kk bt ot ct : Nat) (ix : Nat) (v : Value) (W W' : World) (h : RZc a b zl t kk bt ot ct ix v W) (hb : Below W.heap.size W W') : RZc a b zl t kk bt ot ct ix v W' := by
  unfold RZc at *
  split at h <;> first | exact h | exact SL.below h hb | exact LV.below h hb | exact RV.below h hb

set_option maxRecDepth 100000 in
set_option maxHeartbeats 8000000 in
theorem Zip_w (w : World) (va vb vt : Value) (a b : Ls) (t : List (List Int)) (n : Int) (ha : IsLs w va a) (hb : IsLs w vb b) (ht : IsRows w vt t) (hn : 0 ≤ n ∧ n ≤ 255) :
    Calls Try.prog 9 #[va, vb, vt, .int .u8 n] w (Calm (.bool true) w) := by
  have hmx : Try.prog.follows .mixedOrders = true := by kernel_rfl
  obtain ⟨v0, v1, rfl, h0, h1⟩ := ha
  obtain ⟨v2, v3, rfl, h2, h3⟩ := hb
  obtain ⟨b0, b1, hB⟩ := boxTwo (IsLs.mk h0 h1) (IsLs.mk h2 h3)
  have HA := Lib.hid b0
  have HB := Lib.hid b1
  obtain ⟨⟨a0, c0, -, -, rfl, -⟩, -⟩ := h0
  obtain ⟨⟨a1, c1, -, -, rfl, -⟩, -⟩ := h1
  obtain ⟨⟨a2, c2, -, -, rfl, -⟩, -⟩ := h2
  obtain ⟨⟨a3, c3, -, -, rfl, -⟩, -⟩ := h3
  have ht2 := ht.below hB
  obtain ⟨_, ⟨at0, ct, -, -, rfl, -⟩, -⟩ := ht
  have HB0 := Lib.hid hB
  go_enter Try.func9, Try.ntmps9
  go_upto_region 1 with (fail)
  generalize ((w.alloc (Obj.cells #[Value.slice a0 a.stem.length c0, Value.slice a1 a.loop.length c1] 24)).alloc (Obj.cells #[Value.slice a2 b.stem.length c2, Value.slice a3 b.loop.length c3] 24)) = w2 at *
  have HT2 := Lib.hid ht2
  clear b0 b1 hB ht2
  go_wp2_with fail
  refine (head_c w2).mono ?_
  rintro e w3 ⟨rfl, hW⟩
  obtain ⟨k0, k1, hld⟩ := HA.out w3 hW
  go_wp2_with fail
  cases hfa : formB a with
  | false =>
    refine (hr_formed w3 hld hfa).mono ?_
    rintro e w4 ⟨rfl, hb4⟩
    have hF := HB0.out.trans ((hW.trans (hb4.mono hW.size)).mono HB0.out.size)
    go_wp2
    go_ret
    exact ⟨ret_bool rfl, hF⟩
  | true =>
    refine (hr_formed w3 hld hfa).mono ?_
    rintro e w4 ⟨rfl, hb4⟩
    replace hW := hW.trans (hb4.mono hW.size)
    clear hb4 hld k0 k1
    obtain ⟨k0, k1, hld⟩ := HB.out w4 hW
    go_wp2_with fail
    cases hfb : formB b with
    | false =>
      refine (hr_formed w4 hld hfb).mono ?_
      rintro e w5 ⟨rfl, hb4⟩
      have hF := HB0.out.trans ((hW.trans (hb4.mono hW.size)).mono HB0.out.size)
      go_wp2
      go_ret
      exact ⟨ret_bool rfl, hF⟩
    | true =>
      refine (hr_formed w4 hld hfb).mono ?_
      rintro e w5 ⟨rfl, hb4⟩
      replace hW := hW.trans (hb4.mono hW.size)
      clear hb4 hld k0 k1
      by_cases hT : t.length ≤ 64
      case neg =>
        have hd : (64 : Int) < t.length := by omega
        have hF := HB0.out.trans (hW.mono HB0.out.size)
        go_wp2
        go_ret
        exact ⟨ret_bool rfl, hF⟩
      have hd2 : ¬ (64 : Int) < t.length := by omega
      have HZF := Lib.hid (zip_first hfa hfb)
      go_upto_region 4 with (fail)
      refine region_stable hmx (RZa a b) (fun vs => { tmps := (_ :: _ :: _ :: _ :: _ :: _ :: _ :: _ :: _ :: _ :: _ :: _ :: _ :: _ :: _ :: _ :: _ :: _ :: _ :: _ :: _ :: _ :: _ :: _ :: _ :: _ :: _ :: _ :: _ :: _ :: vs 0 :: vs 1 :: vs 2 :: vs 3 :: vs 4 :: vs 5 :: vs 6 :: _ :: _ :: _ :: _ :: _ :: _ :: _ :: _ :: _ :: _ :: _ :: _ :: _ :: _ :: _ :: _ :: _ :: _ :: _ :: _ :: _ :: _ :: _ :: _ :: _ :: _ :: _ :: _ :: _ :: _ :: _ :: _ :: _ :: _ :: _ :: _ :: _ :: _ :: _ :: _ :: _ :: _ :: _ :: _ :: _ :: _ :: _ :: _ :: _ :: _ :: _ :: _ :: _ :: _ :: _ :: _ :: _ :: _ :: _ :: _ :: _ :: _ :: _ :: _ :: _ :: _ :: _ :: _ :: _ :: _ :: _ :: []).toArray, defers := [] }) (fun _ => undef) rfl (by kernel_rfl) (RZa.mono a b) ?step4 ?fin4
      case step4 =>
        intro ix o ho
        match ix, ho with
        | 0, ho =>
          obtain rfl := Option.some.inj ho
          intro vs W K hB hD hK
          have HK := Lib.hid hK
          have hc := hW.trans (((Below.drew (Below.refl _ _)).trans hB).mono hW.size)
          obtain ⟨k0, k1, hld⟩ := HA.out W hc
          clear hK hD ho
          dsimp only
          go_simp
          have h := HK.out _ _ (Below.refl _ _) hld
          simp only [upd, Nat.reduceEqDiff, reduceIte] at h
          exact h
        | 1, ho =>
          obtain rfl := Option.some.inj ho
          intro vs W K hB hD hK
          have HK := Lib.hid hK
          have hc := hW.trans (((Below.drew (Below.refl _ _)).trans hB).mono hW.size)
          obtain ⟨k0, k1, hld⟩ := HB.out W hc
          clear hK hD ho
          dsimp only
          go_simp
          have h := HK.out _ _ (Below.refl _ _) hld
          simp only [upd, Nat.reduceEqDiff, reduceIte] at h
          exact h
        | 2, ho =>
          obtain rfl := Option.some.inj ho
          intro vs W K hB hD hK
          have HK := Lib.hid hK
          clear hK hD ho
          dsimp only
          go_simp
          refine (first_c W).mono ?_
          rintro e W' ⟨v, rfl, hv, hb⟩
          have h := HK.out _ _ hb hv
          simp only [upd, Nat.reduceEqDiff, reduceIte] at h
          exact h
        | 3, ho =>
          obtain rfl := Option.some.inj ho
          intro vs W K hB hD hK
          have HK := Lib.hid hK
          have d0 := dep_of hD 0 (by rfl)
          have d1 := dep_of hD 1 (by rfl)
          have d2 := dep_of hD 2 (by rfl)
          clear hK hD ho
          dsimp only
          go_simp
          refine (hg_zip W d0 d1 d2 rfl).mono ?_
          rintro e W' ⟨v, rfl, hv, hb⟩
          have h := HK.out _ _ hb hv
          simp only [upd, Nat.reduceEqDiff, reduceIte] at h
          exact h
        | 4, ho =>
          obtain rfl := Option.some.inj ho
          intro vs W K hB hD hK
          have HK := Lib.hid hK
          have hc := hW.trans (((Below.drew (Below.refl _ _)).trans hB).mono hW.size)
          obtain ⟨k0, k1, hld⟩ := HA.out W hc
          clear hK hD ho
          dsimp only
          go_simp
          have h := HK.out _ _ (Below.refl _ _) hld
          simp only [upd, Nat.reduceEqDiff, reduceIte] at h
          exact h
        | 5, ho =>
          obtain rfl := Option.some.inj ho
          intro vs W K hB hD hK
          have HK := Lib.hid hK
          have d3 := dep_of hD 3 (by rfl)
          have d4 := dep_of hD 4 (by rfl)
          clear hK hD ho
          dsimp only
          go_simp
          refine (hd_same W d3 d4 HZF.out).mono ?_
          rintro e W' ⟨rfl, hb⟩
          have h := HK.out _ _ hb rfl
          simp only [upd, Nat.reduceEqDiff, reduceIte] at h
          exact h
        | 6, ho =>
          obtain rfl := Option.some.inj ho
          intro vs W K hB hD hK
          have HK := Lib.hid hK
          have e5 : vs 5 = .bool true := dep_of hD 5 (by rfl)
          clear hK hD ho
          dsimp only
          go_simp
          have h := HK.out _ _ (Below.refl _ _) rfl
          simp only [upd, Nat.reduceEqDiff, reduceIte, e5] at h
          exact h
        | n + 7, ho => simp at ho
      case fin4 =>
        intro vs W3 hB hall
        have e : vs 6 = .bool false := hall 6 (by decide)
        have hW6 := hW.trans (((Below.drew (Below.refl _ _)).trans hB).mono hW.size)
        clear hall hB hW hfa hfb HZF
        rw [e]
        clear e
        generalize vs 0 = q0
        generalize vs 1 = q1
        generalize vs 2 = q2
        generalize vs 3 = q3
        generalize vs 4 = q4
        generalize vs 5 = q5
        clear vs
        obtain ⟨w6, rfl⟩ : ∃ w6 : World, w6 = W3 := ⟨_, rfl⟩
        obtain ⟨k0, k1, hld⟩ := HA.out w6 hW6
        obtain ⟨k2, k3, hld2⟩ := HB.out w6 hW6
        go_wp2_with fail
        obtain ⟨zl, hzl⟩ : ∃ zl, zipI a b t = zl := ⟨_, rfl⟩
        refine (hg_zip w6 hld hld2 (IsRows.below HT2.out hW6) hzl).mono ?_
        rintro e w7 ⟨v, rfl, ⟨x0, y0, x1, y1, rfl, hs⟩, hb4⟩
        have hW7 := hW6.trans (hb4.mono hW6.size)
        clear hb4 hld k0 k1 hld2 k2 k3 hW6
        go_upto_region 7 with (fail)
        have hx := bel_box (w := w7) (Obj.cells #[Value.slice x0 zl.stem.length y0, Value.slice x1 zl.loop.length y1] 24)
        have HZ : Hid (BoxL w7.heap.size (Value.slice x0 zl.stem.length y0) (Value.slice x1 zl.loop.length y1) zl (w7.alloc (Obj.cells #[Value.slice x0 zl.stem.length y0, Value.slice x1 zl.loop.length y1] 24))) := BoxL.of (heap_alloc_new w7 _) (hs.below hx)
        have hW8 := hW7.trans (hx.mono hW7.size)
        have HA8 := Lib.hid (HA.out.below hW8)
        have HB8 := Lib.hid (HB.out.below hW8)
        have HT8 := Lib.hid (IsRows.below HT2.out hW8)
        have HF8 := Lib.hid (HB0.out.trans (hW8.mono HB0.out.size))
        clear hs hx hW7 hW8 HA HB HT2 HB0
        generalize (w7.alloc (Obj.cells #[Value.slice x0 zl.stem.length y0, Value.slice x1 zl.loop.length y1] 24)) = w8 at *
        generalize w7.heap.size = bs at *
        obtain ⟨-, d1, -⟩ := HZ.out w8 (Below.refl _ _)
        by_cases hz0 : zl.loop.length = 0
        case pos =>
          have hzi : ((zl.loop.length : Int) == 0) = true := by simp [hz0]
          clear hz0
          go_wp2
          go_ret
          exact ⟨ret_bool rfl, HF8.out⟩
        have hzi : ((zl.loop.length : Int) == 0) = false := beq_eq_false_iff_ne.2 (by omega)
        have HAt : Hid (∀ k : Nat, ∃ X Y : Nat, atI a k = X ∧ atI b k = Y ∧ X < t.length ∧ Y < (t.getD X []).length ∧ atI zl k = (t.getD X []).getD Y 0) := fun k => by subst hzl; exact zip_at (by omega) k
        have HSu : Hid (∀ k : Nat, zipI (suffixI a k) (suffixI b k) t = suffixI zl k) := fun k => by subst hzl; exact zip_suffixI (by omega) k
        have ht0 : 0 < t.length := by obtain ⟨X, Y, -, -, h, -⟩ := HAt.out 0; omega
        obtain ⟨V, ⟨ao, cap, bt, ot, hv, g⟩, hr⟩ := HT8.out
        obtain ⟨rfl, rfl⟩ : at0 = ao ∧ ct = cap := by simpa using hv
        obtain rfl := g.ad ht0
        have HG := Lib.hid g.el
        have HR := Lib.hid hr
        clear hv g hr hzl
        have HRT : Hid (∀ W, Below w8.heap.size w8 W → RV t (.slice (some ⟨bt, ot, none⟩) t.length ct) W) := fun W h => IsRows.below HT8.out h
        clear HT8
        go_wp2
        clear d1
        go_loopg [11, 12, 13] 200 (fun gh i _ _ wr => ∃ k : Nat, gh = 200 - k ∧ i = .int .i64 k ∧ k ≤ 200 ∧ Below w8.heap.size w8 wr)
        case atStart => exact ⟨0, by omega, rfl, by omega, Below.refl _ _⟩
        case round =>
          obtain ⟨k, rfl, rfl, hk, hW⟩ := hrel
          by_cases hlt : k < 200
          · have hki : (k : Int) < 200 := by omega
            have HIk := Lib.hid (show I64 (k : Int) by unfold I64; omega)
            obtain ⟨X, Y, hX, hY, hXt, hYr, hz⟩ := HAt.out k
            obtain ⟨⟨ra, rc, rb, ro, hV, g⟩, hri⟩ := HR.out X hXt
            have hnr := g.nb
            obtain rfl := g.ad (by omega)
            have HPR : Hid (∀ W, Below w8.heap.size w8 W → W.cell? ⟨rb, ro + Y, none⟩ = some (.int .i64 ((t.getD X []).getD Y 0))) := fun W h => cellB h (g.el Y hYr)
            have HPT : Hid (∀ W, Below w8.heap.size w8 W → W.cell? ⟨bt, ot + X, none⟩ = some (.slice (some ⟨rb, ro, none⟩) (t.getD X []).length rc)) := fun W h => by
              rw [← hV]; exact cellB h (HG.out X hXt)
            have HXi := Lib.hid hX
            have HYi := Lib.hid hY
            have HZi := Lib.hid hz
            clear hX hY hz g hri hV
            generalize (t.getD X []).length = nr at *
            generalize (t.getD X []).getD Y 0 = zz at *
            obtain ⟨k0, k1, hld⟩ := HA8.out wr hW
            go_wp2_with fail
            refine (hd_at wr hld HIk.out HXi.out).mono ?_
            rintro e w9 ⟨rfl, hb4⟩
            have hW9 := hW.trans (hb4.mono hW.size)
            clear hb4 hld k0 k1 hW
            obtain ⟨k0, k1, hld⟩ := HB8.out w9 hW9
            go_wp2_with fail
            refine (hd_at w9 hld HIk.out HYi.out).mono ?_
            rintro e w10 ⟨rfl, hb4⟩
            have hW := hW9.trans (hb4.mono hW9.size)
            clear hb4 hld k0 k1 hW9
            have q1 : ¬ (X : Int) < 0 := by omega
            have q2 : ¬ (Y : Int) < 0 := by omega
            have q3 : decide (t.length ≤ X) = false := decide_eq_false (by omega)
            have q4 : decide (nr ≤ Y) = false := decide_eq_false (by omega)
            have q5 : (X : Int) < t.length := by omega
            have q6 : (Y : Int) < nr := by omega
            go_upto_region 14 with (fail)
            refine region_stable hmx (RZb t zl k X Y bt ot ct rb ro nr rc zz) (fun vs => { tmps := (_ :: _ :: _ :: _ :: _ :: _ :: _ :: _ :: _ :: _ :: _ :: _ :: _ :: _ :: _ :: _ :: _ :: _ :: _ :: _ :: _ :: _ :: _ :: _ :: _ :: _ :: _ :: _ :: _ :: _ :: _ :: _ :: _ :: _ :: _ :: _ :: _ :: _ :: _ :: _ :: _ :: _ :: _ :: _ :: _ :: _ :: _ :: _ :: _ :: _ :: _ :: _ :: _ :: _ :: _ :: _ :: vs 0 :: vs 1 :: vs 2 :: vs 3 :: vs 4 :: vs 5 :: vs 6 :: vs 7 :: vs 8 :: vs 9 :: vs 10 :: vs 11 :: vs 12 :: vs 13 :: vs 14 :: vs 15 :: vs 16 :: vs 17 :: vs 18 :: vs 19 :: vs 20 :: vs 21 :: vs 22 :: vs 23 :: vs 24 :: vs 25 :: vs 26 :: vs 27 :: vs 28 :: vs 29 :: vs 30 :: vs 31 :: vs 32 :: vs 33 :: _ :: _ :: _ :: _ :: _ :: _ :: _ :: _ :: _ :: _ :: _ :: _ :: _ :: _ :: _ :: _ :: _ :: _ :: []).toArray, defers := [] }) (fun n => [u56, u57, u58, u59, u60, u61, u62, u63, u64, u65, u66, u67, u68, u69, u70, u71, u72, u73, u74, u75, u76, u77, u78, u79, u80, u81, u82, u83, u84, u85, u86, u87, u88, u89].getD n undef) rfl (by kernel_rfl) (RZb.mono t zl k X Y bt ot ct rb ro nr rc zz) ?step14 ?fin14
            case step14 =>
              intro ix o ho
              match ix, ho with
              | 0, ho =>
                obtain rfl := Option.some.inj ho
                intro vs W K hB hD hK
                have HK := Lib.hid hK
                clear hK hD ho
                dsimp only
                go_simp
                have h := HK.out _ _ (Below.refl _ _) rfl
                simp only [upd, Nat.reduceEqDiff, reduceIte] at h
                exact h
              | 1, ho =>
                obtain rfl := Option.some.inj ho
                intro vs W K hB hD hK
                have HK := Lib.hid hK
                have e0 : vs 0 = .int .i64 (X : Int) := dep_of hD 0 (by rfl)
                clear hK hD ho
                dsimp only
                go_simp
                have h := HK.out _ _ (Below.refl _ _) rfl
                simp only [upd, Nat.reduceEqDiff, reduceIte, e0] at h
                exact h
              | 2, ho =>
                obtain rfl := Option.some.inj ho
                intro vs W K hB hD hK
                have HK := Lib.hid hK
                have e1 : vs 1 = .bool false := dep_of hD 1 (by rfl)
                clear hK hD ho
                dsimp only
                go_simp
                have h := HK.out _ _ (Below.refl _ _) rfl
                simp only [upd, Nat.reduceEqDiff, reduceIte, e1] at h
                exact h
              | 3, ho =>
                obtain rfl := Option.some.inj ho
                intro vs W K hB hD hK
                have HK := Lib.hid hK
                have e2 : vs 2 = .bool false := dep_of hD 2 (by rfl)
                clear hK hD ho
                dsimp only
                go_simp
                have h := HK.out _ _ (Below.refl _ _) rfl
                simp only [upd, Nat.reduceEqDiff, reduceIte, e2] at h
                exact h
              | 4, ho =>
                obtain rfl := Option.some.inj ho
                intro vs W K hB hD hK
                have HK := Lib.hid hK
                have e2 : vs 2 = .bool false := dep_of hD 2 (by rfl)
                clear hK hD ho
                dsimp only
                go_simp
                have h := HK.out _ _ (Below.refl _ _) rfl
                simp only [upd, Nat.reduceEqDiff, reduceIte, e2] at h
                exact h
              | 5, ho =>
                obtain rfl := Option.some.inj ho
                intro vs W K hB hD hK
                have HK := Lib.hid hK
                have e2 : vs 2 = .bool false := dep_of hD 2 (by rfl)
                have e4 : vs 4 = .slice (some ⟨bt, ot, none⟩) t.length ct := dep_of hD 4 (by rfl)
                clear hK hD ho
                dsimp only
                go_simp
                have h := HK.out _ _ (Below.refl _ _) rfl
                simp only [upd, Nat.reduceEqDiff, reduceIte, e2, e4] at h
                exact h
              | 6, ho =>
                obtain rfl := Option.some.inj ho
                intro vs W K hB hD hK
                have HK := Lib.hid hK
                have e2 : vs 2 = .bool false := dep_of hD 2 (by rfl)
                have e3 : vs 3 = .int .i64 (X : Int) := dep_of hD 3 (by rfl)
                have e5 : vs 5 = .int .i64 (t.length : Int) := dep_of hD 5 (by rfl)
                clear hK hD ho
                dsimp only
                go_simp
                have h := HK.out _ _ (Below.refl _ _) rfl
                simp only [upd, Nat.reduceEqDiff, reduceIte, e2, e3, e5] at h
                exact h
              | 7, ho =>
                obtain rfl := Option.some.inj ho
                intro vs W K hB hD hK
                have HK := Lib.hid hK
                have e2 : vs 2 = .bool false := dep_of hD 2 (by rfl)
                have e6 : vs 6 = .bool false := dep_of hD 6 (by rfl)
                clear hK hD ho
                dsimp only
                go_simp
                have h := HK.out _ _ (Below.refl _ _) rfl
                simp only [upd, Nat.reduceEqDiff, reduceIte, e2, e6] at h
                exact h
              | 8, ho =>
                obtain rfl := Option.some.inj ho
                intro vs W K hB hD hK
                have HK := Lib.hid hK
                have e7 : vs 7 = .bool false := dep_of hD 7 (by rfl)
                clear hK hD ho
                dsimp only
                go_simp
                have h := HK.out _ _ (Below.refl _ _) rfl
                simp only [upd, Nat.reduceEqDiff, reduceIte, e7] at h
                exact h
              | 9, ho =>
                obtain rfl := Option.some.inj ho
                intro vs W K hB hD hK
                have HK := Lib.hid hK
                have e8 : vs 8 = .bool false := dep_of hD 8 (by rfl)
                clear hK hD ho
                dsimp only
                go_simp
                have h := HK.out _ _ (Below.refl _ _) rfl
                simp only [upd, Nat.reduceEqDiff, reduceIte, e8] at h
                exact h
              | 10, ho =>
                obtain rfl := Option.some.inj ho
                intro vs W K hB hD hK
                have HK := Lib.hid hK
                have e8 : vs 8 = .bool false := dep_of hD 8 (by rfl)
                have e9 : vs 9 = .int .i64 (Y : Int) := dep_of hD 9 (by rfl)
                clear hK hD ho
                dsimp only
                go_simp
                have h := HK.out _ _ (Below.refl _ _) rfl
                simp only [upd, Nat.reduceEqDiff, reduceIte, e8, e9] at h
                exact h
              | 11, ho =>
                obtain rfl := Option.some.inj ho
                intro vs W K hB hD hK
                have HK := Lib.hid hK
                have e8 : vs 8 = .bool false := dep_of hD 8 (by rfl)
                have e10 : vs 10 = .bool false := dep_of hD 10 (by rfl)
                clear hK hD ho
                dsimp only
                go_simp
                have h := HK.out _ _ (Below.refl _ _) rfl
                simp only [upd, Nat.reduceEqDiff, reduceIte, e8, e10] at h
                exact h
              | 12, ho =>
                obtain rfl := Option.some.inj ho
                intro vs W K hB hD hK
                have HK := Lib.hid hK
                have e11 : vs 11 = .bool false := dep_of hD 11 (by rfl)
                clear hK hD ho
                dsimp only
                go_simp
                have h := HK.out _ _ (Below.refl _ _) rfl
                simp only [upd, Nat.reduceEqDiff, reduceIte, e11] at h
                exact h
              | 13, ho =>
                obtain rfl := Option.some.inj ho
                intro vs W K hB hD hK
                have HK := Lib.hid hK
                have e12 : vs 12 = .bool false := dep_of hD 12 (by rfl)
                clear hK hD ho
                dsimp only
                go_simp
                have h := HK.out _ _ (Below.refl _ _) rfl
                simp only [upd, Nat.reduceEqDiff, reduceIte, e12] at h
                exact h
              | 14, ho =>
                obtain rfl := Option.some.inj ho
                intro vs W K hB hD hK
                have HK := Lib.hid hK
                have e12 : vs 12 = .bool false := dep_of hD 12 (by rfl)
                clear hK hD ho
                dsimp only
                go_simp
                have h := HK.out _ _ (Below.refl _ _) rfl
                simp only [upd, Nat.reduceEqDiff, reduceIte, e12] at h
                exact h
              | 15, ho =>
                obtain rfl := Option.some.inj ho
                intro vs W K hB hD hK
                have HK := Lib.hid hK
                have e12 : vs 12 = .bool false := dep_of hD 12 (by rfl)
                clear hK hD ho
                dsimp only
                go_simp
                have h := HK.out _ _ (Below.refl _ _) rfl
                simp only [upd, Nat.reduceEqDiff, reduceIte, e12] at h
                exact h
              | 16, ho =>
                obtain rfl := Option.some.inj ho
                intro vs W K hB hD hK
                have HK := Lib.hid hK
                have e12 : vs 12 = .bool false := dep_of hD 12 (by rfl)
                have e14 : vs 14 = .slice (some ⟨bt, ot, none⟩) t.length ct := dep_of hD 14 (by rfl)
                have e15 : vs 15 = .int .i64 (X : Int) := dep_of hD 15 (by rfl)
                clear hK hD ho
                dsimp only
                go_simp
                have h := HK.out _ _ (Below.refl _ _) rfl
                simp only [upd, Nat.reduceEqDiff, reduceIte, e12, e14, e15] at h
                exact h
              | 17, ho =>
                obtain rfl := Option.some.inj ho
                intro vs W K hB hD hK
                have HK := Lib.hid hK
                have e12 : vs 12 = .bool false := dep_of hD 12 (by rfl)
                have e16 : vs 16 = .pointer (some ⟨bt, ot + X, none⟩) := dep_of hD 16 (by rfl)
                have hc := hW.trans (((Below.drew (Below.refl _ _)).trans hB).mono hW.size)
                have hld := HPT.out W hc
                clear hK hD ho
                dsimp only
                go_simp
                have h := HK.out _ _ (Below.refl _ _) rfl
                simp only [upd, Nat.reduceEqDiff, reduceIte, e12, e16] at h
                exact h
              | 18, ho =>
                obtain rfl := Option.some.inj ho
                intro vs W K hB hD hK
                have HK := Lib.hid hK
                have e12 : vs 12 = .bool false := dep_of hD 12 (by rfl)
                have e17 : vs 17 = .slice (some ⟨rb, ro, none⟩) nr rc := dep_of hD 17 (by rfl)
                clear hK hD ho
                dsimp only
                go_simp
                have h := HK.out _ _ (Below.refl _ _) rfl
                simp only [upd, Nat.reduceEqDiff, reduceIte, e12, e17] at h
                exact h
              | 19, ho =>
                obtain rfl := Option.some.inj ho
                intro vs W K hB hD hK
                have HK := Lib.hid hK
                have e12 : vs 12 = .bool false := dep_of hD 12 (by rfl)
                have e13 : vs 13 = .int .i64 (Y : Int) := dep_of hD 13 (by rfl)
                have e18 : vs 18 = .int .i64 (nr : Int) := dep_of hD 18 (by rfl)
                clear hK hD ho
                dsimp only
                go_simp
                have h := HK.out _ _ (Below.refl _ _) rfl
                simp only [upd, Nat.reduceEqDiff, reduceIte, e12, e13, e18] at h
                exact h
              | 20, ho =>
                obtain rfl := Option.some.inj ho
                intro vs W K hB hD hK
                have HK := Lib.hid hK
                have e12 : vs 12 = .bool false := dep_of hD 12 (by rfl)
                have e19 : vs 19 = .bool false := dep_of hD 19 (by rfl)
                clear hK hD ho
                dsimp only
                go_simp
                have h := HK.out _ _ (Below.refl _ _) rfl
                simp only [upd, Nat.reduceEqDiff, reduceIte, e12, e19] at h
                exact h
              | 21, ho =>
                obtain rfl := Option.some.inj ho
                intro vs W K hB hD hK
                have HK := Lib.hid hK
                have e20 : vs 20 = .bool false := dep_of hD 20 (by rfl)
                clear hK hD ho
                dsimp only
                go_simp
                have h := HK.out _ _ (Below.refl _ _) rfl
                simp only [upd, Nat.reduceEqDiff, reduceIte, e20] at h
                exact h
              | 22, ho =>
                obtain rfl := Option.some.inj ho
                intro vs W K hB hD hK
                have HK := Lib.hid hK
                have e21 : vs 21 = .bool false := dep_of hD 21 (by rfl)
                have hc := hW.trans (((Below.drew (Below.refl _ _)).trans hB).mono hW.size)
                obtain ⟨k0, k1, hld⟩ := HZ.out W hc
                clear hK hD ho
                dsimp only
                go_simp
                have h := HK.out _ _ (Below.refl _ _) hld
                simp only [upd, Nat.reduceEqDiff, reduceIte, e21] at h
                exact h
              | 23, ho =>
                obtain rfl := Option.some.inj ho
                intro vs W K hB hD hK
                have HK := Lib.hid hK
                have e21 : vs 21 = .bool false := dep_of hD 21 (by rfl)
                clear hK hD ho
                dsimp only
                go_simp
                have h := HK.out _ _ (Below.refl _ _) rfl
                simp only [upd, Nat.reduceEqDiff, reduceIte, e21] at h
                exact h
              | 24, ho =>
                obtain rfl := Option.some.inj ho
                intro vs W K hB hD hK
                have HK := Lib.hid hK
                have e21 : vs 21 = .bool false := dep_of hD 21 (by rfl)
                have d22 := dep_of hD 22 (by rfl)
                have e23 : vs 23 = .int .i64 (k : Int) := dep_of hD 23 (by rfl)
                clear hK hD ho
                dsimp only
                go_simp
                refine (hd_at W d22 HIk.out HZi.out).mono ?_
                rintro e W' ⟨rfl, hb⟩
                have h := HK.out _ _ hb rfl
                simp only [upd, Nat.reduceEqDiff, reduceIte, e21, e23] at h
                exact h
              | 25, ho =>
                obtain rfl := Option.some.inj ho
                intro vs W K hB hD hK
                have HK := Lib.hid hK
                have e21 : vs 21 = .bool false := dep_of hD 21 (by rfl)
                clear hK hD ho
                dsimp only
                go_simp
                have h := HK.out _ _ (Below.refl _ _) rfl
                simp only [upd, Nat.reduceEqDiff, reduceIte, e21] at h
                exact h
              | 26, ho =>
                obtain rfl := Option.some.inj ho
                intro vs W K hB hD hK
                have HK := Lib.hid hK
                have e21 : vs 21 = .bool false := dep_of hD 21 (by rfl)
                clear hK hD ho
                dsimp only
                go_simp
                have h := HK.out _ _ (Below.refl _ _) rfl
                simp only [upd, Nat.reduceEqDiff, reduceIte, e21] at h
                exact h
              | 27, ho =>
                obtain rfl := Option.some.inj ho
                intro vs W K hB hD hK
                have HK := Lib.hid hK
                have e21 : vs 21 = .bool false := dep_of hD 21 (by rfl)
                have e25 : vs 25 = .slice (some ⟨bt, ot, none⟩) t.length ct := dep_of hD 25 (by rfl)
                have e26 : vs 26 = .int .i64 (X : Int) := dep_of hD 26 (by rfl)
                clear hK hD ho
                dsimp only
                go_simp
                have h := HK.out _ _ (Below.refl _ _) rfl
                simp only [upd, Nat.reduceEqDiff, reduceIte, e21, e25, e26] at h
                exact h
              | 28, ho =>
                obtain rfl := Option.some.inj ho
                intro vs W K hB hD hK
                have HK := Lib.hid hK
                have e21 : vs 21 = .bool false := dep_of hD 21 (by rfl)
                have e27 : vs 27 = .pointer (some ⟨bt, ot + X, none⟩) := dep_of hD 27 (by rfl)
                have hc := hW.trans (((Below.drew (Below.refl _ _)).trans hB).mono hW.size)
                have hld := HPT.out W hc
                clear hK hD ho
                dsimp only
                go_simp
                have h := HK.out _ _ (Below.refl _ _) rfl
                simp only [upd, Nat.reduceEqDiff, reduceIte, e21, e27] at h
                exact h
              | 29, ho =>
                obtain rfl := Option.some.inj ho
                intro vs W K hB hD hK
                have HK := Lib.hid hK
                have e21 : vs 21 = .bool false := dep_of hD 21 (by rfl)
                clear hK hD ho
                dsimp only
                go_simp
                have h := HK.out _ _ (Below.refl _ _) rfl
                simp only [upd, Nat.reduceEqDiff, reduceIte, e21] at h
                exact h
              | 30, ho =>
                obtain rfl := Option.some.inj ho
                intro vs W K hB hD hK
                have HK := Lib.hid hK
                have e21 : vs 21 = .bool false := dep_of hD 21 (by rfl)
                have e28 : vs 28 = .slice (some ⟨rb, ro, none⟩) nr rc := dep_of hD 28 (by rfl)
                have e29 : vs 29 = .int .i64 (Y : Int) := dep_of hD 29 (by rfl)
                clear hK hD ho
                dsimp only
                go_simp
                have h := HK.out _ _ (Below.refl _ _) rfl
                simp only [upd, Nat.reduceEqDiff, reduceIte, e21, e28, e29] at h
                exact h
              | 31, ho =>
                obtain rfl := Option.some.inj ho
                intro vs W K hB hD hK
                have HK := Lib.hid hK
                have e21 : vs 21 = .bool false := dep_of hD 21 (by rfl)
                have e30 : vs 30 = .pointer (some ⟨rb, ro + Y, none⟩) := dep_of hD 30 (by rfl)
                have hc := hW.trans (((Below.drew (Below.refl _ _)).trans hB).mono hW.size)
                have hld := HPR.out W hc
                clear hK hD ho
                dsimp only
                go_simp
                have h := HK.out _ _ (Below.refl _ _) rfl
                simp only [upd, Nat.reduceEqDiff, reduceIte, e21, e30] at h
                exact h
              | 32, ho =>
                obtain rfl := Option.some.inj ho
                intro vs W K hB hD hK
                have HK := Lib.hid hK
                have e21 : vs 21 = .bool false := dep_of hD 21 (by rfl)
                have e24 : vs 24 = .int .i64 zz := dep_of hD 24 (by rfl)
                have e31 : vs 31 = .int .i64 zz := dep_of hD 31 (by rfl)
                clear hK hD ho
                dsimp only
                go_simp
                have h := HK.out _ _ (Below.refl _ _) rfl
                simp only [upd, Nat.reduceEqDiff, reduceIte, e21, e24, e31] at h
                exact h
              | 33, ho =>
                obtain rfl := Option.some.inj ho
                intro vs W K hB hD hK
                have HK := Lib.hid hK
                have e21 : vs 21 = .bool false := dep_of hD 21 (by rfl)
                have e32 : vs 32 = .bool false := dep_of hD 32 (by rfl)
                clear hK hD ho
                dsimp only
                go_simp
                have h := HK.out _ _ (Below.refl _ _) rfl
                simp only [upd, Nat.reduceEqDiff, reduceIte, e21, e32] at h
                exact h
              | n + 34, ho => simp at ho
            case fin14 =>
              intro vs W3 hB hall
              have e : vs 33 = .bool false := hall 33 (by decide)
              have hW7 := hW.trans (((Below.drew (Below.refl _ _)).trans hB).mono hW.size)
              clear hall hB hW
              rw [e]
              clear e
              generalize vs 0 = p0
              generalize vs 1 = p1
              generalize vs 2 = p2
              generalize vs 3 = p3
              generalize vs 4 = p4
              generalize vs 5 = p5
              generalize vs 6 = p6
              generalize vs 7 = p7
              generalize vs 8 = p8
              generalize vs 9 = p9
              generalize vs 10 = p10
              generalize vs 11 = p11
              generalize vs 12 = p12
              generalize vs 13 = p13
              generalize vs 14 = p14
              generalize vs 15 = p15
              generalize vs 16 = p16
              generalize vs 17 = p17
              generalize vs 18 = p18
              generalize vs 19 = p19
              generalize vs 20 = p20
              generalize vs 21 = p21
              generalize vs 22 = p22
              generalize vs 23 = p23
              generalize vs 24 = p24
              generalize vs 25 = p25
              generalize vs 26 = p26
              generalize vs 27 = p27
              generalize vs 28 = p28
              generalize vs 29 = p29
              generalize vs 30 = p30
              generalize vs 31 = p31
              generalize vs 32 = p32
              clear vs
              go_wp2
              go_roundg (200 - (k + 1))
              case rel => exact ⟨k + 1, rfl, by go_num, by omega, hW7⟩
              case measure => omega
          · obtain rfl : k = 200 := by omega
            obtain ⟨nn, rfl⟩ : ∃ m : Nat, n = m := ⟨n.toNat, by omega⟩
            have htm : ((nn : Int)).tmod 200 = ((nn % 200 : Nat) : Int) := (Int.ofNat_tmod nn 200).symm
            have hm9 := Nat.mod_lt nn (show 0 < 200 by omega)
            have hw1 : IntKind.i64.wrap (nn : Int) = (nn : Int) := IntWalk.i64_in _ ⟨by omega, by omega⟩
            have hw2 : IntKind.i64.wrap ((nn % 200 : Nat) : Int) = ((nn % 200 : Nat) : Int) := IntWalk.i64_in _ ⟨by omega, by omega⟩
            generalize nn % 200 = kk at *
            have HZS := Lib.hid (HSu.out kk)
            go_upto_region 17 with (fail)
            refine region_stable hmx (RZc a b zl t kk bt ot ct) (fun vs => { tmps := (_ :: _ :: _ :: _ :: _ :: _ :: _ :: _ :: vs 15 :: _ :: _ :: _ :: _ :: _ :: _ :: _ :: _ :: _ :: _ :: _ :: _ :: _ :: _ :: _ :: _ :: _ :: _ :: _ :: _ :: _ :: _ :: _ :: _ :: _ :: _ :: _ :: _ :: _ :: _ :: _ :: _ :: _ :: _ :: _ :: _ :: _ :: _ :: _ :: _ :: _ :: _ :: _ :: _ :: _ :: _ :: _ :: _ :: _ :: _ :: _ :: _ :: _ :: _ :: _ :: _ :: _ :: _ :: _ :: _ :: _ :: _ :: _ :: _ :: _ :: _ :: _ :: _ :: _ :: _ :: _ :: _ :: _ :: _ :: _ :: _ :: _ :: _ :: _ :: _ :: _ :: _ :: _ :: _ :: vs 0 :: vs 1 :: vs 2 :: vs 3 :: vs 4 :: vs 5 :: vs 6 :: vs 7 :: vs 8 :: vs 9 :: vs 10 :: vs 11 :: vs 12 :: vs 13 :: vs 14 :: []).toArray, defers := [] }) (fun n => [undef, undef, undef, undef, undef, undef, undef, undef, undef, undef, undef, undef, undef, undef, undef, u8].getD n undef) rfl (by kernel_rfl) (RZc.mono a b zl t kk bt ot ct) ?step17 ?fin17
            case step17 =>
              intro ix o ho
              match ix, ho with
              | 0, ho =>
                obtain rfl := Option.some.inj ho
                intro vs W K hB hD hK
                have HK := Lib.hid hK
                clear hK hD ho
                dsimp only
                go_simp
                have h := HK.out _ _ (Below.refl _ _) rfl
                simp only [upd, Nat.reduceEqDiff, reduceIte] at h
                exact h
              | 1, ho =>
                obtain rfl := Option.some.inj ho
                intro vs W K hB hD hK
                have HK := Lib.hid hK
                have e0 : vs 0 = .bool true := dep_of hD 0 (by rfl)
                clear hK hD ho
                dsimp only
                go_simp
                have h := HK.out _ _ (Below.refl _ _) rfl
                simp only [upd, Nat.reduceEqDiff, reduceIte, e0] at h
                exact h
              | 2, ho =>
                obtain rfl := Option.some.inj ho
                intro vs W K hB hD hK
                have HK := Lib.hid hK
                have e1 : vs 1 = .bool true := dep_of hD 1 (by rfl)
                have hc := hW.trans (((Below.drew (Below.refl _ _)).trans hB).mono hW.size)
                obtain ⟨k0, k1, hld⟩ := HZ.out W hc
                clear hK hD ho
                dsimp only
                go_simp
                have h := HK.out _ _ (Below.refl _ _) hld
                simp only [upd, Nat.reduceEqDiff, reduceIte, e1] at h
                exact h
              | 3, ho =>
                obtain rfl := Option.some.inj ho
                intro vs W K hB hD hK
                have HK := Lib.hid hK
                have e1 : vs 1 = .bool true := dep_of hD 1 (by rfl)
                clear hK hD ho
                dsimp only
                go_simp
                have h := HK.out _ _ (Below.refl _ _) rfl
                simp only [upd, Nat.reduceEqDiff, reduceIte, e1] at h
                exact h
              | 4, ho =>
                obtain rfl := Option.some.inj ho
                intro vs W K hB hD hK
                have HK := Lib.hid hK
                have e1 : vs 1 = .bool true := dep_of hD 1 (by rfl)
                have d2 := dep_of hD 2 (by rfl)
                have e3 : vs 3 = .int .i64 (kk : Int) := dep_of hD 3 (by rfl)
                clear hK hD ho
                dsimp only
                go_simp
                refine (hd_suffix W d2 (by unfold I64; omega) rfl).mono ?_
                rintro e W' ⟨v, rfl, hv, hb⟩
                have h := HK.out _ _ hb hv
                simp only [upd, Nat.reduceEqDiff, reduceIte, e1, e3] at h
                exact h
              | 5, ho =>
                obtain rfl := Option.some.inj ho
                intro vs W K hB hD hK
                have HK := Lib.hid hK
                have e1 : vs 1 = .bool true := dep_of hD 1 (by rfl)
                have hc := hW.trans (((Below.drew (Below.refl _ _)).trans hB).mono hW.size)
                obtain ⟨k0, k1, hld⟩ := HA8.out W hc
                clear hK hD ho
                dsimp only
                go_simp
                have h := HK.out _ _ (Below.refl _ _) hld
                simp only [upd, Nat.reduceEqDiff, reduceIte, e1] at h
                exact h
              | 6, ho =>
                obtain rfl := Option.some.inj ho
                intro vs W K hB hD hK
                have HK := Lib.hid hK
                have e1 : vs 1 = .bool true := dep_of hD 1 (by rfl)
                clear hK hD ho
                dsimp only
                go_simp
                have h := HK.out _ _ (Below.refl _ _) rfl
                simp only [upd, Nat.reduceEqDiff, reduceIte, e1] at h
                exact h
              | 7, ho =>
                obtain rfl := Option.some.inj ho
                intro vs W K hB hD hK
                have HK := Lib.hid hK
                have e1 : vs 1 = .bool true := dep_of hD 1 (by rfl)
                have d5 := dep_of hD 5 (by rfl)
                have e6 : vs 6 = .int .i64 (kk : Int) := dep_of hD 6 (by rfl)
                clear hK hD ho
                dsimp only
                go_simp
                refine (hd_suffix W d5 (by unfold I64; omega) rfl).mono ?_
                rintro e W' ⟨v, rfl, hv, hb⟩
                have h := HK.out _ _ hb hv
                simp only [upd, Nat.reduceEqDiff, reduceIte, e1, e6] at h
                exact h
              | 8, ho =>
                obtain rfl := Option.some.inj ho
                intro vs W K hB hD hK
                have HK := Lib.hid hK
                have e1 : vs 1 = .bool true := dep_of hD 1 (by rfl)
                have hc := hW.trans (((Below.drew (Below.refl _ _)).trans hB).mono hW.size)
                obtain ⟨k0, k1, hld⟩ := HB8.out W hc
                clear hK hD ho
                dsimp only
                go_simp
                have h := HK.out _ _ (Below.refl _ _) hld
                simp only [upd, Nat.reduceEqDiff, reduceIte, e1] at h
                exact h
              | 9, ho =>
                obtain rfl := Option.some.inj ho
                intro vs W K hB hD hK
                have HK := Lib.hid hK
                have e1 : vs 1 = .bool true := dep_of hD 1 (by rfl)
                clear hK hD ho
                dsimp only
                go_simp
                have h := HK.out _ _ (Below.refl _ _) rfl
                simp only [upd, Nat.reduceEqDiff, reduceIte, e1] at h
                exact h
              | 10, ho =>
                obtain rfl := Option.some.inj ho
                intro vs W K hB hD hK
                have HK := Lib.hid hK
                have e1 : vs 1 = .bool true := dep_of hD 1 (by rfl)
                have d8 := dep_of hD 8 (by rfl)
                have e9 : vs 9 = .int .i64 (kk : Int) := dep_of hD 9 (by rfl)
                clear hK hD ho
                dsimp only
                go_simp
                refine (hd_suffix W d8 (by unfold I64; omega) rfl).mono ?_
                rintro e W' ⟨v, rfl, hv, hb⟩
                have h := HK.out _ _ hb hv
                simp only [upd, Nat.reduceEqDiff, reduceIte, e1, e9] at h
                exact h
              | 11, ho =>
                obtain rfl := Option.some.inj ho
                intro vs W K hB hD hK
                have HK := Lib.hid hK
                have e1 : vs 1 = .bool true := dep_of hD 1 (by rfl)
                clear hK hD ho
                dsimp only
                go_simp
                have h := HK.out _ _ (Below.refl _ _) rfl
                simp only [upd, Nat.reduceEqDiff, reduceIte, e1] at h
                exact h
              | 12, ho =>
                obtain rfl := Option.some.inj ho
                intro vs W K hB hD hK
                have HK := Lib.hid hK
                have e1 : vs 1 = .bool true := dep_of hD 1 (by rfl)
                have d7 := dep_of hD 7 (by rfl)
                have d10 := dep_of hD 10 (by rfl)
                have e11 : vs 11 = .slice (some ⟨bt, ot, none⟩) t.length ct := dep_of hD 11 (by rfl)
                have hc := hW.trans (((Below.drew (Below.refl _ _)).trans hB).mono hW.size)
                clear hK hD ho
                dsimp only
                go_simp
                refine (hg_zip W d7 d10 (HRT.out W hc) HZS.out).mono ?_
                rintro e W' ⟨v, rfl, hv, hb⟩
                have h := HK.out _ _ hb hv
                simp only [upd, Nat.reduceEqDiff, reduceIte, e1, e11] at h
                exact h
              | 13, ho =>
                obtain rfl := Option.some.inj ho
                intro vs W K hB hD hK
                have HK := Lib.hid hK
                have e1 : vs 1 = .bool true := dep_of hD 1 (by rfl)
                have d4 := dep_of hD 4 (by rfl)
                have d12 := dep_of hD 12 (by rfl)
                clear hK hD ho
                dsimp only
                go_simp
                refine (hd_eq W d4 d12).mono ?_
                rintro e W' ⟨rfl, hb⟩
                have h := HK.out _ _ hb rfl
                simp only [upd, Nat.reduceEqDiff, reduceIte, e1] at h
                exact h
              | 14, ho =>
                obtain rfl := Option.some.inj ho
                intro vs W K hB hD hK
                have HK := Lib.hid hK
                have e1 : vs 1 = .bool true := dep_of hD 1 (by rfl)
                have e13 : vs 13 = .bool true := dep_of hD 13 (by rfl)
                clear hK hD ho
                dsimp only
                go_simp
                have h := HK.out _ _ (Below.refl _ _) rfl
                simp only [upd, Nat.reduceEqDiff, reduceIte, e1, e13] at h
                exact h
              | 15, ho =>
                obtain rfl := Option.some.inj ho
                intro vs W K hB hD hK
                have HK := Lib.hid hK
                have e14 : vs 14 = .bool true := dep_of hD 14 (by rfl)
                clear hK hD ho
                dsimp only
                go_simp
                have h := HK.out _ _ (Below.refl _ _) rfl
                simp only [upd, Nat.reduceEqDiff, reduceIte, e14] at h
                exact h
              | n + 16, ho => simp at ho
            case fin17 =>
              intro vs W3 hB hall
              have e : vs 15 = .bool true := hall 15 (by decide)
              have hF := HF8.out.trans ((hW.trans (((Below.drew (Below.refl _ _)).trans hB).mono hW.size)).mono HF8.out.size)
              clear hall hB hW
              rw [e]
              clear e
              generalize vs 0 = q0
              generalize vs 1 = q1
              generalize vs 2 = q2
              generalize vs 3 = q3
              generalize vs 4 = q4
              generalize vs 5 = q5
              generalize vs 6 = q6
              generalize vs 7 = q7
              generalize vs 8 = q8
              generalize vs 9 = q9
              generalize vs 10 = q10
              generalize vs 11 = q11
              generalize vs 12 = q12
              generalize vs 13 = q13
              generalize vs 14 = q14
              clear vs
              go_wp2
              go_ret
              exact ⟨ret_bool rfl, hF⟩

end Go.Proofs.Ytgjpdnaeldpdeaa
