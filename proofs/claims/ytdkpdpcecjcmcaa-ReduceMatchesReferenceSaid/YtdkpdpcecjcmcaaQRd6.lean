/- What the search for the parts of a set of moves computes. -/
import Derived.Test.YtdkpdpcecjcmcaaQRd4
import Derived.Test.YtdkpdpcecjcmcaaQRd5
namespace Go.Proofs.Ytdkpdpcecjcmcaa
open Go.RowKit

theorem tinv0 (E : Nat → Nat → Prop) : TInv E ⟨fun _ => 0, fun _ => 0, fun _ => 0, [], 0⟩ [] :=
  ⟨List.nodup_nil, fun v => by simp, List.Pairwise.nil, fun _ => Nat.le_refl _, fun _ _ h => absurd rfl h, fun _ h => absurd rfl h, fun _ h => absurd h (by simp), fun _ _ h => absurd rfl h, fun _ _ h => absurd rfl h, fun _ h => absurd h (by simp), fun _ h => absurd h (by simp), fun _ h => absurd h (by simp), fun _ _ h => absurd rfl h⟩
theorem tinv_stk {E : Nat → Nat → Prop} {t : Tj} (h : TInv E t []) : t.stk = [] :=
  List.eq_nil_iff_forall_not_mem.2 fun y hy => by
    obtain ⟨g, hg, -⟩ := h.dn y hy
    cases hg

/-- The boxes of the search. -/
def Fa.srch (A : Fa) (z num : Nat) : Vd := ⟨A, z + 2, z, z + 3, z + 1, z + 4, num⟩
theorem VS.made {A : Fa} {w0 w : World} {nx : List (List Int)} {st : Nat → Nat → Nat} {F : Ar → Nat → Nat} (num : Nat) (hM : FlM A w st F) (hA : A.Ok w0.heap.size) (hb : Below w0.heap.size w0 w) (hx : IsRows w0 A.vN nx) :
    (A.srch w.heap.size num).Ok w0.heap.size (w.heap.size + 5) ∧ VS (A.srch w.heap.size num) (w.heap.size + 5) w0 (((((w.alloc (.cells #[.pointer (some ⟨A.fb, 0, none⟩)] 60)).alloc (.cells #[.int .i64 (num : Int)] 3)).alloc (.cells #[.int .i64 0] 3)).alloc (.cells #[.slice none 0 0] 29)).alloc (.cells #[(A.srch w.heap.size num).fn] 86)) nx st F 0 (.slice none 0 0) [] := by
  obtain ⟨l1, l2, l3, l4⟩ := hM.lts
  have hs := hb.size
  have hb5 : Below w.heap.size w (((((w.alloc (.cells #[.pointer (some ⟨A.fb, 0, none⟩)] 60)).alloc (.cells #[.int .i64 (num : Int)] 3)).alloc (.cells #[.int .i64 0] 3)).alloc (.cells #[.slice none 0 0] 29)).alloc (.cells #[(A.srch w.heap.size num).fn] 86)) := (by repeat (first | exact Below.refl _ _ | assumption | (refine belA ?_ _) | (refine belD ?_ _)))
  refine ⟨⟨hA, ?_, fun x => ?_, ⟨⟨?_, ?_⟩, ⟨?_, ?_⟩, ⟨?_, ?_⟩, ⟨?_, ?_⟩, ⟨?_, ?_⟩, fun j hj => ⟨?_, ?_⟩⟩, ⟨?_, ?_, ?_, ?_, ?_, ?_, ?_, fun x => ?_, fun j hj => ?_⟩, ⟨?_, ?_, ?_⟩⟩, ?_⟩
  case refine_2 => have := l3 x; simp only [Fa.srch]; omega
  case refine_13 => have := l4 j hj; simp only [Fa.srch]; omega
  case refine_14 => have := l4 j hj; simp only [Fa.srch]; omega
  case refine_22 => have := l3 x; simp only [Fa.srch]; omega
  case refine_23 => have := l4 j hj; simp only [Fa.srch]; omega
  case refine_27 =>
    exact { b := hb.trans (hb5.mono hb.size), x := hx, f := (by show (World.heap _)[w.heap.size]? = _; exact (by (repeat (rw [alloc_get]; first | rw [if_pos (by first | (simp; done) | (simp; omega))] | rw [if_neg (by first | (simp; done) | (simp; omega))])); (try rfl))), n := (by show (World.heap _)[w.heap.size + 1]? = _; exact (by (repeat (rw [alloc_get]; first | rw [if_pos (by first | (simp; done) | (simp; omega))] | rw [if_neg (by first | (simp; done) | (simp; omega))])); (try rfl))), v := (by show (World.heap _)[w.heap.size + 4]? = _; exact (by (repeat (rw [alloc_get]; first | rw [if_pos (by first | (simp; done) | (simp; omega))] | rw [if_neg (by first | (simp; done) | (simp; omega))])); (try rfl))), m := hM.below hb5, c := (by show (World.heap _)[w.heap.size + 2]? = _; exact (by (repeat (rw [alloc_get]; first | rw [if_pos (by first | (simp; done) | (simp; omega))] | rw [if_neg (by first | (simp; done) | (simp; omega))])); (try rfl))), s := (by show (World.heap _)[w.heap.size + 3]? = _; exact (by (repeat (rw [alloc_get]; first | rw [if_pos (by first | (simp; done) | (simp; omega))] | rw [if_neg (by first | (simp; done) | (simp; omega))])); (try rfl))), o := World.ownsRow_nil _ _ _ _, z := by simp }
  all_goals (try simp only [Fa.srch]); omega

/-- What the search leaves. -/
def PartsOut (A : Fa) (w : World) (nx : List (List Int)) (st : Nat → Nat → Nat) (num : Nat) (e : Ending) (w' : World) : Prop :=
  e = .returned (.tuple #[]) ∧ ∃ F : Ar → Nat → Nat, FlM A w' st F ∧ Only (fun q => A.hotA q ∨ w.heap.size ≤ q) w w' ∧ (∀ v, UsM nx (SetM A.n A.k st num) v → F .prt v ≠ 0 ∧ F .prt v ≤ A.n) ∧
    ∀ u v, UsM nx (SetM A.n A.k st num) u → UsM nx (SetM A.n A.k st num) v → (F .prt u = F .prt v ↔ Rch (EdS (tgN nx) (SetM A.n A.k st num)) u v ∧ Rch (EdS (tgN nx) (SetM A.n A.k st num)) v u)

set_option maxRecDepth 100000 in
set_option maxHeartbeats 8000000 in
theorem parts_c (A : Fa) (w0 w : World) (nx : List (List Int)) (st : Nat → Nat → Nat) (F : Ar → Nat → Nat) (num : Nat) (vm : Value) (l : List Mv) (hA : A.Ok w0.heap.size) (hb : Below w0.heap.size w0 w) (hv : IsRows w0 A.vN nx) (hx : NX A.n A.k nx) (hM : FlM A w st F)
    (hl : ∀ W, Only (fun q => A.hotA q ∨ w.heap.size ≤ q) w W → IsMvs W vm l) (hS : ∀ m, m ∈ l ↔ SetM A.n A.k st num m) (h0 : ∀ v, UsM nx (SetM A.n A.k st num) v → F .prt v = 0 ∧ F .idx v = 0) :
    Calls Try.prog 57 #[.pointer (some ⟨A.fb, 0, none⟩), .int .i64 (num : Int), vm] w (PartsOut A w nx st num) := by
  obtain ⟨aL, cL, rfl⟩ := (hl w (Only.refl _ _)).shp
  obtain ⟨hD, hV⟩ := VS.made num hM hA hb hv
  have HV := Lib.hid hV
  have HD := Lib.hid hD
  have HX := Lib.hid hx
  have HL := Lib.hid hl
  have HSE := Lib.hid hS
  have H0 := Lib.hid h0
  have hll := (hl w (Only.refl _ _)).dat
  have hln : l.length ≤ 140737488351232 := by
    obtain ⟨_, _, _, h, _⟩ := hll
    exact h
  obtain ⟨Z, hZ⟩ : ∃ Z, Z = w.heap.size := ⟨_, rfl⟩
  have HB0 : Hid (Only (fun q => w.heap.size ≤ q) w (((((w.alloc (.cells #[.pointer (some ⟨A.fb, 0, none⟩)] 60)).alloc (.cells #[.int .i64 (num : Int)] 3)).alloc (.cells #[.int .i64 0] 3)).alloc (.cells #[.slice none 0 0] 29)).alloc (.cells #[(A.srch w.heap.size num).fn] 86))) := Only.of_below (by repeat (first | exact Below.refl _ _ | assumption | (refine belA ?_ _) | (refine belD ?_ _)))
  clear hV hD hx hl hS h0 hll hM hA hb hv
  go_enter Try.func57, Try.ntmps57
  go_wp2
  change Code.wp _ _ _ _ (((((w.alloc (.cells #[.pointer (some ⟨A.fb, 0, none⟩)] 60)).alloc (.cells #[.int .i64 (num : Int)] 3)).alloc (.cells #[.int .i64 0] 3)).alloc (.cells #[.slice none 0 0] 29)).alloc (.cells #[(A.srch w.heap.size num).fn] 86))
  generalize (((((w.alloc (.cells #[.pointer (some ⟨A.fb, 0, none⟩)] 60)).alloc (.cells #[.int .i64 (num : Int)] 3)).alloc (.cells #[.int .i64 0] 3)).alloc (.cells #[.slice none 0 0] 29)).alloc (.cells #[(A.srch w.heap.size num).fn] 86)) = W0 at *
  rw [← hZ] at HV HD
  rw [← hZ]
  have HVis : Hid (∀ (w2 : World) (t : Tj) (F : Ar → Nat → Nat) (cnt : Nat) (vs : Value) (stk : List Nat) (s : Nat), VS (A.srch Z num) (Z + 5) w0 w2 nx st F cnt vs stk → Rp A.n (UsM nx (SetM A.n A.k st num)) t F cnt stk → TInv (EdS (tgN nx) (SetM A.n A.k st num)) t [] → t.num s = 0 → UsM nx (SetM A.n A.k st num) s →
      Calls Try.prog 59 #[.int .i64 (s : Int), .pointer (some ⟨Z + 1 + 1, 0, none⟩), .pointer (some ⟨Z, 0, none⟩), .pointer (some ⟨Z + 1 + 1 + 1, 0, none⟩), .pointer (some ⟨Z + 1, 0, none⟩), .pointer (some ⟨Z + 1 + 1 + 1 + 1, 0, none⟩)] w2 (VOut (A.srch Z num) (Z + 5) w0 w2 nx st t s [])) := fun w2 t F cnt vs stk s h1 h2 h3 h4 h5 =>
    visit_c (Z + 5) (A.srch Z num) w0 nx st HD.out HX.out (A.n - cnt + 1) w2 t F cnt vs stk [] s (by show A.n - cnt < _; omega) h1 h2 h3 h4 h5 (fun g hg => absurd hg (by simp))
  go_loopg [14] l.length (fun gh i wr => ∃ (k : Nat) (t : Tj) (F : Ar → Nat → Nat) (cnt : Nat) (vs : Value), gh = l.length - k ∧ i = .int .i64 k ∧ k ≤ l.length ∧ Hid (VS (A.srch Z num) (Z + 5) w0 wr nx st F cnt vs []) ∧ Hid (Rp A.n (UsM nx (SetM A.n A.k st num)) t F cnt []) ∧ Hid (TInv (EdS (tgN nx) (SetM A.n A.k st num)) t []) ∧
    Hid (∀ m ∈ l.take k, t.prt m.1 ≠ 0) ∧ Hid (Only (fun q => A.hotA q ∨ Z ≤ q) w wr))
  case atStart =>
    refine ⟨0, ⟨fun _ => 0, fun _ => 0, fun _ => 0, [], 0⟩, F, 0, _, rfl, rfl, by omega, HV, ?_, tinv0 _, fun m hm => absurd hm (by simp), HB0.out.mono fun q _ h => .inr (by rw [hZ]; exact h)⟩
    exact ⟨rfl, rfl, fun v hv => (H0.out v hv).2, fun v hv => (H0.out v hv).1, fun v hv => absurd rfl hv, fun v hv => absurd rfl hv, ⟨[], List.nodup_nil, rfl, fun v => by simp⟩⟩
  case round => as_aux_lemma =>
    clear HV HB0
    obtain ⟨k, t, F1, cnt, vs, hgk, rfl, hk, HSr, HRr, HTr, HPr, HOr⟩ := hrel
    have HGK := Lib.hid hgk
    have HZ := Lib.hid hZ
    clear hgk hZ
    by_cases hlt : k < l.length
    · obtain ⟨bL, oL, had, -, hdt⟩ := (HL.out wr (HOr.out.mono fun q _ h => h.imp id fun e => by rw [← HZ.out]; exact e)).dat
      obtain rfl := had (by omega)
      obtain ⟨e1, e2⟩ := hdt k hlt
      have hmem : l[k] ∈ l := List.getElem_mem hlt
      have HTk : Hid (l.take (k + 1) = l.take k ++ [l[k]]) := List.take_succ_eq_append_getElem hlt
      have HMem := Lib.hid hmem
      clear had hdt hmem
      generalize l[k] = m at *
      have HUm : Hid (UsM nx (SetM A.n A.k st num) m.1) := ⟨m, (HSE.out m).1 HMem.out, .inl rfl⟩
      have hmn := HX.out.us HUm.out
      generalize hs : m.1 = s at *
      have HSs := Lib.hid hs
      clear hs
      have hbx : Below wr.heap.size wr (wr.alloc (.cells #[.int .i64 (s : Int), .int .i64 (m.2 : Int)] 49)) := bel_box _
      have bx := heap_alloc_new wr (.cells #[.int .i64 (s : Int), .int .i64 (m.2 : Int)] 49)
      have HS1 := Lib.hid (HSr.out.below hbx)
      have HO1 : Hid (Only (fun q => A.hotA q ∨ Z ≤ q) w (wr.alloc (.cells #[.int .i64 (s : Int), .int .i64 (m.2 : Int)] 49))) := HOr.out.trans (Only.of_below hbx)
      clear hbx
      go_upto_region 8 with (fail)
      generalize wr.alloc (.cells #[.int .i64 (s : Int), .int .i64 (m.2 : Int)] 49) = w1 at *
      generalize hzb : wr.heap.size = zb at *
      clear e1 e2 HSr HOr hzb
      have f1 : w1.cell? ⟨Z, 0, none⟩ = some (.pointer (some ⟨A.fb, 0, none⟩)) := cell_of_row _ _ 0 _ _ _ HS1.out.f
      have g6 : w1.cell? ⟨A.fb, 6, none⟩ = some (.slice (some ⟨A.ab .idx, 0, none⟩) A.n A.n) := HS1.out.m.c6
      have xu : w1.cell? ⟨A.ab .idx, s, none⟩ = some (.int .i64 (F1 .idx s : Int)) := HS1.out.m.arr .idx hmn
      have b0 : w1.cell? ⟨zb, 0, none⟩ = some (.int .i64 (s : Int)) := cell_of_row _ _ 0 _ _ _ bx
      refine wp_region_quiet_lit (by kernel_rfl) (by kernel_rfl) ?_
      ((repeat (go_big_quiet_step (fail))); refine wpQuiet_nil ?_; rintro _ ⟨nq, rfl⟩)
      have HS2 := Lib.hid (HS1.out.below (below_draws w1 w1.heap.size nq))
      have HO2 : Hid (Only (fun q => A.hotA q ∨ Z ≤ q) w (w1.drewN nq)) := HO1.out.trans (Only.of_below (below_draws _ _ _))
      have bx2 : (w1.drewN nq).heap[zb]? = _ := bx
      clear f1 g6 xu b0 bx HS1 HO1
      generalize w1.drewN nq = w2 at *
      have HPn : Hid (∀ t' : Tj, (∀ m ∈ l.take k, t'.prt m.1 ≠ 0) → t'.prt s ≠ 0 → ∀ m ∈ l.take (k + 1), t'.prt m.1 ≠ 0) := fun t' h1 h2 m' hm' => by
        rw [HTk.out, List.mem_append, List.mem_singleton] at hm'
        rcases hm' with h | rfl
        · exact h1 m' h
        · rw [HSs.out]; exact h2
      by_cases h0 : F1 .idx s = 0
      · have hz : ((F1 .idx s : Int) == 0) = true := by simp [h0]
        have HNU : Hid (t.num s = 0) := by rw [← HRr.out.nu s HUm.out]; exact h0
        have v1 : w2.cell? ⟨Z + 1 + 1 + 1 + 1, 0, none⟩ = some (.func (.func 59) #[] #[.pointer (some ⟨Z + 1 + 1, 0, none⟩), .pointer (some ⟨Z, 0, none⟩), .pointer (some ⟨Z + 1 + 1 + 1, 0, none⟩), .pointer (some ⟨Z + 1, 0, none⟩), .pointer (some ⟨Z + 1 + 1 + 1 + 1, 0, none⟩)]) := cell_of_row _ _ 0 _ _ _ HS2.out.v
        have b0 : w2.cell? ⟨zb, 0, none⟩ = some (.int .i64 (s : Int)) := cell_of_row _ _ 0 _ _ _ bx2
        clear h0
        go_wp2_with fail
        refine (HVis.out w2 t F1 cnt vs [] s HS2.out HRr.out HTr.out HNU.out HUm.out).mono ?_
        rintro e w7 ⟨t2, F2, cnt2, vs2, stk2, rfl, hS2, hR2, hc2, hP2, hO2⟩
        have hs0 : stk2 = [] := by rw [← hR2.sk]; exact tinv_stk hP2.inv
        subst hs0
        have HS3 := Lib.hid hS2
        have HR3 := Lib.hid hR2
        have HT3 := Lib.hid hP2.inv
        have HP3 := Lib.hid (HPn.out t2 (fun m hm => by rw [hP2.ext.pr _ (HPr.out m hm)]; exact HPr.out m hm) (fun e => by
          have h1 := (hP2.inv.st s).2 ⟨hP2.nz, e⟩
          rw [tinv_stk hP2.inv] at h1
          cases h1))
        have HO3 : Hid (Only (fun q => A.hotA q ∨ Z ≤ q) w w7) := HO2.out.trans (hO2.mono fun q _ hq => by
          rcases hq with e | e | ⟨x, e⟩ | e
          · right; rw [e]; show Z ≤ Z + 2; omega
          · right; rw [e]; show Z ≤ Z + 3; omega
          · left; exact ⟨x, e⟩
          · right; omega)
        clear hS2 hR2 hc2 hP2 hO2 hz v1 b0
        go_wp2
        go_roundg (l.length - (k + 1))
        case measure => have := HGK.out; omega
        case rel => exact ⟨k + 1, t2, F2, cnt2, vs2, rfl, by go_num, by omega, HS3, HR3, HT3, HP3, HO3⟩
      · have hz : ((F1 .idx s : Int) == 0) = false := by simp [h0]
        have HP3 := Lib.hid (HPn.out t HPr.out (fun e => by
          have hn : t.num s ≠ 0 := by rw [← HRr.out.nu s HUm.out]; exact h0
          have h1 := (HTr.out.st s).2 ⟨hn, e⟩
          rw [tinv_stk HTr.out] at h1
          cases h1))
        clear h0
        go_wp2
        go_roundg (l.length - (k + 1))
        case measure => have := HGK.out; omega
        case rel => exact ⟨k + 1, t, F1, cnt, vs, rfl, by go_num, by omega, HS2, HRr, HTr, HP3, HO2⟩
    · obtain rfl : k = l.length := by omega
      rw [List.take_length] at HPr
      have HF : Hid (PartsOut A w nx st num (.returned (.tuple #[])) wr) := by
        refine ⟨rfl, F1, HSr.out.m, by rw [← HZ.out]; exact HOr.out, ?_, fun u v hu hv => ?_⟩
        · intro v hv
          have hp : t.prt v ≠ 0 := by
            obtain ⟨m, hm, e | e⟩ := id hv
            · rw [← e]; exact HPr.out m ((HSE.out m).2 hm)
            · rw [← e]; exact HTr.out.fc m.1 _ (HPr.out m ((HSE.out m).2 hm)) ⟨m, hm, rfl, rfl⟩
          rw [HRr.out.pr v hv]
          refine ⟨hp, ?_⟩
          obtain ⟨-, r, -, h2⟩ := HTr.out.pn v hp
          rw [← h2]
          have h3 := HTr.out.le r
          have h4 := HRr.out.cn
          have h5 := HRr.out.le fun v hv => HX.out.us hv
          omega
        · have hp : ∀ v, UsM nx (SetM A.n A.k st num) v → t.prt v ≠ 0 := fun v hv => by
            obtain ⟨m, hm, e | e⟩ := id hv
            · rw [← e]; exact HPr.out m ((HSE.out m).2 hm)
            · rw [← e]; exact HTr.out.fc m.1 _ (HPr.out m ((HSE.out m).2 hm)) ⟨m, hm, rfl, rfl⟩
          rw [HRr.out.pr u hu, HRr.out.pr v hv]
          exact HTr.out.eq u v (hp u hu) (hp v hv)
      go_wp2
      refine bodyPost_ret (results_none rfl _ _ _) rfl ?_
      exact HF.out

end Go.Proofs.Ytdkpdpcecjcmcaa
