/- What the reference's Beaten computes. -/
import Derived.Test.YtjhafakkadnfmaaSo43
namespace Go.Proofs.Ytjhafakkadnfmaa
open Go.RowKit

/-- What Beaten leaves. -/
def BtOut (g : Gm) (p : Int) (s : List Bool) (st : List Int) (w : World) (e : Ending) (w' : World) : Prop := ∃ b : Bool, e = .returned (.bool b) ∧ (b = true → Bad g p s st) ∧ Below w.heap.size w w'

theorem upM_sound {R : Nat → Nat → Prop} {M : Nat → Nat → Bool} (h : ∀ a c, M a c = true → Plus R a c) (i j : Nat) (b : Bool) (hb : b = true → Plus R i j) : ∀ a c, upM M i j b a c = true → Plus R a c := fun a c hc => by
  unfold upM at hc
  split at hc
  · rename_i e
    obtain ⟨rfl, rfl⟩ := e
    exact hb hc
  · exact h a c hc
theorem upM_zero {M : Nat → Nat → Bool} {m : Nat} (h : ∀ a c, m ≤ a → M a c = false) (i j : Nat) (b : Bool) (hi : i < m) : ∀ a c, m ≤ a → upM M i j b a c = false := fun a c ha => by
  unfold upM
  rw [if_neg (fun e => by omega)]
  exact h a c ha

set_option maxRecDepth 100000 in
set_option maxHeartbeats 16000000 in
theorem Beaten_c (w : World) (vg vs vst : Value) (g : Gm) (p : Int) (s : List Bool) (st : List Int) (n : Nat) (hg : IsGame w vg g) (hs : IsBools w vs s) (hst : IsInts w vst st)
    (hsl : s.length = n) (htl : st.length = n) (hon : g.owner.length = n) (hpn : g.prio.length = n) (hsn : g.succ.length = n) (hn : n ≤ 3000)
    (hrg : ∀ i, i < n → ∀ x ∈ g.succ.getD i [], ∃ v : Nat, x = v ∧ v < n) :
    Calls Try.prog 19 #[vg, .int .i64 p, vs, vst] w (BtOut g p s st w) := by
  obtain ⟨v0, v1, v2, rfl, ⟨⟨ao0, cap0, b0, off0, rfl, g0⟩, -⟩, ⟨⟨ao1, cap1, b1, off1, rfl, g1⟩, -⟩, ⟨V, ⟨ao2, cap2, b2, off2, rfl, g2⟩, hr⟩⟩ := hg
  obtain ⟨aos, caps, bs, offs, rfl, gs⟩ := hs
  obtain ⟨⟨aot, capt, bt, offt, rfl, gt⟩, -⟩ := hst
  rw [hsn] at g2 hr ⊢
  rw [hon] at g0 ⊢
  rw [hpn] at g1 ⊢
  rw [hsl] at gs ⊢
  rw [htl] at gt ⊢
  have HR := Lib.hid hr
  have HRG := Lib.hid hrg
  clear hsl htl hon hpn hsn hrg hr
  have hmx : Try.prog.follows .mixedOrders = true := by kernel_rfl
  go_enter Try.func19, Try.ntmps19
  have hbx0 : Boxed w (w.alloc (.cells #[Value.slice ao0 n cap0, Value.slice ao1 n cap1, Value.slice ao2 n cap2] 25)) #[Value.slice ao0 n cap0, Value.slice ao1 n cap1, Value.slice ao2 n cap2] := Boxed.start (Below.refl _ _)
  have d2 : (w.alloc (.cells #[Value.slice ao0 n cap0, Value.slice ao1 n cap1, Value.slice ao2 n cap2] 25)).cell? ⟨w.heap.size, 2, none⟩ = some (Value.slice ao2 n cap2) := hbx0.cell 2 rfl
  go_wp2
  clear d2
  go_loopg [10] 30001 (fun gh pr wr => ∃ kp : Nat, gh = 30001 - kp ∧ pr = .int .i64 kp ∧ kp ≤ 30001 ∧ Boxed w wr #[Value.slice ao0 n cap0, Value.slice ao1 n cap1, Value.slice ao2 n cap2])
  case atStart => exact ⟨0, by omega, rfl, by omega, hbx0⟩
  case round => as_aux_lemma =>
    obtain ⟨kp, hgp, rfl, hkp, hB⟩ := hrel
    have HGP := Lib.hid hgp
    clear hgp hbx0
    by_cases hltp : kp < 30001
    · have hltI : (kp : Int) < 30001 := by omega
      have HLP := Lib.hid hltp
      clear hltp hkp
      obtain ⟨wo, rfl⟩ : ∃ wo : World, wo = wr := ⟨_, rfl⟩
      have HBO := Lib.hid hB
      clear hB
      go_wp2
      go_loopg [11, 12] n (fun gh a i wx => ∃ (b : Bool) (j : Nat), gh = n - j ∧ a = .bool b ∧ i = .int .i64 j ∧ j ≤ n ∧ wo = wx)
      case atStart => exact ⟨false, 0, by omega, rfl, rfl, by omega, rfl⟩
      case round => as_aux_lemma =>
        obtain ⟨b, j, hgj, rfl, rfl, hj, rfl⟩ := hrel
        have HGJ := Lib.hid hgj
        clear hgj
        by_cases hltj : j < n
        · obtain rfl := gs.ad (by omega)
          obtain rfl := g1.ad (by omega)
          have c1 := cellB HBO.out.bl (gs.el j hltj)
          have c2 := cellB HBO.out.bl (g1.el j hltj)
          unfold bvF at c1
          unfold ivF at c2
          have d1 : wo.cell? ⟨w.heap.size, 1, none⟩ = some (Value.slice (some ⟨b1, off1, none⟩) n cap1) := HBO.out.cell 1 rfl
          generalize s.getD j false = x at *
          generalize g.prio.getD j 0 = y at *
          cases b with
          | true =>
            clear c1 c2 d1
            go_wp2
            go_roundg (n - (j + 1))
            case measure => have := HGJ.out; omega
            case rel => exact ⟨_, j + 1, rfl, rfl, by go_num, by omega, rfl⟩
          | false =>
            cases x with
            | false =>
              clear c2 d1
              go_wp2
              go_roundg (n - (j + 1))
              case measure => have := HGJ.out; omega
              case rel => exact ⟨_, j + 1, rfl, rfl, by go_num, by omega, rfl⟩
            | true =>
              go_wp2
              all_goals
                go_roundg (n - (j + 1))
                case measure => have := HGJ.out; omega
                case rel => exact ⟨_, j + 1, rfl, rfl, by go_num, by omega, rfl⟩
        · obtain rfl : n = j := by omega
          have htm : (kp : Int).tmod 2 = (kp : Int) % 2 := Int.tmod_eq_emod_of_nonneg (by omega)
          cases b with
          | false =>
            go_wp2
            go_roundg (30001 - (kp + 1))
            case measure => have := HGP.out; have := HLP.out; omega
            case rel => exact ⟨kp + 1, rfl, by go_num, HLP.out, HBO.out⟩
          | true =>
            by_cases hl : (kp : Int) % 2 = p
            · have hq : ((kp : Int) % 2 == p) = true := by simpa using hl
              clear hl
              go_wp2
              go_roundg (30001 - (kp + 1))
              case measure => have := HGP.out; have := HLP.out; omega
              case rel => exact ⟨kp + 1, rfl, by go_num, HLP.out, HBO.out⟩
            · have hq : ((kp : Int) % 2 == p) = false := by simpa using hl
              have HL := Lib.hid hl
              have hlto := HBO.out.lt
              clear hl
              go_wp2_with (at_make; refine mk_rowsB rfl _ _ _ Try.underlying58 rfl (w.heap.size + 1) _ n rfl rfl rfl (by omega) hlto ?_; intro w2 hown2 hg2)
              clear htm hq
              have hbx2 : Boxed w w2 #[Value.slice ao0 n cap0, Value.slice ao1 n cap1, Value.slice ao2 n cap2] := HBO.out.stepB ((Below.refl _ _).grown hg2 hlto (fun k hk => by cases hk))
              have hM2 : Mx w2 (w.heap.size + 1) wo.heap.size n 0 (fun _ => 0) (fun _ _ => false) := Mx.start hown2
              have HGB : Hid (w.heap.size + 1 ≤ wo.heap.size) := hlto
              generalize wo.heap.size = gb at *
              clear hg2 hown2 hlto HGJ hltj hj
              obtain ⟨R, hR⟩ : ∃ R, R = Step g p (setOf s) (fun i => (st.getD i 0).toNat) (kp : Int) := ⟨_, rfl⟩
              have HRR := Lib.hid hR
              clear hR
              go_loopg [14] n (fun gh iv wx => ∃ (i : Nat) (G : Nat → Nat) (M : Nat → Nat → Bool), gh = n - i ∧ iv = .int .i64 i ∧ i ≤ n ∧ Boxed w wx #[Value.slice ao0 n cap0, Value.slice ao1 n cap1, Value.slice ao2 n cap2] ∧ Mx wx (w.heap.size + 1) gb n i G M ∧ Hid (∀ a c, M a c = true → Plus R a c) ∧ Hid (∀ a c, i ≤ a → M a c = false))
              case atStart => exact ⟨0, _, _, by omega, rfl, by omega, hbx2, hM2, fun a c h => (by cases h), fun a c _ => rfl⟩
              case round => as_aux_lemma =>
                obtain ⟨i, G, M, hgi, rfl, hi, hB, hM, HSD, HZR⟩ := hrel
                have HGI := Lib.hid hgi
                clear hgi hbx2 hM2
                by_cases hlti : i < n
                · have hltr := hB.lt
                  have HB5 := Lib.hid hB
                  have HM5 := Lib.hid hM
                  have HMF : Hid (mrow n (M i) = List.replicate n false) := by
                    show _ = _
                    rw [← mrow_false]
                    unfold mrow
                    congr 1
                    funext c
                    exact HZR.out i c (Nat.le_refl _)
                  clear hB hM
                  go_wp2_with (at_make; refine mk_bool rfl _ _ _ Try.underlying33 rfl (w.heap.size + 1) _ n rfl rfl rfl (by omega) hltr ?_; intro w4 hown4 hg4; have hb4 := (Below.refl wr.heap.size wr).grown hg4 (Nat.le_refl _) (fun k hk => by cases hk); have hM4 := HM5.out.below hb4; have k4 := hM4.cell0 (Nat.le_refl _) hlti; have f4 := hM4.fz0 i; have HM6 := Lib.hid (HM5.out.push hg4 (by rw [HMF.out]; exact hown4)); have HB6 := Lib.hid ((HB5.out.step hb4).stepB (Below.setCell (B := w.heap.size + 1) (p := ⟨gb, i, none⟩) (Below.refl _ _) HGB.out (.slice (some ⟨wr.heap.size, 0, none⟩) n n))); clear hb4 hM4 hown4 hg4)
                  clear k4 f4 HM5 HB5 HMF
                  generalize (w4.setCell ⟨gb, i, none⟩ (.slice (some ⟨wr.heap.size, 0, none⟩) n n)) = w5 at *
                  generalize upG G i wr.heap.size = G2 at *
                  obtain rfl := g2.ad (by omega)
                  obtain rfl := gs.ad (by omega)
                  obtain rfl := g0.ad (by omega)
                  obtain rfl := g1.ad (by omega)
                  obtain rfl := gt.ad (by omega)
                  obtain ⟨⟨ao3, cap3, b3, off3, hv3, g3⟩, -⟩ := HR.out i hlti
                  have hcv := g2.el i hlti
                  rw [hv3] at hcv
                  have HCV := Lib.hid hcv
                  have HRGI := Lib.hid (HRG.out i hlti)
                  have HED : Hid (∀ c : Nat, (c : Int) ∈ g.succ.getD i [] → s.getD i false = true → s.getD c false = true → (kp : Int) ≤ g.prio.getD i 0 → (kp : Int) ≤ g.prio.getD c 0 → (g.owner.getD i 0 = p → st.getD i 0 = (c : Int)) → Plus R i c) := fun c h1 h2 h3 h4 h5 h6 => by
                    rw [HRR.out]
                    exact .one ⟨h2, h3, h1, h4, h5, fun ho => by show c = (st.getD i 0).toNat; rw [h6 ho, Int.toNat_natCast]⟩
                  clear hv3 hcv
                  generalize g.succ.getD i [] = row at *
                  have hn3 := g3.nb
                  go_loopg [15] row.length (fun gh kv wx => ∃ (m : Nat) (M : Nat → Nat → Bool), gh = row.length - m ∧ kv = .int .i64 m ∧ m ≤ row.length ∧ Boxed w wx #[Value.slice (some ⟨b0, off0, none⟩) n cap0, Value.slice (some ⟨b1, off1, none⟩) n cap1, Value.slice (some ⟨b2, off2, none⟩) n cap2] ∧ Mx wx (w.heap.size + 1) gb n (i + 1) G2 M ∧ Hid (∀ a c, M a c = true → Plus R a c) ∧ Hid (∀ a c, i + 1 ≤ a → M a c = false))
                  case atStart => exact ⟨0, M, by omega, rfl, by omega, HB6.out, HM6.out, HSD, fun a c h => HZR.out a c (by omega)⟩
                  case round => as_aux_lemma =>
                    clear HSD HZR HB6 HM6
                    obtain ⟨m, M, hgm, rfl, hm, hB, hM, HSD, HZR⟩ := hrel
                    have HGM := Lib.hid hgm
                    clear hgm
                    have HB7 := Lib.hid hB
                    have HM7 := Lib.hid hM
                    have d2 : wr.cell? ⟨w.heap.size, 2, none⟩ = some (Value.slice (some ⟨b2, off2, none⟩) n cap2) := hB.cell 2 rfl
                    have cv := cellB hB.bl HCV.out
                    clear hB hM
                    by_cases hltm : m < row.length
                    · obtain rfl := g3.ad (by omega)
                      have c3 := cellB HB7.out.bl (g3.el m hltm)
                      unfold ivF at c3
                      rw [getD_lt _ _ _ hltm] at c3
                      obtain ⟨q, hq, hqn⟩ := HRGI.out _ (List.getElem_mem hltm)
                      have HME : Hid ((q : Int) ∈ row) := by show _ ∈ _; rw [← hq]; exact List.getElem_mem hltm
                      rw [hq] at c3
                      clear hq
                      have e1 := cellB HB7.out.bl (gs.el i hlti)
                      have e2 := cellB HB7.out.bl (gs.el q hqn)
                      have e3 := cellB HB7.out.bl (g1.el i hlti)
                      have e4 := cellB HB7.out.bl (g1.el q hqn)
                      have e5 := cellB HB7.out.bl (g0.el i hlti)
                      have e6 := cellB HB7.out.bl (gt.el i hlti)
                      unfold bvF at e1 e2
                      unfold ivF at e3 e4 e5 e6
                      have d0 : wr.cell? ⟨w.heap.size, 0, none⟩ = some (Value.slice (some ⟨b0, off0, none⟩) n cap0) := HB7.out.cell 0 rfl
                      have d1 : wr.cell? ⟨w.heap.size, 1, none⟩ = some (Value.slice (some ⟨b1, off1, none⟩) n cap1) := HB7.out.cell 1 rfl
                      have m1 := HM7.out.cell (Nat.lt_succ_self i) hlti
                      have m2 := HM7.out.at (Nat.lt_succ_self i) hqn
                      have m3 := HM7.out.fz (Nat.lt_succ_self i) q
                      have HMS := Lib.hid (HM7.out.set (k := q) (Nat.lt_succ_self i) true)
                      have HBS := Lib.hid (HB7.out.stepB (Below.setCell (B := w.heap.size + 1) (p := ⟨G2 i, q, none⟩) (Below.refl _ _) (HM7.out.ge (Nat.lt_succ_self i)) (.bool true)))
                      have HEE := Lib.hid (HED.out q HME.out)
                      generalize s.getD i false = x1 at *
                      generalize s.getD q false = x2 at *
                      generalize g.prio.getD i 0 = y1 at *
                      generalize g.prio.getD q 0 = y2 at *
                      generalize g.owner.getD i 0 = oi at *
                      generalize st.getD i 0 = ti at *
                      have HOLD : ∀ {P : Prop}, P → P := fun h => h
                      clear HOLD
                      by_cases hX : x1 = true ∧ x2 = true ∧ (kp : Int) ≤ y1 ∧ (kp : Int) ≤ y2 ∧ (oi = p → ti = (q : Int))
                      · obtain ⟨rfl, rfl, h1, h2, h3⟩ := hX
                        have HP := Lib.hid (HEE.out rfl rfl h1 h2 h3)
                        by_cases ho : oi = p
                        · have hq1 : (oi != p) = false := by simpa using ho
                          have hq2 : (ti == (q : Int)) = true := by simpa using h3 ho
                          clear h3 ho
                          go_wp2
                          go_roundg (row.length - (m + 1))
                          case measure => have := HGM.out; omega
                          case rel => exact ⟨m + 1, _, rfl, by go_num, by omega, HBS.out, HMS.out, upM_sound HSD.out i q _ (fun _ => HP.out), upM_zero HZR.out i q _ (Nat.lt_succ_self i)⟩
                        · have hq1 : (oi != p) = true := by simpa using ho
                          clear h3 ho
                          go_wp2
                          go_roundg (row.length - (m + 1))
                          case measure => have := HGM.out; omega
                          case rel => exact ⟨m + 1, _, rfl, by go_num, by omega, HBS.out, HMS.out, upM_sound HSD.out i q _ (fun _ => HP.out), upM_zero HZR.out i q _ (Nat.lt_succ_self i)⟩
                      · have hcase : x1 = false ∨ (x1 = true ∧ x2 = false) ∨ (x1 = true ∧ x2 = true ∧ y1 < (kp : Int)) ∨ (x1 = true ∧ x2 = true ∧ (kp : Int) ≤ y1 ∧ y2 < (kp : Int)) ∨ (x1 = true ∧ x2 = true ∧ (kp : Int) ≤ y1 ∧ (kp : Int) ≤ y2 ∧ (oi != p) = false ∧ (ti == (q : Int)) = false) := by
                          cases x1
                          · exact .inl rfl
                          cases x2
                          · exact .inr (.inl ⟨rfl, rfl⟩)
                          by_cases h1 : (kp : Int) ≤ y1
                          · by_cases h2 : (kp : Int) ≤ y2
                            · refine .inr (.inr (.inr (.inr ⟨rfl, rfl, h1, h2, ?_, ?_⟩)))
                              · by_cases ho : oi = p
                                · simpa using ho
                                · exact absurd ⟨rfl, rfl, h1, h2, fun h => absurd h ho⟩ hX
                              · by_cases ht : ti = (q : Int)
                                · exact absurd ⟨rfl, rfl, h1, h2, fun _ => ht⟩ hX
                                · simpa using ht
                            · exact .inr (.inr (.inr (.inl ⟨rfl, rfl, h1, by omega⟩)))
                          · exact .inr (.inr (.inl ⟨rfl, rfl, by omega⟩))
                        clear hX HEE HBS HMS m1 m2 m3
                        rcases hcase with rfl | ⟨rfl, rfl⟩ | ⟨rfl, rfl, h1⟩ | ⟨rfl, rfl, h1, h2⟩ | ⟨rfl, rfl, h1, h2, hq1, hq2⟩
                        · skip
                          go_wp2
                          go_roundg (row.length - (m + 1))
                          case measure => have := HGM.out; omega
                          case rel => exact ⟨m + 1, M, rfl, by go_num, by omega, HB7.out, HM7.out, HSD, HZR⟩
                        · skip
                          go_wp2
                          go_roundg (row.length - (m + 1))
                          case measure => have := HGM.out; omega
                          case rel => exact ⟨m + 1, M, rfl, by go_num, by omega, HB7.out, HM7.out, HSD, HZR⟩
                        · have hdc : decide ((kp : Int) ≤ y1) = false := decide_eq_false (by omega)
                          clear h1 hltI
                          go_wp2
                          go_roundg (row.length - (m + 1))
                          case measure => have := HGM.out; omega
                          case rel => exact ⟨m + 1, M, rfl, by go_num, by omega, HB7.out, HM7.out, HSD, HZR⟩
                        · have hdc : decide ((kp : Int) ≤ y2) = false := decide_eq_false (by omega)
                          clear h2 hltI
                          go_wp2
                          go_roundg (row.length - (m + 1))
                          case measure => have := HGM.out; omega
                          case rel => exact ⟨m + 1, M, rfl, by go_num, by omega, HB7.out, HM7.out, HSD, HZR⟩
                        · skip
                          go_wp2
                          go_roundg (row.length - (m + 1))
                          case measure => have := HGM.out; omega
                          case rel => exact ⟨m + 1, M, rfl, by go_num, by omega, HB7.out, HM7.out, HSD, HZR⟩
                    · obtain rfl : m = row.length := by omega
                      go_wp2
                      go_roundg (n - (i + 1))
                      case measure => have := HGI.out; omega
                      case rel => exact ⟨i + 1, G2, M, rfl, by go_num, by omega, HB7.out, HM7.out, HSD, HZR⟩
                · obtain rfl : n = i := by omega
                  clear HZR HGI
                  have HB8 := Lib.hid hB
                  have HM8 := Lib.hid hM
                  clear hB hM
                  go_wp2
                  go_loopg [17] n (fun gh kv wx => ∃ (k : Nat) (M : Nat → Nat → Bool), gh = n - k ∧ kv = .int .i64 k ∧ k ≤ n ∧ Boxed w wx #[Value.slice ao0 n cap0, Value.slice ao1 n cap1, Value.slice ao2 n cap2] ∧ Mx wx (w.heap.size + 1) gb n n G M ∧ Hid (∀ a c, M a c = true → Plus R a c))
                  case atStart => exact ⟨0, M, by omega, rfl, by omega, HB8.out, HM8.out, HSD⟩
                  case round => as_aux_lemma =>
                    clear HSD HB8 HM8
                    obtain ⟨k, M, hgk, rfl, hk, hB, hM, HSD⟩ := hrel
                    have HGK := Lib.hid hgk
                    clear hgk
                    have HB8 := Lib.hid hB
                    have HM8 := Lib.hid hM
                    clear hB hM
                    by_cases hltk : k < n
                    · go_wp2
                      go_loopg [18] n (fun gh iv wx => ∃ (i : Nat) (M : Nat → Nat → Bool), gh = n - i ∧ iv = .int .i64 i ∧ i ≤ n ∧ Boxed w wx #[Value.slice ao0 n cap0, Value.slice ao1 n cap1, Value.slice ao2 n cap2] ∧ Mx wx (w.heap.size + 1) gb n n G M ∧ Hid (∀ a c, M a c = true → Plus R a c))
                      case atStart => exact ⟨0, M, by omega, rfl, by omega, HB8.out, HM8.out, HSD⟩
                      case round => as_aux_lemma =>
                        clear HSD HB8 HM8
                        obtain ⟨i, M, hgi, rfl, hi, hB, hM, HSD⟩ := hrel
                        have HGI := Lib.hid hgi
                        clear hgi
                        have HB8 := Lib.hid hB
                        have HM8 := Lib.hid hM
                        clear hB hM
                        by_cases hlti : i < n
                        · go_wp2
                          go_loopg [19] n (fun gh jv wx => ∃ (j : Nat) (M : Nat → Nat → Bool), gh = n - j ∧ jv = .int .i64 j ∧ j ≤ n ∧ Boxed w wx #[Value.slice ao0 n cap0, Value.slice ao1 n cap1, Value.slice ao2 n cap2] ∧ Mx wx (w.heap.size + 1) gb n n G M ∧ Hid (∀ a c, M a c = true → Plus R a c))
                          case atStart => exact ⟨0, M, by omega, rfl, by omega, HB8.out, HM8.out, HSD⟩
                          case round => as_aux_lemma =>
                            clear HSD HB8 HM8
                            obtain ⟨j, M, hgj, rfl, hj, hB, hM, HSD⟩ := hrel
                            have HGJ := Lib.hid hgj
                            clear hgj
                            obtain ⟨w5, rfl⟩ : ∃ w5 : World, w5 = wr := ⟨_, rfl⟩
                            by_cases hltj : j < n
                            · have HiN := Lib.hid hlti
                              have HBS : Hid (∀ W, Below w5.drew.heap.size w5.drew W → Boxed w W #[Value.slice ao0 n cap0, Value.slice ao1 n cap1, Value.slice ao2 n cap2]) := fun W h => hB.step ((Below.drew (Below.refl _ _)).trans h)
                              have HMS : Hid (∀ W, Below w5.drew.heap.size w5.drew W → Mx W (w.heap.size + 1) gb n n G M) := fun W h => hM.below ((Below.drew (Below.refl _ _)).trans h)
                              have HCL : Hid (∀ W, Below w5.drew.heap.size w5.drew W → W.cell? ⟨gb, i, none⟩ = some (.slice (some ⟨G i, 0, none⟩) n n) ∧ W.cell? ⟨gb, k, none⟩ = some (.slice (some ⟨G k, 0, none⟩) n n) ∧ W.cell? ⟨G i, j, none⟩ = some (.bool (M i j)) ∧ W.cell? ⟨G i, k, none⟩ = some (.bool (M i k)) ∧ W.cell? ⟨G k, j, none⟩ = some (.bool (M k j))) := fun W h => by
                                have h1 := HMS.out W h
                                exact ⟨h1.cell hlti hlti, h1.cell hltk hltk, h1.at hlti hltj, h1.at hlti hltk, h1.at hltk hltj⟩
                              clear hB hM
                              go_wp2_with fail
                              go_upto_region 31 with (fail)
                              cases hx : M i j with
                              | true =>
                                have HPX : Hid (Plus R i j) := HSD.out i j hx
                                rw [hx] at HCL
                                clear hx
                                generalize M k j = z at *
                                refine region_last hmx (RWA gb n (G i) i j) (fun vs => { tmps := (_ :: _ :: _ :: _ :: _ :: _ :: _ :: _ :: _ :: _ :: _ :: _ :: _ :: _ :: _ :: _ :: _ :: _ :: _ :: _ :: _ :: _ :: _ :: _ :: _ :: _ :: _ :: _ :: _ :: _ :: _ :: _ :: _ :: _ :: _ :: _ :: _ :: _ :: _ :: _ :: _ :: _ :: _ :: _ :: _ :: _ :: _ :: _ :: _ :: _ :: _ :: _ :: _ :: _ :: _ :: _ :: _ :: _ :: _ :: _ :: _ :: _ :: _ :: _ :: _ :: _ :: _ :: _ :: _ :: _ :: _ :: _ :: _ :: _ :: _ :: _ :: _ :: _ :: _ :: _ :: _ :: _ :: _ :: _ :: _ :: _ :: _ :: _ :: _ :: _ :: _ :: _ :: _ :: _ :: _ :: _ :: _ :: _ :: _ :: _ :: _ :: _ :: _ :: _ :: _ :: _ :: _ :: _ :: _ :: _ :: _ :: _ :: _ :: _ :: _ :: _ :: _ :: _ :: _ :: _ :: _ :: _ :: _ :: _ :: _ :: _ :: _ :: _ :: _ :: _ :: _ :: _ :: _ :: _ :: _ :: _ :: _ :: _ :: _ :: _ :: _ :: _ :: _ :: _ :: _ :: _ :: _ :: _ :: _ :: _ :: _ :: _ :: _ :: vs 0 :: vs 1 :: vs 2 :: vs 3 :: vs 4 :: vs 5 :: vs 6 :: vs 7 :: vs 8 :: vs 9 :: vs 10 :: vs 11 :: vs 12 :: vs 13 :: vs 14 :: vs 15 :: vs 16 :: vs 17 :: vs 18 :: vs 19 :: vs 20 :: vs 21 :: vs 22 :: vs 23 :: vs 24 :: vs 25 :: vs 26 :: vs 27 :: vs 28 :: vs 29 :: vs 30 :: _ :: _ :: _ :: _ :: _ :: _ :: _ :: _ :: _ :: _ :: _ :: _ :: _ :: _ :: _ :: _ :: _ :: _ :: _ :: _ :: _ :: _ :: _ :: _ :: _ :: _ :: _ :: []).toArray, defers := [] }) (fun n => [u153, u154, u155, u156, u157, u158, u159, u160, u161, u162, u163, u164, u165, u166, u167, u168, u169, u170, u171, u172, u173, u174, u175, u176, u177, u178, u179, u180, u181, u182, u183].getD n undef) 31 rfl (by kernel_rfl) (by kernel_rfl) (RWA.mono gb n (G i) i j) (r31A_step hlti hltj (fun W h => ⟨(HCL.out W h).1, (HCL.out W h).2.2.1⟩)) ?last
                                case last =>
                                  intro o ho
                                  obtain rfl := Option.some.inj ho
                                  intro vs W K hB hall hK
                                  have HK := Lib.hid hK
                                  have e29 : vs 29 = .bool true := hall 29 (by omega)
                                  have e30 : vs 30 = .pointer (some ⟨G i, j, none⟩) := hall 30 (by omega)
                                  have c1 := (HCL.out W hB).2.2.1
                                  have f1 := (HMS.out W hB).fz HiN.out j
                                  have HM3 := Lib.hid ((HMS.out W hB).set (k := j) HiN.out true)
                                  have HB3 := Lib.hid ((HBS.out W hB).stepB (Below.setCell (B := w.heap.size + 1) (p := ⟨G i, j, none⟩) (Below.refl _ _) ((HMS.out W hB).ge HiN.out) (.bool true)))
                                  clear hK hall ho
                                  dsimp only
                                  go_simp
                                  refine HK.out _ _ ?_
                                  clear c1 f1 HK HCL HMS HBS
                                  generalize (W.setCell ⟨G i, j, none⟩ (.bool true)) = w6 at *
                                  clear e29 e30
                                  generalize vs 0 = q0
                                  generalize vs 1 = q1
                                  generalize vs 2 = q2
                                  generalize vs 3 = q3
                                  generalize vs 4 = q4
                                  generalize vs 5 = q5
                                  generalize vs 6 = q6
                                  generalize vs 7 = q7
                                  generalize vs 8 = q8
                                  generalize vs 9 = q9
                                  generalize vs 10 = q10
                                  generalize vs 11 = q11
                                  generalize vs 12 = q12
                                  generalize vs 13 = q13
                                  generalize vs 14 = q14
                                  generalize vs 15 = q15
                                  generalize vs 16 = q16
                                  generalize vs 17 = q17
                                  generalize vs 18 = q18
                                  generalize vs 19 = q19
                                  generalize vs 20 = q20
                                  generalize vs 21 = q21
                                  generalize vs 22 = q22
                                  generalize vs 23 = q23
                                  generalize vs 24 = q24
                                  generalize vs 25 = q25
                                  generalize vs 26 = q26
                                  generalize vs 27 = q27
                                  generalize vs 28 = q28
                                  generalize vs 29 = q29
                                  generalize vs 30 = q30
                                  clear vs
                                  go_wp2
                                  go_roundg (n - (j + 1))
                                  case measure => have := HGJ.out; omega
                                  case rel => exact ⟨j + 1, _, rfl, by go_num, by omega, HB3.out, HM3.out, upM_sound HSD.out i j _ (fun e => HPX.out)⟩
                              | false =>
                                cases hy : M i k with
                                | false =>
                                  rw [hx, hy] at HCL
                                  clear hx hy
                                  generalize M k j = z at *
                                  refine region_last hmx (RWB gb n (G i) i j k) (fun vs => { tmps := (_ :: _ :: _ :: _ :: _ :: _ :: _ :: _ :: _ :: _ :: _ :: _ :: _ :: _ :: _ :: _ :: _ :: _ :: _ :: _ :: _ :: _ :: _ :: _ :: _ :: _ :: _ :: _ :: _ :: _ :: _ :: _ :: _ :: _ :: _ :: _ :: _ :: _ :: _ :: _ :: _ :: _ :: _ :: _ :: _ :: _ :: _ :: _ :: _ :: _ :: _ :: _ :: _ :: _ :: _ :: _ :: _ :: _ :: _ :: _ :: _ :: _ :: _ :: _ :: _ :: _ :: _ :: _ :: _ :: _ :: _ :: _ :: _ :: _ :: _ :: _ :: _ :: _ :: _ :: _ :: _ :: _ :: _ :: _ :: _ :: _ :: _ :: _ :: _ :: _ :: _ :: _ :: _ :: _ :: _ :: _ :: _ :: _ :: _ :: _ :: _ :: _ :: _ :: _ :: _ :: _ :: _ :: _ :: _ :: _ :: _ :: _ :: _ :: _ :: _ :: _ :: _ :: _ :: _ :: _ :: _ :: _ :: _ :: _ :: _ :: _ :: _ :: _ :: _ :: _ :: _ :: _ :: _ :: _ :: _ :: _ :: _ :: _ :: _ :: _ :: _ :: _ :: _ :: _ :: _ :: _ :: _ :: _ :: _ :: _ :: _ :: _ :: _ :: vs 0 :: vs 1 :: vs 2 :: vs 3 :: vs 4 :: vs 5 :: vs 6 :: vs 7 :: vs 8 :: vs 9 :: vs 10 :: vs 11 :: vs 12 :: vs 13 :: vs 14 :: vs 15 :: vs 16 :: vs 17 :: vs 18 :: vs 19 :: vs 20 :: vs 21 :: vs 22 :: vs 23 :: vs 24 :: vs 25 :: vs 26 :: vs 27 :: vs 28 :: vs 29 :: vs 30 :: _ :: _ :: _ :: _ :: _ :: _ :: _ :: _ :: _ :: _ :: _ :: _ :: _ :: _ :: _ :: _ :: _ :: _ :: _ :: _ :: _ :: _ :: _ :: _ :: _ :: _ :: _ :: []).toArray, defers := [] }) (fun n => [u153, u154, u155, u156, u157, u158, u159, u160, u161, u162, u163, u164, u165, u166, u167, u168, u169, u170, u171, u172, u173, u174, u175, u176, u177, u178, u179, u180, u181, u182, u183].getD n undef) 31 rfl (by kernel_rfl) (by kernel_rfl) (RWB.mono gb n (G i) i j k) (r31B_step hlti hltj hltk (fun W h => ⟨(HCL.out W h).1, (HCL.out W h).2.2.1, (HCL.out W h).2.2.2.1⟩)) ?last
                                  case last =>
                                    intro o ho
                                    obtain rfl := Option.some.inj ho
                                    intro vs W K hB hall hK
                                    have HK := Lib.hid hK
                                    have e29 : vs 29 = .bool false := hall 29 (by omega)
                                    have e30 : vs 30 = .pointer (some ⟨G i, j, none⟩) := hall 30 (by omega)
                                    have c1 := (HCL.out W hB).2.2.1
                                    have f1 := (HMS.out W hB).fz HiN.out j
                                    have HM3 := Lib.hid ((HMS.out W hB).set (k := j) HiN.out false)
                                    have HB3 := Lib.hid ((HBS.out W hB).stepB (Below.setCell (B := w.heap.size + 1) (p := ⟨G i, j, none⟩) (Below.refl _ _) ((HMS.out W hB).ge HiN.out) (.bool false)))
                                    clear hK hall ho
                                    dsimp only
                                    go_simp
                                    refine HK.out _ _ ?_
                                    clear c1 f1 HK HCL HMS HBS
                                    generalize (W.setCell ⟨G i, j, none⟩ (.bool false)) = w6 at *
                                    clear e29 e30
                                    generalize vs 0 = q0
                                    generalize vs 1 = q1
                                    generalize vs 2 = q2
                                    generalize vs 3 = q3
                                    generalize vs 4 = q4
                                    generalize vs 5 = q5
                                    generalize vs 6 = q6
                                    generalize vs 7 = q7
                                    generalize vs 8 = q8
                                    generalize vs 9 = q9
                                    generalize vs 10 = q10
                                    generalize vs 11 = q11
                                    generalize vs 12 = q12
                                    generalize vs 13 = q13
                                    generalize vs 14 = q14
                                    generalize vs 15 = q15
                                    generalize vs 16 = q16
                                    generalize vs 17 = q17
                                    generalize vs 18 = q18
                                    generalize vs 19 = q19
                                    generalize vs 20 = q20
                                    generalize vs 21 = q21
                                    generalize vs 22 = q22
                                    generalize vs 23 = q23
                                    generalize vs 24 = q24
                                    generalize vs 25 = q25
                                    generalize vs 26 = q26
                                    generalize vs 27 = q27
                                    generalize vs 28 = q28
                                    generalize vs 29 = q29
                                    generalize vs 30 = q30
                                    clear vs
                                    go_wp2
                                    go_roundg (n - (j + 1))
                                    case measure => have := HGJ.out; omega
                                    case rel => exact ⟨j + 1, _, rfl, by go_num, by omega, HB3.out, HM3.out, upM_sound HSD.out i j _ (fun e => absurd e (by simp))⟩
                                | true =>
                                  have HPX : Hid (M k j = true → Plus R i j) := fun h => (HSD.out i k hy).trans (HSD.out k j h)
                                  rw [hx, hy] at HCL
                                  clear hx hy
                                  generalize M k j = z at *
                                  refine region_last hmx (RWC gb n (G i) (G k) i j k z) (fun vs => { tmps := (_ :: _ :: _ :: _ :: _ :: _ :: _ :: _ :: _ :: _ :: _ :: _ :: _ :: _ :: _ :: _ :: _ :: _ :: _ :: _ :: _ :: _ :: _ :: _ :: _ :: _ :: _ :: _ :: _ :: _ :: _ :: _ :: _ :: _ :: _ :: _ :: _ :: _ :: _ :: _ :: _ :: _ :: _ :: _ :: _ :: _ :: _ :: _ :: _ :: _ :: _ :: _ :: _ :: _ :: _ :: _ :: _ :: _ :: _ :: _ :: _ :: _ :: _ :: _ :: _ :: _ :: _ :: _ :: _ :: _ :: _ :: _ :: _ :: _ :: _ :: _ :: _ :: _ :: _ :: _ :: _ :: _ :: _ :: _ :: _ :: _ :: _ :: _ :: _ :: _ :: _ :: _ :: _ :: _ :: _ :: _ :: _ :: _ :: _ :: _ :: _ :: _ :: _ :: _ :: _ :: _ :: _ :: _ :: _ :: _ :: _ :: _ :: _ :: _ :: _ :: _ :: _ :: _ :: _ :: _ :: _ :: _ :: _ :: _ :: _ :: _ :: _ :: _ :: _ :: _ :: _ :: _ :: _ :: _ :: _ :: _ :: _ :: _ :: _ :: _ :: _ :: _ :: _ :: _ :: _ :: _ :: _ :: _ :: _ :: _ :: _ :: _ :: _ :: vs 0 :: vs 1 :: vs 2 :: vs 3 :: vs 4 :: vs 5 :: vs 6 :: vs 7 :: vs 8 :: vs 9 :: vs 10 :: vs 11 :: vs 12 :: vs 13 :: vs 14 :: vs 15 :: vs 16 :: vs 17 :: vs 18 :: vs 19 :: vs 20 :: vs 21 :: vs 22 :: vs 23 :: vs 24 :: vs 25 :: vs 26 :: vs 27 :: vs 28 :: vs 29 :: vs 30 :: _ :: _ :: _ :: _ :: _ :: _ :: _ :: _ :: _ :: _ :: _ :: _ :: _ :: _ :: _ :: _ :: _ :: _ :: _ :: _ :: _ :: _ :: _ :: _ :: _ :: _ :: _ :: []).toArray, defers := [] }) (fun n => [u153, u154, u155, u156, u157, u158, u159, u160, u161, u162, u163, u164, u165, u166, u167, u168, u169, u170, u171, u172, u173, u174, u175, u176, u177, u178, u179, u180, u181, u182, u183].getD n undef) 31 rfl (by kernel_rfl) (by kernel_rfl) (RWC.mono gb n (G i) (G k) i j k z) (r31C_step hlti hltj hltk (fun W h => ⟨(HCL.out W h).1, (HCL.out W h).2.2.1, (HCL.out W h).2.2.2.1, (HCL.out W h).2.1, (HCL.out W h).2.2.2.2⟩)) ?last
                                  case last =>
                                    intro o ho
                                    obtain rfl := Option.some.inj ho
                                    intro vs W K hB hall hK
                                    have HK := Lib.hid hK
                                    have e29 : vs 29 = .bool z := hall 29 (by omega)
                                    have e30 : vs 30 = .pointer (some ⟨G i, j, none⟩) := hall 30 (by omega)
                                    have c1 := (HCL.out W hB).2.2.1
                                    have f1 := (HMS.out W hB).fz HiN.out j
                                    have HM3 := Lib.hid ((HMS.out W hB).set (k := j) HiN.out z)
                                    have HB3 := Lib.hid ((HBS.out W hB).stepB (Below.setCell (B := w.heap.size + 1) (p := ⟨G i, j, none⟩) (Below.refl _ _) ((HMS.out W hB).ge HiN.out) (.bool z)))
                                    clear hK hall ho
                                    dsimp only
                                    go_simp
                                    refine HK.out _ _ ?_
                                    clear c1 f1 HK HCL HMS HBS
                                    generalize (W.setCell ⟨G i, j, none⟩ (.bool z)) = w6 at *
                                    clear e29 e30
                                    generalize vs 0 = q0
                                    generalize vs 1 = q1
                                    generalize vs 2 = q2
                                    generalize vs 3 = q3
                                    generalize vs 4 = q4
                                    generalize vs 5 = q5
                                    generalize vs 6 = q6
                                    generalize vs 7 = q7
                                    generalize vs 8 = q8
                                    generalize vs 9 = q9
                                    generalize vs 10 = q10
                                    generalize vs 11 = q11
                                    generalize vs 12 = q12
                                    generalize vs 13 = q13
                                    generalize vs 14 = q14
                                    generalize vs 15 = q15
                                    generalize vs 16 = q16
                                    generalize vs 17 = q17
                                    generalize vs 18 = q18
                                    generalize vs 19 = q19
                                    generalize vs 20 = q20
                                    generalize vs 21 = q21
                                    generalize vs 22 = q22
                                    generalize vs 23 = q23
                                    generalize vs 24 = q24
                                    generalize vs 25 = q25
                                    generalize vs 26 = q26
                                    generalize vs 27 = q27
                                    generalize vs 28 = q28
                                    generalize vs 29 = q29
                                    generalize vs 30 = q30
                                    clear vs
                                    go_wp2
                                    go_roundg (n - (j + 1))
                                    case measure => have := HGJ.out; omega
                                    case rel => exact ⟨j + 1, _, rfl, by go_num, by omega, HB3.out, HM3.out, upM_sound HSD.out i j _ (fun e => HPX.out e)⟩
                            · obtain rfl : n = j := by omega
                              go_wp2
                              go_roundg (n - (i + 1))
                              case measure => have := HGI.out; omega
                              case rel => exact ⟨i + 1, M, rfl, by go_num, by omega, hB, hM, HSD⟩
                        · obtain rfl : n = i := by omega
                          go_wp2
                          go_roundg (n - (k + 1))
                          case measure => have := HGK.out; omega
                          case rel => exact ⟨k + 1, M, rfl, by go_num, by omega, HB8.out, HM8.out, HSD⟩
                    · obtain rfl : n = k := by omega
                      obtain ⟨w9, rfl⟩ : ∃ w9 : World, w9 = wr := ⟨_, rfl⟩
                      go_wp2
                      go_loopg [20] n (fun gh iv wx => ∃ (i : Nat), gh = n - i ∧ iv = .int .i64 i ∧ i ≤ n ∧ w9 = wx)
                      case atStart => exact ⟨0, by omega, rfl, by omega, rfl⟩
                      case round => as_aux_lemma =>
                        obtain ⟨i, hgi, rfl, hi, rfl⟩ := hrel
                        have HGI := Lib.hid hgi
                        clear hgi
                        by_cases hlti : i < n
                        · obtain rfl := gs.ad (by omega)
                          obtain rfl := g1.ad (by omega)
                          have e1 := cellB HB8.out.bl (gs.el i hlti)
                          have e3 := cellB HB8.out.bl (g1.el i hlti)
                          unfold bvF at e1
                          unfold ivF at e3
                          have d1 : w9.cell? ⟨w.heap.size, 1, none⟩ = some (Value.slice (some ⟨b1, off1, none⟩) n cap1) := HB8.out.cell 1 rfl
                          have m1 := HM8.out.cell hlti hlti
                          have m2 := HM8.out.at hlti hlti
                          have HBD : Hid (s.getD i false = true → g.prio.getD i 0 = (kp : Int) → M i i = true → Bad g p s st) := fun h1 h2 h3 => by
                            have h4 := HSD.out i i h3
                            rw [HRR.out] at h4
                            exact ⟨(kp : Int), i, HL.out, h1, h2, h4⟩
                          generalize s.getD i false = x1 at *
                          generalize g.prio.getD i 0 = y1 at *
                          generalize M i i = z1 at *
                          cases x1 with
                          | false =>
                            clear e3 d1 m1 m2 HBD
                            go_wp2
                            go_roundg (n - (i + 1))
                            case measure => have := HGI.out; omega
                            case rel => exact ⟨i + 1, rfl, by go_num, by omega, rfl⟩
                          | true =>
                            by_cases hy : y1 = (kp : Int)
                            · have hq1 : (y1 == (kp : Int)) = true := by simpa using hy
                              cases z1 with
                              | false =>
                                clear hy HBD
                                go_wp2
                                go_roundg (n - (i + 1))
                                case measure => have := HGI.out; omega
                                case rel => exact ⟨i + 1, rfl, by go_num, by omega, rfl⟩
                              | true =>
                                have HBF := Lib.hid (HBD.out rfl hy rfl)
                                clear hy HBD
                                go_wp2
                                go_ret
                                exact ⟨true, rfl, fun _ => HBF.out, HB8.out.bl⟩
                            · have hq1 : (y1 == (kp : Int)) = false := by simpa using hy
                              clear hy m1 m2 HBD
                              go_wp2
                              go_roundg (n - (i + 1))
                              case measure => have := HGI.out; omega
                              case rel => exact ⟨i + 1, rfl, by go_num, by omega, rfl⟩
                        · obtain rfl : n = i := by omega
                          clear HM8 HSD HGK HRR HL HGB
                          go_wp2
                          go_roundg (30001 - (kp + 1))
                          case measure => have := HGP.out; have := HLP.out; omega
                          case rel => exact ⟨kp + 1, rfl, by go_num, HLP.out, HB8.out⟩
    · obtain rfl : kp = 30001 := by omega
      go_wp2
      go_ret
      exact ⟨false, rfl, fun h => (by cases h), hB.bl⟩

end Go.Proofs.Ytjhafakkadnfmaa
