/- The contract of the reference's region. -/
import Derived.Test.YtjhafakkadnfmaaSo33
namespace Go.Proofs.Ytjhafakkadnfmaa
open Go.RowKit

/-- What the operations of the drawn statement leave. -/
def RRg (ao0 ao1 ao2 aos aoy : Option Addr) (cap0 cap1 cap2 caps capy n B : Nat) (l1 l2 : List Bool) (ix : Nat) (v : Value) (W : World) : Prop :=
  match ix with
  | 0 => v = (.agg #[Value.slice ao0 n cap0, Value.slice ao1 n cap1, Value.slice ao2 n cap2])
  | 1 => v = .slice aos n caps
  | 2 => v = .slice aoy n capy
  | 3 => OB W B v l1
  | 4 => OB W B v l2
  | 5 => OB W B v l2
  | _ => True
theorem RRg.mono (ao0 ao1 ao2 aos aoy : Option Addr) (cap0 cap1 cap2 caps capy n B : Nat) (l1 l2 : List Bool) (ix : Nat) (v : Value) (W W' : World) (h : RRg ao0 ao1 ao2 aos aoy cap0 cap1 cap2 caps capy n B l1 l2 ix v W) (hb : Below W.heap.size W W') : RRg ao0 ao1 ao2 aos aoy cap0 cap1 cap2 caps capy n B l1 l2 ix v W' := by
  unfold RRg at *
  split at h <;> first | exact h | exact OB.below h hb

theorem take_set_next (l : List Bool) (k : Nat) (b : Bool) (h : k < l.length) : (l.set k b).take (k + 1) = l.take k ++ [b] := by
  rw [List.take_succ_eq_append_getElem (by simpa using h), List.take_set_of_le (Nat.le_refl _)]; simp
theorem leastS_I64 {g : Gm} {n : Nat} {s : List Bool} (hpr : ∀ i, i < n → 0 ≤ g.prio.getD i 0 ∧ g.prio.getD i 0 ≤ 30000) (k : Nat) (hk : k ≤ n) : 0 ≤ leastS g s k ∧ leastS g s k ≤ 30001 := by
  rcases leastS_is g s k with h | ⟨i, hi, -, h⟩
  · omega
  · have := hpr i (by omega); omega

set_option maxRecDepth 100000 in
set_option maxHeartbeats 8000000 in
theorem region_c {g : Gm} {n : Nat} (hon : g.owner.length = n) (hpn : g.prio.length = n) (hsn : g.succ.length = n) (hn : n ≤ 3000)
    (hrg : ∀ i, i < n → ∀ x ∈ g.succ.getD i [], ∃ v : Nat, x = v ∧ v < n) (how : ∀ i, i < n → own g i = 0 ∨ own g i = 1) (hpr : ∀ i, i < n → 0 ≤ g.prio.getD i 0 ∧ g.prio.getD i 0 ≤ 30000) :
    ∀ (f : Nat) (s : List Bool) (w : World) (vg vs : Value) (B : Nat), s.length = n → s.count true < f → Total g (setOf s) → IsGame w vg g → OB w B vs s → B ≤ w.heap.size →
      Calls Try.prog 33 #[vg, vs] w (RegOut B (regF g n f s) w) := by
  intro f
  induction f with
  | zero => intro s w vg vs B _ h; omega
  | succ f ih =>
  intro s w vg vs B hs hc hT hg hos hBw
  have HG := Lib.hid hg
  have HOS := Lib.hid hos
  obtain ⟨v0, v1, v2, rfl, ⟨⟨ao0, cap0, b0, off0, rfl, -⟩, -⟩, ⟨⟨ao1, cap1, b1, off1, rfl, g1⟩, -⟩, ⟨V, ⟨ao2, cap2, b2, off2, rfl, -⟩, -⟩⟩ := hg
  have hsb := hos.is (by unfold maxN; omega)
  obtain ⟨aos, caps, bs, offs, rfl, gs⟩ := id hsb
  rw [hs] at gs
  rw [hs] at HOS hsb ⊢
  rw [hpn] at g1 
  rw [hon, hpn, hsn] at HG ⊢
  have HSB0 := Lib.hid hsb
  have HLs := Lib.hid hs
  have hsz1 := hBw
  have HSTEP : Hid (s.any id = true → RegStep g n f s) := fun h => reg_step hrg how hpr f s hs hc hT h
  have HRF := Lib.hid (regF_step g n f s)
  have HPR := Lib.hid hpr
  have HC := Lib.hid hc
  clear hs hc hT hsb hos
  have hmx : Try.prog.follows .mixedOrders = true := by kernel_rfl
  go_enter Try.func33, Try.ntmps33
  go_wp2_with (at_make; refine mk_bool rfl _ _ _ Try.underlying33 rfl (w.heap.size + 1) _ n rfl rfl rfl (by omega) (by simp) ?_; intro w2 hown2 hg2)
  have hbx2 : Boxed w w2 #[Value.slice ao0 n cap0, Value.slice ao1 n cap1, Value.slice ao2 n cap2] := (Boxed.start (Below.refl _ _)).stepB ((Below.refl _ _).grown hg2 (by simp) (fun k hk => by cases hk))
  have hN2 : OB w2 (w.heap.size + 1) (.slice (some ⟨w.heap.size + 1, 0, none⟩) n n) (List.replicate n false) := by simpa using hown2
  clear hg2 hown2
  refine (RSome23_c _ _ s (HSB0.out.below hbx2.bl)).mono ?_
  rintro e w3 ⟨rfl, hb3⟩
  have hbx3 := hbx2.step hb3
  have hN3 := hN2.below hb3
  clear hbx2 hN2 hb3
  cases hany : s.any id with
  | false =>
    have HRX : Hid (regF g n (f + 1) s = List.replicate n false) := by show _ = _; rw [HRF.out, hany]; rfl
    go_wp2
    go_ret
    exact ⟨_, rfl, by rw [HRX.out]; exact hN3.base (by omega), hbx3.bl⟩
  | true =>
    have HS := Lib.hid (HSTEP.out hany)
    have HRX : Hid (regF g n (f + 1) s = (if (regLost g n f s).any id then (if leastS g s n % 2 = 1 then orL (regF g n f (withoutL s (regAway g n f s))) (regAway g n f s) n else regF g n f (withoutL s (regAway g n f s))) else if leastS g s n % 2 = 0 then s else List.replicate n false)) := by show _ = _; rw [HRF.out, hany]; rfl
    clear hany HSTEP HRF
    have d1 : w3.cell? ⟨w.heap.size, 1, none⟩ = some (Value.slice ao1 n cap1) := hbx3.cell 1 rfl
    have HEL : Hid (∀ i, i < n → w3.cell? ⟨bs, offs + i, none⟩ = some (.bool (s.getD i false))) := fun i hi => cellB hbx3.bl (gs.el i hi)
    have HEP : Hid (∀ i, i < n → w3.cell? ⟨b1, off1 + i, none⟩ = some (.int .i64 (g.prio.getD i 0))) := fun i hi => cellB hbx3.bl (g1.el i hi)
    have HB3 := Lib.hid hbx3
    have HN3 := Lib.hid hN3
    clear hbx3 hN3
    go_wp2
    go_loopg [7, 8] n (fun gh m i wr => ∃ k : Nat, gh = n - k ∧ m = .int .i64 (leastS g s k) ∧ i = .int .i64 k ∧ k ≤ n ∧ w3 = wr)
    case atStart => exact ⟨0, by omega, rfl, rfl, by omega, rfl⟩
    case round =>
      obtain ⟨k, hgk, rfl, rfl, hk, rfl⟩ := hrel
      have HGK := Lib.hid hgk
      clear hgk
      by_cases hlt : k < n
      · obtain rfl := gs.ad (by omega)
        obtain rfl := g1.ad (by omega)
        have c1 := HEL.out k hlt
        have c2 := HEP.out k hlt
        have HM := Lib.hid (leastS_succ g s k)
        generalize leastS g s k = m at *
        generalize g.prio.getD k 0 = x at *
        cases hq : s.getD k false with
        | false =>
          rw [hq] at c1
          have HM2 : Hid (leastS g s (k + 1) = m) := by show _ = _; rw [HM.out, hq]; rfl
          go_wp2
          go_roundg (n - (k + 1))
          case measure => have := HGK.out; omega
          case rel => exact ⟨k + 1, rfl, by rw [HM2.out], by go_num, by omega, rfl⟩
        | true =>
          rw [hq] at c1
          have HM2 : Hid (leastS g s (k + 1) = min m x) := by show _ = _; rw [HM.out, hq]; rfl
          go_wp2
          all_goals
            go_roundg (n - (k + 1))
            case measure => have := HGK.out; omega
            case rel => exact ⟨k + 1, rfl, by rw [HM2.out]; congr 1; omega, by go_num, by omega, rfl⟩
      · obtain rfl : n = k := by omega
        have hk0 := HS.out.k
        obtain ⟨ks, hks⟩ : ∃ ks, ks = leastS g s n := ⟨_, rfl⟩
        obtain ⟨p, hp⟩ : ∃ p, p = ks % 2 := ⟨_, rfl⟩
        have hrem : ks.tmod 2 = p := by rw [hp]; exact Int.tmod_eq_emod_of_nonneg (by omega)
        have hp01 : p = 0 ∨ p = 1 := by omega
        have HP01 := Lib.hid hp01
        rw [← hks] at hk0 ⊢
        have HRA : Hid (regA g n s = raRounds g p s n (targetS g s ks n) n) := by show _ = _; rw [hp, hks]; rfl
        have HRW : Hid (regAway g n f s = raRounds g (1 - p) s n (regLost g n f s) n) := by show _ = _; rw [hp, hks]; rfl
        have HRL : Hid (regLost g n f s = if p = 0 then withoutL (withoutL s (regA g n s)) (regF g n f (withoutL s (regA g n s))) else regF g n f (withoutL s (regA g n s))) := by show _ = _; rw [hp, hks]; rfl
        rw [← hks, ← hp] at HRX
        obtain ⟨hk1, hk2⟩ := hk0
        clear hks hp HGK d1 HEL HEP hk hp01
        go_wp2_with (at_make; refine mk_bool rfl _ _ _ Try.underlying33 rfl (w.heap.size + 1) _ n rfl rfl rfl (by omega) HB3.out.lt ?_; intro w4 hown4 hg4)
        have hbx4 : Boxed w w4 #[Value.slice ao0 n cap0, Value.slice ao1 n cap1, Value.slice ao2 n cap2] := HB3.out.stepB ((Below.refl _ _).grown hg4 HB3.out.lt (fun k hk => by cases hk))
        have hN4 : OB w4 (w.heap.size + 1) (.slice (some ⟨w.heap.size + 1, 0, none⟩) n n) (List.replicate n false) := HN3.out.grown hg4 (.inr (by simp [Value.ownBlock]))
        have HLT : Hid (w.heap.size + 1 < w3.heap.size) := HN3.out.lt' _ rfl
        clear hg4
        go_loopg [11] n (fun gh i wr => ∃ (k : Nat) (l : List Bool), gh = n - k ∧ i = .int .i64 k ∧ k ≤ n ∧ Boxed w wr #[Value.slice ao0 n cap0, Value.slice ao1 n cap1, Value.slice ao2 n cap2] ∧ OB wr (w.heap.size + 1) (.slice (some ⟨w3.heap.size, 0, none⟩) n n) l ∧ OB wr (w.heap.size + 1) (.slice (some ⟨w.heap.size + 1, 0, none⟩) n n) (List.replicate n false) ∧ Hid (l.length = n) ∧ Hid (l.take k = targetS g s ks k))
        case atStart => exact ⟨0, _, by omega, rfl, by omega, hbx4, hown4, hN4, List.length_replicate, by simp [Hid, targetS]⟩
        case round =>
          obtain ⟨k, l, hgk, rfl, hk, hB, hT, hN, HL, HTK⟩ := hrel
          have HGK := Lib.hid hgk
          clear hgk hbx4 hown4 hN4
          by_cases hlt : k < n
          · obtain rfl := gs.ad (by omega)
            obtain rfl := g1.ad (by omega)
            have c1 := cellB hB.bl (gs.el k hlt)
            have c2 := cellB hB.bl (g1.el k hlt)
            unfold bvF at c1
            unfold ivF at c2
            have d1 : wr.cell? ⟨w.heap.size, 1, none⟩ = some (Value.slice (some ⟨b1, off1, none⟩) n cap1) := hB.cell 1 rfl
            have fT := hT.fz HL.out.symm k
            have cT := hT.atD HL.out.symm k (by rw [HL.out]; exact hlt)
            have HBS : Hid (∀ b : Bool, Boxed w (wr.setCell ⟨w3.heap.size, k, none⟩ (.bool b)) #[Value.slice ao0 n cap0, Value.slice (some ⟨b1, off1, none⟩) n cap1, Value.slice ao2 n cap2]) := fun b => hB.stepB ((Below.refl _ _).setCell (by have := HLT.out; show w.heap.size + 1 ≤ w3.heap.size; omega) _)
            have HTS : Hid (∀ b : Bool, OB (wr.setCell ⟨w3.heap.size, k, none⟩ (.bool b)) (w.heap.size + 1) (.slice (some ⟨w3.heap.size, 0, none⟩) n n) (l.set k b)) := fun b => hT.set HL.out.symm k b
            have HNS : Hid (∀ b : Bool, OB (wr.setCell ⟨w3.heap.size, k, none⟩ (.bool b)) (w.heap.size + 1) (.slice (some ⟨w.heap.size + 1, 0, none⟩) n n) (List.replicate n false)) := fun b => ownsRow_set_ne hN (fun e => by have := HLT.out; simp [Value.ownBlock] at e; omega)
            have HTN : Hid (∀ b : Bool, b = (s.getD k false && decide (g.prio.getD k 0 = ks)) → (l.set k b).take (k + 1) = targetS g s ks (k + 1)) := fun b hb => by rw [take_set_next _ _ _ (by rw [HL.out]; exact hlt), HTK.out, targetS_succ, hb]
            have HLN : Hid (∀ b : Bool, (l.set k b).length = n) := fun b => by rw [List.length_set]; exact HL.out
            clear hB hT hN
            generalize s.getD k false = x at *
            generalize g.prio.getD k 0 = y at *
            cases x with
            | false =>
              go_wp2
              go_roundg (n - (k + 1))
              case measure => have := HGK.out; omega
              case rel => exact ⟨k + 1, _, rfl, by go_num, by omega, HBS.out _, HTS.out _, HNS.out _, HLN.out _, HTN.out _ rfl⟩
            | true =>
              by_cases hy : y = ks
              · have hq1 : (y == ks) = true := by simpa using hy
                have HD : Hid (decide (y = ks) = true) := decide_eq_true hy
                clear hy
                go_wp2
                go_roundg (n - (k + 1))
                case measure => have := HGK.out; omega
                case rel => exact ⟨k + 1, _, rfl, by go_num, by omega, HBS.out _, HTS.out _, HNS.out _, HLN.out _, HTN.out _ (by rw [HD.out]; rfl)⟩
              · have hq1 : (y == ks) = false := by simpa using hy
                have HD : Hid (decide (y = ks) = false) := decide_eq_false hy
                clear hy
                go_wp2
                go_roundg (n - (k + 1))
                case measure => have := HGK.out; omega
                case rel => exact ⟨k + 1, _, rfl, by go_num, by omega, HBS.out _, HTS.out _, HNS.out _, HLN.out _, HTN.out _ (by rw [HD.out]; rfl)⟩
          · obtain rfl : n = k := by omega
            obtain ⟨w5, rfl⟩ : ∃ w5 : World, w5 = wr := ⟨_, rfl⟩
            have HTE : Hid (l = targetS g s ks n) := by
              show _ = _
              have h1 := HTK.out
              rwa [List.take_of_length_le (by rw [HL.out]; exact Nat.le_refl _)] at h1
            rw [HTE.out] at hT
            have HT5 : Hid (IsBools w5 (.slice (some ⟨w3.heap.size, 0, none⟩) n n) (targetS g s ks n)) := hT.is (by rw [targetS_len]; unfold maxN; omega)
            have HB5 := Lib.hid hB
            have HN5 := Lib.hid hN
            clear hT hB hN HB3 HN3 HTE HTK HL HGK hk hlt
            have d0 : w5.cell? ⟨w.heap.size, 0, none⟩ = some (Value.slice ao0 n cap0) := HB5.out.cell 0 rfl
            have d1 : w5.cell? ⟨w.heap.size, 1, none⟩ = some (Value.slice ao1 n cap1) := HB5.out.cell 1 rfl
            have d2 : w5.cell? ⟨w.heap.size, 2, none⟩ = some (Value.slice ao2 n cap2) := HB5.out.cell 2 rfl
            go_wp2_with fail
            refine (RAttract23_c w5 _ _ _ g p s (targetS g s ks n) n (HG.out.below HB5.out.bl) (HSB0.out.below HB5.out.bl) HT5.out HLs.out (targetS_len _) hon hsn hn hrg).mono ?_
            rintro e w6 ⟨va, rfl, hA, hb6⟩
            rw [← HRA.out] at hA
            have hLA : (regA g n s).length = n := by rw [HRA.out, raRounds_len, targetS_len]
            have HB6 := Lib.hid (HB5.out.step hb6)
            have HN6 := Lib.hid (HN5.out.below hb6)
            have HA6 := Lib.hid (hA.is (by rw [hLA]; unfold maxN; omega))
            have HLA := Lib.hid hLA
            clear HB5 HN5 HT5 hA hb6 hLA d0 d1 d2
            go_wp2_with fail
            refine (RWithout_c w6 _ _ s (regA g n s) (HSB0.out.below HB6.out.bl) HA6.out (Nat.le_of_eq (HLs.out.trans HLA.out.symm))).mono ?_
            rintro e w7 ⟨vr, rfl, hR, hb7⟩
            have HB7 := Lib.hid (HB6.out.step hb7)
            have HN7 := Lib.hid (HN6.out.below hb7)
            have HR7 := Lib.hid hR
            have hsz6 := hb7.size
            have d0 : w7.cell? ⟨w.heap.size, 0, none⟩ = some (Value.slice ao0 n cap0) := HB7.out.cell 0 rfl
            have d1 : w7.cell? ⟨w.heap.size, 1, none⟩ = some (Value.slice ao1 n cap1) := HB7.out.cell 1 rfl
            have d2 : w7.cell? ⟨w.heap.size, 2, none⟩ = some (Value.slice ao2 n cap2) := HB7.out.cell 2 rfl
            clear HB6 HN6 HA6 hR hb7
            go_wp2_with fail
            refine (ih (withoutL s (regA g n s)) w7 _ vr w6.heap.size HS.out.l1 (by have h1 := HS.out.c1; have h2 := HC.out; omega) HS.out.t1 (HG.out.below HB7.out.bl) HR7.out hsz6).mono ?_
            rintro e w8 ⟨vw, rfl, hW, hb8⟩
            have HB8 := Lib.hid (HB7.out.step hb8)
            have HN8 := Lib.hid (HN7.out.below hb8)
            have HR8 := Lib.hid (HR7.out.below hb8)
            have HW8 := Lib.hid hW
            clear HB7 HN7 HR7 hW hb8 d0 d1 d2
            go_upto_if 80 with (fail)
            go_cut [14] (fun v wx => ∃ (vl : Value) (wz : World), vl = v ∧ wz = wx ∧ Below w8.heap.size w8 wz ∧ IsBools wz vl (regLost g n f s))
            case first =>
              rcases HP01.out with rfl | rfl
              · have HL0 : Hid (regLost g n f s = withoutL (withoutL s (regA g n s)) (regF g n f (withoutL s (regA g n s)))) := by show _ = _; rw [HRL.out, if_pos rfl]
                clear HRL HRX HRW HRA HP01
                go_wp2_with fail
                refine (RWithout_c w8 _ _ _ _ (HR8.out.is (by rw [HS.out.l1]; unfold maxN; omega)) (HW8.out.is (by rw [HS.out.lw]; unfold maxN; omega)) (Nat.le_of_eq (HS.out.l1.trans HS.out.lw.symm))).mono ?_
                rintro e w9 ⟨vl, rfl, hL, hb9⟩
                have HL9 := Lib.hid hL
                have HB9 := Lib.hid hb9
                clear hL hb9
                go_wp2
                go_meet
                case rel => exact ⟨_, _, rfl, rfl, HB9.out, by rw [HL0.out]; exact HL9.out.is (by rw [withoutL_len, HS.out.l1]; unfold maxN; omega)⟩
              · have HL0 : Hid (regLost g n f s = regF g n f (withoutL s (regA g n s))) := by show _ = _; rw [HRL.out, if_neg (by omega)]
                clear HRL HRX HRW HRA HP01
                go_wp2
                go_meet
                case rel => exact ⟨_, _, rfl, rfl, Below.refl _ _, by rw [HL0.out]; exact HW8.out.is (by rw [HS.out.lw]; unfold maxN; omega)⟩
            case rest =>
              obtain ⟨vl, w9, rfl, rfl, hb9, hL⟩ := hcut
              have HB9 := Lib.hid (HB8.out.step hb9)
              have HN9 := Lib.hid (HN8.out.below hb9)
              have HL9 := Lib.hid hL
              clear HB8 HN8 HR8 HW8 hb9 hL HRL HRA
              go_wp2_with fail
              refine (RSome23_c _ _ _ HL9.out).mono ?_
              rintro e w10 ⟨rfl, hb10⟩
              have HB10 := Lib.hid (HB9.out.step hb10)
              have HN10 := Lib.hid (HN9.out.below hb10)
              have HL10 := Lib.hid (HL9.out.below hb10)
              clear HB9 HN9 HL9 hb10
              cases hla : (regLost g n f s).any id with
              | false =>
                have HRY : Hid (regF g n (f + 1) s = if p = 0 then s else List.replicate n false) := by show _ = _; rw [HRX.out, hla]; rfl
                clear HRX hla
                rcases HP01.out with rfl | rfl
                · have HRZ : Hid (regF g n (f + 1) s = s) := by show _ = _; rw [HRY.out, if_pos rfl]
                  clear HRY HRW HP01
                  go_wp2
                  go_ret
                  exact ⟨_, rfl, by rw [HRZ.out]; exact (HOS.out.below HB10.out.bl), HB10.out.bl⟩
                · have HRZ : Hid (regF g n (f + 1) s = List.replicate n false) := by show _ = _; rw [HRY.out, if_neg (by omega)]
                  clear HRY HRW HP01
                  go_wp2
                  go_ret
                  exact ⟨_, rfl, by rw [HRZ.out]; exact HN10.out.base (by omega), HB10.out.bl⟩
              | true =>
                have HRY : Hid (regF g n (f + 1) s = if p = 1 then orL (regF g n f (withoutL s (regAway g n f s))) (regAway g n f s) n else regF g n f (withoutL s (regAway g n f s))) := by show _ = _; rw [HRX.out, hla]; rfl
                have HC2 : Hid ((withoutL s (regAway g n f s)).count true < f) := by show _ < _; have h1 := HS.out.c2 hla; have h2 := HC.out; omega
                have HT2 := Lib.hid (HS.out.t2 hla)
                have HLO := Lib.hid (HS.out.lo hla)
                have HLa := Lib.hid HS.out.la
                have HLL := Lib.hid HS.out.ll
                clear HRX hla
                have d0 : w10.cell? ⟨w.heap.size, 0, none⟩ = some (Value.slice ao0 n cap0) := HB10.out.cell 0 rfl
                have d1 : w10.cell? ⟨w.heap.size, 1, none⟩ = some (Value.slice ao1 n cap1) := HB10.out.cell 1 rfl
                have d2 : w10.cell? ⟨w.heap.size, 2, none⟩ = some (Value.slice ao2 n cap2) := HB10.out.cell 2 rfl
                have hpb : 0 ≤ p ∧ p ≤ 1 := by have := HP01.out; omega
                obtain ⟨hpb0, hpb1⟩ := hpb
                go_wp2_with fail
                refine (RAttract23_c w10 _ _ _ g (1 - p) s (regLost g n f s) n (HG.out.below HB10.out.bl) (HSB0.out.below HB10.out.bl) HL10.out HLs.out HLL.out hon hsn hn hrg).mono ?_
                rintro e w9x ⟨vy, rfl, hY, hb11⟩
                rw [← HRW.out] at hY
                obtain ⟨aoy, capy, hvy⟩ := hY.slice
                rw [HLa.out] at hvy
                subst hvy
                have HBY := Lib.hid (HB10.out.step hb11)
                have HNY := Lib.hid (HN10.out.below hb11)
                have HYY := Lib.hid hY
                clear HB10 HN10 HL10 hY hb11 d0 d1 d2
                generalize hwy : regAway g n f s = away at *
                clear hwy
                obtain ⟨w9, rfl⟩ : ∃ w9' : World, w9' = w9x := ⟨_, rfl⟩
                have HCL : Hid (∀ W, Below w9.drew.heap.size w9.drew W → W.cell? ⟨w.heap.size, 0, none⟩ = some (Value.slice ao0 n cap0) ∧ W.cell? ⟨w.heap.size, 1, none⟩ = some (Value.slice ao1 n cap1) ∧ W.cell? ⟨w.heap.size, 2, none⟩ = some (Value.slice ao2 n cap2)) := fun W h => by
                  have hb := HBY.out.step ((Below.drew (Below.refl _ _)).trans h)
                  exact ⟨hb.cell 0 rfl, hb.cell 1 rfl, hb.cell 2 rfl⟩
                have HSB : Hid (∀ W, Below w9.drew.heap.size w9.drew W → IsBools W (Value.slice aos n caps) s) := fun W h => HSB0.out.below (HBY.out.step ((Below.drew (Below.refl _ _)).trans h)).bl
                have HGW : Hid (∀ W, Below w9.drew.heap.size w9.drew W → IsGame W (.agg #[Value.slice ao0 n cap0, Value.slice ao1 n cap1, Value.slice ao2 n cap2]) g) := fun W h => HG.out.below (HBY.out.step ((Below.drew (Below.refl _ _)).trans h)).bl
                have HAW : Hid (∀ W, Below w9.drew.heap.size w9.drew W → IsBools W (Value.slice aoy n capy) away) := fun W h => ((HYY.out.is (by rw [HLa.out]; unfold maxN; omega)).below ((Below.drew (Below.refl _ _)).trans h))
                have HA9 : Hid (IsBools w9 (Value.slice aoy n capy) away) := HYY.out.is (by rw [HLa.out]; unfold maxN; omega)
                have HSZ : Hid (w9.heap.size ≤ w9.drew.heap.size) := Nat.le_refl _
                go_upto_region 27 with (fail)
                refine region_stable hmx (RRg ao0 ao1 ao2 aos aoy cap0 cap1 cap2 caps capy n w9.heap.size (withoutL s away) (regF g n f (withoutL s away))) (fun vs => { tmps := (_ :: _ :: _ :: _ :: _ :: _ :: _ :: _ :: _ :: _ :: _ :: _ :: _ :: _ :: _ :: _ :: vs 5 :: _ :: _ :: _ :: _ :: _ :: _ :: _ :: _ :: _ :: _ :: _ :: _ :: _ :: _ :: _ :: _ :: _ :: _ :: _ :: _ :: _ :: _ :: _ :: _ :: _ :: _ :: _ :: _ :: _ :: _ :: _ :: _ :: _ :: _ :: _ :: _ :: _ :: _ :: _ :: _ :: _ :: _ :: _ :: _ :: _ :: _ :: _ :: _ :: _ :: _ :: _ :: _ :: _ :: _ :: _ :: _ :: _ :: _ :: _ :: _ :: _ :: _ :: _ :: _ :: _ :: _ :: _ :: _ :: _ :: _ :: _ :: _ :: _ :: _ :: _ :: _ :: _ :: _ :: _ :: _ :: vs 0 :: vs 1 :: vs 2 :: vs 3 :: vs 4 :: _ :: _ :: _ :: _ :: _ :: _ :: _ :: _ :: _ :: _ :: _ :: _ :: _ :: _ :: _ :: _ :: _ :: _ :: _ :: _ :: _ :: []).toArray, defers := [] }) (fun n => [u97, u98, u99, u100, u101, undef].getD n undef) rfl (by kernel_rfl) (RRg.mono ao0 ao1 ao2 aos aoy cap0 cap1 cap2 caps capy n w9.heap.size (withoutL s away) (regF g n f (withoutL s away))) ?step ?fin
                case step =>
                  intro ix o ho
                  match ix, ho with
                  | 0, ho =>
                    obtain rfl := Option.some.inj ho
                    intro vs W K hB hD hK
                    have HK := Lib.hid hK
                    obtain ⟨d0, d1, d2⟩ := HCL.out W hB
                    clear hK hD ho
                    dsimp only
                    go_simp
                    have h := HK.out _ _ (Below.refl _ _) rfl
                    simp only [upd, Nat.reduceEqDiff, reduceIte] at h
                    exact h
                  | 1, ho =>
                    obtain rfl := Option.some.inj ho
                    intro vs W K hB hD hK
                    have HK := Lib.hid hK
                    clear hK hD ho
                    dsimp only
                    go_simp
                    have h := HK.out _ _ (Below.refl _ _) rfl
                    simp only [upd, Nat.reduceEqDiff, reduceIte] at h
                    exact h
                  | 2, ho =>
                    obtain rfl := Option.some.inj ho
                    intro vs W K hB hD hK
                    have HK := Lib.hid hK
                    clear hK hD ho
                    dsimp only
                    go_simp
                    have h := HK.out _ _ (Below.refl _ _) rfl
                    simp only [upd, Nat.reduceEqDiff, reduceIte] at h
                    exact h
                  | 3, ho =>
                    obtain rfl := Option.some.inj ho
                    intro vs W K hB hD hK
                    have HK := Lib.hid hK
                    have e1 : vs 1 = .slice aos n caps := dep_of hD 1 (by rfl)
                    have e2 : vs 2 = .slice aoy n capy := dep_of hD 2 (by rfl)
                    clear hK hD ho
                    dsimp only
                    go_simp
                    refine (RWithout_c W _ _ s away (HSB.out W hB) (HAW.out W hB) (Nat.le_of_eq (HLs.out.trans HLa.out.symm))).mono ?_
                    rintro e W' ⟨v, rfl, hv, hb⟩
                    have h := HK.out _ _ hb (hv.base (Nat.le_trans HSZ.out hB.size))
                    simp only [upd, Nat.reduceEqDiff, reduceIte, e1, e2] at h
                    exact h
                  | 4, ho =>
                    obtain rfl := Option.some.inj ho
                    intro vs W K hB hD hK
                    have HK := Lib.hid hK
                    have e0 : vs 0 = (Value.agg #[Value.slice ao0 n cap0, Value.slice ao1 n cap1, Value.slice ao2 n cap2]) := dep_of hD 0 (by rfl)
                    have d3 : OB W w9.heap.size (vs 3) (withoutL s away) := dep_of hD 3 (by rfl)
                    clear hK hD ho
                    dsimp only
                    go_simp
                    refine (ih (withoutL s away) W _ _ w9.heap.size (by rw [withoutL_len]; exact HLs.out) (by have := HC2.out; omega) HT2.out (HGW.out W hB) d3 (Nat.le_trans HSZ.out hB.size)).mono ?_
                    rintro e W' ⟨v, rfl, hv, hb⟩
                    have h := HK.out _ _ hb hv
                    simp only [upd, Nat.reduceEqDiff, reduceIte, e0] at h
                    exact h
                  | 5, ho =>
                    obtain rfl := Option.some.inj ho
                    intro vs W K hB hD hK
                    have HK := Lib.hid hK
                    have d4 : OB W w9.heap.size (vs 4) (regF g n f (withoutL s away)) := dep_of hD 4 (by rfl)
                    clear hK hD ho
                    dsimp only
                    go_simp
                    have h := HK.out _ _ (Below.refl _ _) d4
                    simp only [upd, Nat.reduceEqDiff, reduceIte] at h
                    exact h
                  | n + 6, ho => simp at ho
                case fin =>
                  intro vs W3 hB hall
                  have H5 : OB W3 w9.heap.size (vs 5) (regF g n f (withoutL s away)) := hall 5 (by decide)
                  have hbW := HBY.out.step ((Below.drew (Below.refl _ _)).trans hB)
                  have hAW := HA9.out
                  have HW93 : Hid (Below w9.heap.size w9 W3) := (Below.drew (Below.refl _ _)).trans hB
                  have HLT9 := Lib.hid HBY.out.lt
                  clear hall hB
                  generalize vs 0 = q0
                  generalize vs 1 = q1
                  generalize vs 2 = q2
                  generalize vs 3 = q3
                  generalize vs 4 = q4
                  generalize vs 5 = q5 at *
                  clear vs HCL HSB HGW HAW HSZ HBY HNY HYY
                  generalize hro : regF g n f (withoutL s away) = out at *
                  clear hro
                  have HLq := HLO.out
                  obtain ⟨aoq, capq, hvq⟩ := H5.slice
                  rw [HLq] at hvq
                  subst hvq
                  clear HLq
                  rcases HP01.out with rfl | rfl
                  · have HRZ : Hid (regF g n (f + 1) s = out) := by show _ = _; rw [HRY.out, if_neg (by omega)]
                    clear HRY HP01
                    go_wp2
                    go_ret
                    exact ⟨_, rfl, by rw [HRZ.out]; exact H5.base (by have := HLT9.out; omega), hbW.bl⟩
                  · have HRZ : Hid (regF g n (f + 1) s = orL out away n) := by show _ = _; rw [HRY.out, if_pos rfl]
                    clear HRY HP01
                    obtain ⟨aoy', capy', by', offy, hvy, gy⟩ := hAW
                    rw [HLa.out] at hvy gy
                    simp only [Value.slice.injEq, true_and] at hvy
                    obtain ⟨rfl, rfl⟩ := hvy
                    have HGY := Lib.hid gy
                    clear gy
                    go_wp2
                    go_loopg [17] n (fun gh i wr => ∃ k : Nat, gh = n - k ∧ i = .int .i64 k ∧ k ≤ n ∧ Below w9.heap.size W3 wr ∧ OB wr w9.heap.size (.slice aoq n capq) (orS out away k))
                    case atStart => exact ⟨0, by omega, rfl, by omega, Below.refl _ _, by rw [orS_zero]; exact H5⟩
                    case round =>
                      obtain ⟨k, hgk, rfl, hk, hBx, hO⟩ := hrel
                      have HGK := Lib.hid hgk
                      clear hgk H5
                      have HOL : Hid ((orS out away k).length = n) := by show _ = _; rw [orS_len, HLO.out]
                      by_cases hlt : k < n
                      · obtain ⟨gq, cq, hvq, hgq, -⟩ := hO.row (by rw [HOL.out]; omega)
                        simp only [Value.slice.injEq] at hvq
                        obtain ⟨rfl, -, rfl⟩ := hvq
                        have gy := HGY.out
                        obtain rfl := gy.ad (by omega)
                        have c1 := hO.atD HOL.out.symm k (by rw [HOL.out]; exact hlt)
                        have f1 := hO.fz HOL.out.symm k
                        rw [orS_at _ _ _ (by rw [HLO.out]; exact hlt)] at c1
                        have c2 : wr.cell? ⟨by', offy + k, none⟩ = some (bvF away k) := by
                          exact cellB (HW93.out.trans hBx) (gy.el k hlt)
                        unfold bvF at c2
                        have HSS := Lib.hid (orS_succ out away k (by rw [HLO.out]; exact hlt))
                        have HOO : Hid (∀ b : Bool, OB (wr.setCell ⟨gq, k, none⟩ (.bool b)) w9.heap.size (.slice (some ⟨gq, 0, none⟩) n capq) ((orS out away k).set k b)) := fun b => hO.set HOL.out.symm k b
                        have HBB : Hid (∀ b : Bool, Below w9.heap.size W3 (wr.setCell ⟨gq, k, none⟩ (.bool b))) := fun b => hBx.setCell hgq _
                        clear hO hBx gy
                        generalize out.getD k false = x at *
                        generalize away.getD k false = y at *
                        cases x <;> cases y
                        all_goals
                          go_wp2
                          go_roundg (n - (k + 1))
                          case measure => have := HGK.out; omega
                          case rel => exact ⟨k + 1, rfl, by go_num, by omega, HBB.out _, by rw [HSS.out]; exact HOO.out _⟩
                      · obtain rfl : n = k := by omega
                        go_wp2
                        go_ret
                        refine ⟨_, rfl, ?_, hbW.bl.trans (hBx.mono ?_)⟩
                        · rw [HRZ.out]
                          have h1 := orS_all out away
                          rw [HLO.out] at h1
                          rw [← h1]
                          exact hO.base (by have := HLT9.out; omega)
                        · have := HLT9.out; omega

end Go.Proofs.Ytjhafakkadnfmaa
