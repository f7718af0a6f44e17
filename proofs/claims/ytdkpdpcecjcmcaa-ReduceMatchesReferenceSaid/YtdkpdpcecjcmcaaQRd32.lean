/- What the reference's Trim returns. -/
import Derived.Test.YtdkpdpcecjcmcaaQRd31
import Derived.Test.YtdkpdpcecjcmcaaQRd22
namespace Go.Proofs.Ytdkpdpcecjcmcaa
open Go.RowKit

/-- The places of the states: -1 for one that has not been met. -/
def placeL (N : Nat) (l : List Int) : List Int := (List.range N).map fun (y : Nat) => if (y : Int) ∈ l then (l.idxOf (y : Int) : Int) else -1
theorem placeL_len (N : Nat) (l : List Int) : (placeL N l).length = N := by simp [placeL]
theorem placeL_at {N y : Nat} {l : List Int} (hy : y < N) : (placeL N l).getD y 0 = if (y : Int) ∈ l then (l.idxOf (y : Int) : Int) else -1 := by
  rw [getD_lt _ _ _ (by rw [placeL_len]; exact hy)]; simp [placeL]
theorem placeL_put {N y : Nat} {l : List Int} (h : (y : Int) ∉ l) : (placeL N l).set y (l.length : Int) = placeL N (l ++ [(y : Int)]) := by
  apply List.ext_getElem (by simp [placeL])
  intro i h1 h2
  have hi : i < N := by simpa [placeL] using h2
  simp only [placeL, List.getElem_set, List.getElem_map, List.getElem_range]
  by_cases e : y = i
  · subst e
    rw [if_pos rfl, if_pos (by simp), idxI_new h]
  · rw [if_neg e]
    have e2 : ((i : Int) ∈ l ++ [(y : Int)]) ↔ (i : Int) ∈ l := by
      rw [List.mem_append, List.mem_singleton]
      constructor
      · rintro (k | k)
        · exact k
        · exact absurd (by omega) e
      · exact .inl
    by_cases hm : (i : Int) ∈ l
    · rw [if_pos hm, if_pos (e2.2 hm), idxI_pre hm]
    · rw [if_neg hm, if_neg fun k => hm (e2.1 k)]
theorem placeL_nil (N : Nat) : fillL (fun _ => (-1 : Int)) N N = placeL N [] := by
  rw [fillL_all]; simp [placeL]
theorem idxR_snoc (l row : List Int) (y : Int) : idxR l (row ++ [y]) = idxR l row ++ [(l.idxOf y : Int)] := by simp [idxR]

def R19_24 (C0 bw z bP oP gT n s N nl np x cP c5 cC cQ : Nat) (aC aQ : Option Addr) (row : List Int) (ix : Nat) (u : Value) (W : World) : Prop :=
  match ix with
  | 0 => u = .pointer (some ⟨z, 3, none⟩)
  | 1 => u = .slice aC np cC
  | 2 => ∃ b, u = .slice (some ⟨b, 0, none⟩) 0 0 ∧ W.heap[b]? = some (.cells #[] 3 (0, 0))
  | 3 => u = .pointer (some ⟨bw, 3, none⟩)
  | 4 => u = .slice (some ⟨bP, oP, none⟩) N cP
  | 5 => u = .slice (some ⟨gT, 0, none⟩) nl c5
  | 6 => u = .int .i64 (n : Int)
  | 7 => u = .pointer (some ⟨gT, n, none⟩)
  | 8 => u = .int .i64 (s : Int)
  | 9 => u = .pointer (some ⟨bP, oP + s, none⟩)
  | 10 => u = .slice aQ x cQ
  | 11 => FreshRow C0 row u W
  | 12 => FreshEl C0 row u W
  | 13 => True
  | 14 => u = .pointer (some ⟨z, 3, none⟩)
  | 15 => True
  | _ => True
theorem R19_24.mono (C0 bw z bP oP gT n s N nl np x cP c5 cC cQ : Nat) (aC aQ : Option Addr) (row : List Int) (i : Nat) (v : Value) (W W' : World) (h : R19_24 C0 bw z bP oP gT n s N nl np x cP c5 cC cQ aC aQ row i v W) (hb : Below W.heap.size W W') : R19_24 C0 bw z bP oP gT n s N nl np x cP c5 cC cQ aC aQ row i v W' := by
  match i, h with
  | 0, h => exact h
  | 1, h => exact h
  | 2, ⟨b, h1, h2⟩ => exact ⟨b, h1, (hb.block b (Array.getElem?_eq_some_iff.1 h2).1).trans h2⟩
  | 3, h => exact h
  | 4, h => exact h
  | 5, h => exact h
  | 6, h => exact h
  | 7, h => exact h
  | 8, h => exact h
  | 9, h => exact h
  | 10, h => exact h
  | 11, h => exact FreshRow.below h hb
  | 12, h => exact FreshEl.below h hb
  | 13, h => exact h
  | 14, h => exact h
  | 15, h => exact h
  | _ + 16, h => exact h

set_option maxRecDepth 100000 in
set_option maxHeartbeats 8000000 in
theorem RTrim_c (w : World) (v : Value) (a : Au) (ha : IsAuto w v a) : Calls Try.prog 19 #[v] w (NewAuto (trimF a) w) := by
  have HA := Lib.hid ha
  obtain ⟨vN, vP, rfl, hI, hN, hP⟩ := ha
  have hmx : Try.prog.follows .mixedOrders = true := by kernel_rfl
  cases hv : validA a with
  | false =>
    have hF := FA.start w #[.int .i64 a.letters, .int .i64 a.start, vN, vP]
    have HR : Hid (trimF a = noAu) := by show _ = _; simp [trimF, hv]
    have HV := Lib.hid (RPValid_c ((w.alloc (.cells #[.int .i64 a.letters, .int .i64 a.start, vN, vP] 24)).alloc (.cells #[.int .i64 0, .int .i64 0, .slice none 0 0, .slice none 0 0] 24)) _ a (HA.out.below hF.bl))
    obtain ⟨c0, c1, c2, c3⟩ := hF.cells
    clear hI hN hP
    go_enter Try.func19, Try.ntmps19
    go_upto_region 1 with (fail)
    generalize ((w.alloc (.cells #[.int .i64 a.letters, .int .i64 a.start, vN, vP] 24)).alloc (.cells #[.int .i64 0, .int .i64 0, .slice none 0 0, .slice none 0 0] 24)) = w2 at *
    go_wp2_with fail
    refine HV.out.mono ?_
    rintro e w3 ⟨rfl, hb3⟩
    rw [hv]
    have hF3 := hF.below hb3
    obtain ⟨⟨z0, z1, z2, z3⟩, y0, y1, y2, y3⟩ := hF3.zero
    clear hb3 hF c0 c1 c2 c3 HV
    go_wp2
    (have hc4 := four_set (a := Value.int .i64 0) (b := Value.int .i64 0) (c := Value.slice none 0 0) (d := Value.slice none 0 0) hF3.rc); (have c0 := cell_of_row _ _ 0 _ _ _ hc4); (have c1 := cell_of_row _ _ 1 _ _ _ hc4); (have c2 := cell_of_row _ _ 2 _ _ _ hc4); (have c3 := cell_of_row _ _ 3 _ _ _ hc4); (refine bodyPost_ret (v := .agg #[Value.int .i64 0, Value.int .i64 0, Value.slice none 0 0, Value.slice none 0 0]) (by simp [results, Try.results19, go_sem, c0, c1, c2, c3]) rfl ?_)
    rw [HR.out]
    exact hF3.fin (fun W _ => noAu_is W)
  | true =>
    have hF := FA.start w #[.int .i64 a.letters, .int .i64 a.start, vN, vP]
    have hA := AuV.of hv
    have HR : Hid (trimF a = trimA a) := by show _ = _; simp [trimF, hv]
    obtain ⟨k, hk⟩ : ∃ k, k = a.letters.toNat := ⟨_, rfl⟩
    rw [← hk] at hA
    have HX := Lib.hid hA
    have hk1 : 1 ≤ k ∧ k ≤ 64 := hA.k1
    have HLk := Lib.hid hA.L
    have hn0 : 0 < a.next.length := by have := hA.n1; omega
    have hn3 : a.next.length ≤ 3000 := hA.n1.2
    clear hk
    obtain ⟨aN, cN, bN, oN, V, hvN, hdN, hmN, hVN⟩ := hN.data
    obtain ⟨aP, cP, bP, oP, VP, hvP, hdP, hmP, hVP⟩ := hP.data
    have HVN := Lib.hid hVN
    have hpl := hA.pn
    rw [hpl] at hdP hvP hVP
    have HVP := Lib.hid hVP
    obtain rfl := hdN hn0
    obtain rfl := hdP hn0
    subst hvN hvP
    have HI := Lib.hid hI
    have HPL := Lib.hid hpl
    have HV := Lib.hid (RPValid_c ((w.alloc (.cells #[.int .i64 a.letters, .int .i64 a.start, .slice (some ⟨bN, oN, none⟩) a.next.length cN, .slice (some ⟨bP, oP, none⟩) a.next.length cP] 24)).alloc (.cells #[.int .i64 0, .int .i64 0, .slice none 0 0, .slice none 0 0] 24)) _ a (HA.out.below hF.bl))
    obtain ⟨c0, c1, c2, c3⟩ := hF.cells
    obtain ⟨st, hste⟩ : ∃ st : Nat, a.start = (st : Int) := ⟨a.start.toNat, by have := hA.st; omega⟩
    have hstn : st < a.next.length := by have := hA.st; omega
    have hst2 : (st : Int) < a.next.length := by omega
    have HST := Lib.hid hste
    clear hI hN hP hVN hdN hA hdP hVP hpl hmP hste
    go_enter Try.func19, Try.ntmps19
    go_upto_region 1 with (fail)
    generalize ((w.alloc (.cells #[.int .i64 a.letters, .int .i64 a.start, .slice (some ⟨bN, oN, none⟩) a.next.length cN, .slice (some ⟨bP, oP, none⟩) a.next.length cP] 24)).alloc (.cells #[.int .i64 0, .int .i64 0, .slice none 0 0, .slice none 0 0] 24)) = w2 at *
    go_wp2_with fail
    refine HV.out.mono ?_
    rintro e w3 ⟨rfl, hb3⟩
    rw [hv]
    have HF3 := Lib.hid (hF.below hb3)
    clear c0 c1 c2 c3 HV hb3 hF
    obtain ⟨c0, c1, c2, c3⟩ := HF3.out.cells
    rw [HST.out]
    rw [HST.out] at c1
    go_wp2_with (at_make; refine mk_int rfl _ _ _ Try.underlying29 rfl w3.heap.size _ a.next.length rfl rfl rfl (by omega) (Nat.le_refl _) ?_; intro w4 hown hg1; have HO4 := Lib.hid hown; have HB4 : Hid (Below w3.heap.size w3 w4) := below_of_grown hg1 (fun q e => (nomatch e)) (Nat.le_refl _); clear hown hg1)
    obtain ⟨B3, hB3⟩ : ∃ B3, B3 = w3.heap.size := ⟨_, rfl⟩
    have hr3 := HF3.out.lt
    rw [← hB3] at HO4 HB4 hr3
    rw [← hB3]
    have HB3 := Lib.hid hB3
    rw [fillL_zero (fun _ => (-1 : Int)) a.next.length] at HO4
    clear hB3 c0 c1 c2 c3
    go_loopg [4] a.next.length (fun gh i wx => ∃ (x : Nat), gh = a.next.length - x ∧ i = .int .i64 (x : Int) ∧ x ≤ a.next.length ∧ Hid (OI wx B3 (.slice (some ⟨B3, 0, none⟩) a.next.length a.next.length) (fillL (fun _ => (-1 : Int)) a.next.length x)) ∧ Hid (Below B3 w3 wx))
    case atStart => exact ⟨0, rfl, rfl, by omega, HO4, HB4⟩
    case round =>
      clear HO4 HB4
      obtain ⟨x, hgx, rfl, hxn, HOx, HBx⟩ := hrel
      have HGX := Lib.hid hgx
      clear hgx
      by_cases hx : x < a.next.length
      · as_aux_lemma =>
        have hx2 : (x : Int) < a.next.length := by omega
        have k1 := OI.at' HOx.out (by rw [fillL_len]) x (by rw [fillL_len]; exact hx)
        have ho := HOx.out
        unfold OI at ho
        rw [fillL_len] at ho
        have f1 : wr.frozen? ⟨B3, x, none⟩ = false := World.ownsRow.frozenAt ho x
        have HOn : Hid (OI (wr.setCell ⟨B3, x, none⟩ (.int .i64 (-1))) B3 (.slice (some ⟨B3, 0, none⟩) a.next.length a.next.length) (fillL (fun _ => (-1 : Int)) a.next.length (x + 1))) := by
          have h := OI.set HOx.out (by rw [fillL_len]) x (-1)
          rwa [fillL_set (fun _ => (-1 : Int))] at h
        have HBn : Hid (Below B3 w3 (wr.setCell ⟨B3, x, none⟩ (.int .i64 (-1)))) := HBx.out.trans ((Only.set (S := fun q => q = B3) _ _ _ rfl).below B3 (fun q e => by have : q = B3 := e; omega) (by have := HBx.out.size; have := HB3.out; omega))
        clear ho
        go_wp2
        go_roundg (a.next.length - (x + 1))
        case measure => have := HGX.out; omega
        case rel => exact ⟨x + 1, rfl, by go_num, by omega, HOn, HBn⟩
      · as_aux_lemma =>
        obtain rfl : x = a.next.length := by omega
        rw [placeL_nil] at HOx
        clear hx HGX
        have HFx := Lib.hid (HF3.out.belowB (by omega) HBx.out)
        obtain ⟨c0, c1, c2, c3⟩ := HFx.out.cells
        rw [HST.out] at c1
        have k1 := OI.at' HOx.out (by rw [placeL_len]) st (by rw [placeL_len]; exact hstn)
        have ho := HOx.out
        unfold OI at ho
        rw [placeL_len] at ho
        have f1 : wr.frozen? ⟨B3, st, none⟩ = false := World.ownsRow.frozenAt ho st
        clear ho
        have HOn : Hid (OI (wr.setCell ⟨B3, st, none⟩ (.int .i64 0)) B3 (.slice (some ⟨B3, 0, none⟩) a.next.length a.next.length) (placeL a.next.length [(st : Int)])) := by
          have h := OI.set HOx.out (by rw [placeL_len]) st 0
          rwa [show (0 : Int) = (([] : List Int).length : Int) from rfl, placeL_put (by simp)] at h
        have HBn : Hid (Below B3 w3 (wr.setCell ⟨B3, st, none⟩ (.int .i64 0))) := HBx.out.trans ((Only.set (S := fun q => q = B3) _ _ _ rfl).below B3 (fun q e => by have : q = B3 := e; omega) (by have := HBx.out.size; have := HB3.out; omega))
        have hsB : B3 < (wr.setCell ⟨B3, st, none⟩ (.int .i64 0)).heap.size := HOn.out.lt' B3 rfl
        go_upto_region 9 with (fail)
        generalize wr.setCell ⟨B3, st, none⟩ (.int .i64 0) = w6 at *
        clear k1 f1 HOx HBx HFx c0 c1 c2 c3
        have HF6 := Lib.hid (HF3.out.belowB (by omega) HBn.out)
        obtain ⟨c0, c1, c2, c3⟩ := HF6.out.cells
        rw [HST.out] at c1
        go_upto_region 10 with (fail)
        have hO7 : OI (w6.alloc (.cells #[.int .i64 (st : Int)] 3)) B3 (.slice (some ⟨w6.heap.size, 0, none⟩) 1 1) [(st : Int)] := by
          have h := World.ownsRow_lit (base := B3) (e := 3) (size := 1) w6 #[.int .i64 (st : Int)] 1 (Nat.le_of_lt hsB) (by simp [maxLen]) (by simp)
          unfold OI
          simpa using h
        have hb7 : Below w6.heap.size w6 (w6.alloc (.cells #[.int .i64 (st : Int)] 3)) := bel_box _
        have HP7 := Lib.hid (HOn.out.below hb7)
        have HO7 := Lib.hid hO7
        have HZ7 := Lib.hid (HBn.out.trans (hb7.mono (by omega)))
        have hs7 := hb7.size
        have hne7 : w6.heap.size ≠ B3 := by omega
        have HNe7 := Lib.hid hne7
        have hlt7 := hO7.lt' w6.heap.size rfl
        have k0 := cellB hb7 c0
        generalize w6.alloc (.cells #[.int .i64 (st : Int)] 3) = w7 at *
        clear c0 c1 c2 c3 hO7 hb7 HOn HBn HF6
        generalize w6.heap.size = ob at *
        go_upto_region 11 with (fail)
        have hAB := AB.start w7 a.letters 0
        have hb8 : Below w7.heap.size w7 (w7.alloc (.cells #[.int .i64 a.letters, .int .i64 0, .slice none 0 0, .slice none 0 0] 24)) := bel_box _
        have hB37 : B3 ≤ w7.heap.size := by omega
        have HAB := Lib.hid (hAB.more (X1 := fun q => q ≤ w.heap.size + 1 ∨ q = B3 ∨ (.slice (some ⟨ob, 0, none⟩) 1 1 : Value).ownBlock = some q) (fun q e => .inr ⟨by
          have h1 := hb8.size
          rcases e with e | e | e
          · omega
          · omega
          · have e : ob = q := Option.some.inj e
            omega, by
          rcases e with e | e | e
          · omega
          · omega
          · have e : ob = q := Option.some.inj e
            omega, fun e => (nomatch e), fun e => (nomatch e)⟩) rfl rfl)
        have HP8 := Lib.hid (HP7.out.below hb8)
        have HO8 := Lib.hid (HO7.out.below hb8)
        have HZ8 := Lib.hid (HZ7.out.trans (hb8.mono hB37))
        have HN8 : Hid ((.slice (some ⟨ob, 0, none⟩) 1 1 : Value).ownBlock ≠ some B3) := fun e => HNe7.out (Option.some.inj e)
        obtain ⟨z, hz⟩ : ∃ z, z = w7.heap.size := ⟨_, rfl⟩
        have hz7 : B3 < z := by omega
        rw [← hz] at HAB
        rw [← hz]
        generalize w7.alloc (.cells #[.int .i64 a.letters, .int .i64 0, .slice none 0 0, .slice none 0 0] 24) = w8 at *
        clear k0 hAB hb8 hB37 HP7 HO7 HZ7 hs7 hne7 HNe7 hlt7 hz hsB
        go_wp2
        go_loopg [5, 7] a.next.length (fun gh c5 c7 wx => ∃ (n : Nat) (l : List Int) (vN' vP' : Value) (nv pv : List Value) (nxs prs : List (List Int)), gh = a.next.length - n ∧ c7 = .int .i64 (n : Int) ∧ Hid (TrS a n l) ∧ Hid (nxs = nxsA a n l ∧ prs = prsA a n l) ∧ Hid (OI wx B3 (.slice (some ⟨B3, 0, none⟩) a.next.length a.next.length) (placeL a.next.length l)) ∧ Hid (OI wx B3 c5 l) ∧ Hid (c5.ownBlock ≠ some B3) ∧ Hid (AB wx z z a.letters 0 vN' vP' nv pv nxs prs (fun q => q ≤ w.heap.size + 1 ∨ q = B3 ∨ c5.ownBlock = some q)) ∧ Hid (Below B3 w3 wx))
        case atStart => exact ⟨0, [(st : Int)], _, _, [], [], [], [], rfl, rfl, by rw [← HST.out]; exact TrS.start HX.out, ⟨rfl, rfl⟩, HP8, HO8, HN8, HAB, HZ8⟩
        case round =>
          clear HAB HP8 HO8 HN8 HZ8
          obtain ⟨wo, rfl⟩ : ∃ wo : World, wo = wr := ⟨_, rfl⟩
          obtain ⟨n, l, vN', vP', nv, pv, nxs, prs, hgn, rfl, HTr, HNS, HPo, HOo, HNo, HABo, HBo⟩ := hrel
          have HGN := Lib.hid hgn
          clear hgn
          have hll := HTr.out.len
          have hnl := HTr.out.nl
          have hln : nxs.length = n := by rw [HNS.out.1, nxsA_len hnl]
          have hlp : prs.length = n := by rw [HNS.out.2, prsA_len hnl]
          have HLN := Lib.hid hln
          have HLP := Lib.hid hlp
          obtain ⟨aA, cA, hvN'⟩ := ownsRow_slice HABo.out.oN
          obtain ⟨aC, cC, hvP'⟩ := ownsRow_slice HABo.out.oP
          obtain ⟨aS, cS, hvs⟩ := HOo.out.slice
          have HFo := Lib.hid (HF3.out.belowB (by omega) HBo.out)
          have hzo := HABo.out.zlt
          have hBo : B3 < wo.heap.size := HPo.out.lt' B3 rfl
          clear hln hlp
          subst hvs
          by_cases hn : n < l.length
          · as_aux_lemma =>
            have hn2 : (n : Int) < l.length := by omega
            have hsr := HTr.out.at' hn
            obtain ⟨s, hs⟩ : ∃ s : Nat, l.getD n 0 = (s : Int) := ⟨(l.getD n 0).toNat, by omega⟩
            have hsn : s < a.next.length := by omega
            have HS := Lib.hid hs
            have HRow : Hid (rowN a (l.getD n 0) = a.next.getD s [] ∧ (a.next.getD s []).length = k) := ⟨by unfold rowN; rw [hs]; rfl, (HX.out.ln s hsn).1⟩
            have HRG : Hid (∀ y ∈ a.next.getD s [], 0 ≤ y ∧ y < a.next.length) := fun y hy => by
              have h1 := rowN_rg HX.out (s := l.getD n 0) (HTr.out.at' hn)
              rw [HRow.out.1] at h1
              exact h1.2 y hy
            obtain ⟨q1, q2⟩ := HVN.out s hsn
            obtain ⟨aR, cR, hVs⟩ := q2.shape
            rw [(HX.out.ln s hsn).1] at hVs
            rw [hVs] at q1 q2
            obtain ⟨bR, oR, had, -, hdt⟩ := q2.dat
            obtain rfl := had (by omega)
            have HDT : Hid (∀ x, x < k → w.cell? ⟨bR, oR + x, none⟩ = some (.int .i64 ((a.next.getD s []).getD x 0))) := hdt
            have HQ1 := Lib.hid q1
            clear hs hsr q2 had hdt q1 hVs
            have hC : Hid (∀ q, hotAB z vN' vP' (fun q => q ≤ w.heap.size + 1 ∨ q = B3 ∨ (.slice aS l.length cS : Value).ownBlock = some q) q → q < wo.heap.size) := HABo.out.hlt
            go_upto_region 15 with (fail)
            have HE0 : Hid (OI (wo.alloc (.cells #[] 3)) wo.heap.size (.slice (some ⟨wo.heap.size, 0, none⟩) 0 0) []) := OI_empty0 wo
            have hbe : Below wo.heap.size wo (wo.alloc (.cells #[] 3)) := bel_box _
            have HPe := Lib.hid (HPo.out.below hbe)
            have HOe := Lib.hid (HOo.out.below hbe)
            have HKe : Hid (Only (fun q => q = B3 ∨ (.slice aS l.length cS : Value).ownBlock = some q) wo (wo.alloc (.cells #[] 3))) := Only.of_below hbe
            have HMe : Hid (Moved wo (.slice aS l.length cS) (.slice aS l.length cS)) := Moved.refl _ _
            have HZe := Lib.hid (HBo.out.trans (hbe.mono (Nat.le_of_lt hBo)))
            have HLe : Hid (l = addR l ((a.next.getD s []).take 0)) := by show _ = _; simp [addR]
            have HAe : Hid (Apart (.slice aS l.length cS) (.slice (some ⟨wo.heap.size, 0, none⟩) 0 0)) := fun g h1 h2 => by
              have e : wo.heap.size = g := Option.some.inj h2
              have := HOo.out.lt' g h1
              omega
            obtain ⟨we, hwe⟩ : ∃ we, we = wo.alloc (.cells #[] 3) := ⟨_, rfl⟩
            rw [← hwe] at HE0 HPe HOe HKe HZe
            rw [← hwe]
            clear hwe hbe
            obtain ⟨C, hCe⟩ : ∃ C, C = wo.heap.size := ⟨_, rfl⟩
            rw [← hCe] at HE0 hC HAe
            rw [← hCe]
            have HCe := Lib.hid hCe
            have hzC : z < C := by omega
            have hBC : B3 < C := by omega
            clear hCe
            go_wp2
            go_loopg [5, 8, 9] k (fun gh c5 c8 c9 wx => ∃ (x : Nat) (l1 : List Int), gh = k - x ∧ c9 = .int .i64 (x : Int) ∧ x ≤ k ∧ Hid (l1 = addR l ((a.next.getD s []).take x)) ∧ Hid (OI wx B3 (.slice (some ⟨B3, 0, none⟩) a.next.length a.next.length) (placeL a.next.length l1)) ∧ Hid (OI wx B3 c5 l1) ∧ Hid (OI wx C c8 (idxR l1 ((a.next.getD s []).take x))) ∧
              Hid (c5.ownBlock ≠ some B3) ∧ Hid (Apart c5 c8) ∧ Hid (Only (fun q => q = B3 ∨ (.slice aS l.length cS : Value).ownBlock = some q) wo wx) ∧ Hid (Moved wo (.slice aS l.length cS) c5) ∧ Hid (Below B3 w3 wx))
            case atStart => exact ⟨0, l, rfl, rfl, by omega, HLe, HPe, HOe, HE0, HNo, HAe, HKe, HMe, HZe⟩
            case round =>
              clear HE0 HPe HOe HKe HMe HZe HLe HAe
              obtain ⟨x, l1, hgx, rfl, hxk, HLx, HPx, HOx, HRx, HNx, HAx, HKx, HMx, HZx⟩ := hrel
              have HGX := Lib.hid hgx
              clear hgx
              obtain ⟨a5, c5, hv5⟩ := HOx.out.slice
              obtain ⟨a8, c8, hv8⟩ := HRx.out.slice
              have hrl : (a.next.getD s []).length = k := HRow.out.2
              have HRL := Lib.hid hrl
              have hr8 : (idxR l1 ((a.next.getD s []).take x)).length = x := by unfold idxR; rw [List.length_map, List.length_take, hrl]; omega
              rw [hr8] at hv8
              have HR8 := Lib.hid hr8
              have hl1 : l1.length ≤ a.next.length := by
                rw [HLx.out]
                refine nd_int (addR_nd HTr.out.nd) fun y hy => ?_
                rcases addR_mem.1 hy with h | h
                · exact HTr.out.rg y h
                · exact HRG.out y (List.mem_of_mem_take h)
              have HPre : Hid (∃ e, l1 = l ++ e) := by show ∃ _, _; rw [HLx.out]; exact addR_pre _ _
              have hnl1 : n < l1.length := by obtain ⟨e, he⟩ := HPre.out; rw [he, List.length_append]; omega
              have hsw := HKx.out.size
              have HFx := Lib.hid (HF3.out.belowB (by omega) HZx.out)
              subst hv5 hv8
              clear hrl hr8
              by_cases hx : x < k
              · as_aux_lemma =>
                obtain ⟨g5, hg5⟩ := ownsRow_at HOx.out
                obtain rfl := hg5 (by omega)
                have l1c := OI.at' HOx.out rfl n hnl1
                have hgl : l1.getD n 0 = (s : Int) := by obtain ⟨e, he⟩ := HPre.out; rw [he, getD_pre hn]; exact HS.out
                rw [← getD_lt l1 0 n hnl1, hgl] at l1c
                obtain ⟨c0, -, c2, -⟩ := HFx.out.cells
                have q1 := cellB HFx.out.bl HQ1.out
                have r1 := cellB HFx.out.bl (HDT.out x hx)
                have hyr := HRG.out ((a.next.getD s []).getD x 0) (getD_mem (by have := HRL.out; omega))
                have HTk : Hid (addR l ((a.next.getD s []).take (x + 1)) = addI l1 ((a.next.getD s []).getD x 0)) := by
                  show _ = _
                  rw [addR_take (by have := HRL.out; omega), HLx.out]
                have HTk2 : Hid ((a.next.getD s []).take (x + 1) = (a.next.getD s []).take x ++ [(a.next.getD s []).getD x 0]) := take_getD (by have := HRL.out; omega)
                have HMem : Hid (∀ y ∈ (a.next.getD s []).take x, y ∈ l1) := fun y hy => by
                  rw [HLx.out]
                  exact addR_mem.2 (.inr hy)
                have hx2 : (x : Int) < a.letters := by have := HLk.out; omega
                have hx3 : (x : Int) < k := by omega
                have hn3 : (n : Int) < l1.length := by omega
                have hs2 : (s : Int) < a.next.length := by omega
                generalize (a.next.getD s []).getD x 0 = y0 at *
                obtain ⟨y, rfl⟩ : ∃ y : Nat, y0 = (y : Int) := ⟨y0.toNat, by omega⟩
                have hyn : y < a.next.length := by omega
                have hy2 : (y : Int) < a.next.length := by omega
                clear hg5 hgl hyr
                go_upto_region 18 with (fail)
                refine wp_region_quiet_lit (by kernel_rfl) (by kernel_rfl) ?_
                ((repeat (go_big_quiet_step (fail))); refine wpQuiet_nil ?_; rintro _ ⟨nq, rfl⟩)
                have HPd := Lib.hid (HPx.out.below (below_draws wr _ nq))
                have HOd := Lib.hid (HOx.out.below (below_draws wr _ nq))
                have HRd := Lib.hid (HRx.out.below (below_draws wr _ nq))
                have HKd : Hid (Only (fun q => q = B3 ∨ (.slice aS l.length cS : Value).ownBlock = some q) wo (wr.drewN nq)) := HKx.out.trans (Only.of_below (below_draws wr _ nq))
                have HZd := Lib.hid (HZx.out.trans ((below_draws wr _ nq).mono (Nat.le_of_lt (HPx.out.lt' B3 rfl))))
                have hwd : wr.heap.size ≤ (wr.drewN nq).heap.size := Nat.le_refl _
                clear c0 c2 q1 r1 l1c HPx HOx HRx HKx HZx
                generalize wr.drewN nq = wd at *
                have hPlt : B3 < wd.heap.size := HPd.out.lt' B3 rfl
                have hg5d : g5 < wd.heap.size := HOd.out.lt' g5 rfl
                by_cases hm : (y : Int) ∈ l1
                · as_aux_lemma =>
                  have HF : Hid (addI l1 (y : Int) = l1) := by show _ = _; unfold addI; rw [if_pos hm]
                  have k1 := OI.at' HPd.out (by rw [placeL_len]) y (by rw [placeL_len]; exact hyn)
                  have hpv : (placeL a.next.length l1)[y]'(by rw [placeL_len]; exact hyn) = (l1.idxOf (y : Int) : Int) := by
                    rw [← getD_lt _ 0 y (by rw [placeL_len]; exact hyn), placeL_at hyn, if_pos hm]
                  rw [hpv] at k1
                  have hd : decide ((l1.idxOf (y : Int) : Int) < 0) = false := decide_eq_false (by omega)
                  have hd2 : ¬ (l1.idxOf (y : Int) : Int) < 0 := by omega
                  have hi64 : I64 (l1.idxOf (y : Int) : Int) := by have := List.idxOf_le_length (a := (y : Int)) (l := l1); unfold I64; omega
                  have hRd := HRd.out
                  have hCw : C ≤ wd.heap.size := by have := HCe.out; omega
                  have HSn : Hid (idxR l1 ((a.next.getD s []).take x) ++ [(l1.idxOf (y : Int) : Int)] = idxR l1 ((a.next.getD s []).take (x + 1))) := by show _ = _; rw [HTk2.out, idxR_snoc]
                  have hxl : (idxR l1 ((a.next.getD s []).take x)).length < 17592186043904 := by have := HR8.out; omega
                  clear hpv hm
                  generalize (l1.idxOf (y : Int) : Int) = iy at *
                  go_wp2_with (at_builtin; refine app_int rfl _ _ iy rfl C _ _ hRd rfl _ (by simp) rfl hxl hCw ?_; intro v' w' hown' hg hmv; obtain ⟨ao', cap', hv'⟩ := hown'.slice; rw [List.length_append, List.length_singleton, HR8.out] at hv'; subst hv'; have HR' := Lib.hid hown'; have HG := Lib.hid hg; have HMV := Lib.hid hmv; clear hown' hg hmv hRd k1)
                  have HL1n : Hid (l1 = addR l ((a.next.getD s []).take (x + 1))) := by show _ = _; rw [HTk.out, HF.out]
                  have HRn : Hid (OI w' C (.slice ao' (x + 1) cap') (idxR l1 ((a.next.getD s []).take (x + 1)))) := by show OI _ _ _ _; rw [← HSn.out]; exact HR'.out
                  have HO1 : Hid (Only (fun q => (.slice a8 x c8 : Value).ownBlock = some q) wd w') := Only.of_grown HG.out
                  have HPn : Hid (OI w' B3 (.slice (some ⟨B3, 0, none⟩) a.next.length a.next.length) (placeL a.next.length l1)) := HPd.out.only HO1.out fun q e1 e2 => by
                    have e1 : B3 = q := Option.some.inj e1
                    have h1 := HRd.out.ge q e2
                    omega
                  have HOn : Hid (OI w' B3 (.slice (some ⟨g5, 0, none⟩) l1.length c5) l1) := HOd.out.only HO1.out fun q e1 e2 => HAx.out q e1 e2
                  have HAn : Hid (Apart (.slice (some ⟨g5, 0, none⟩) l1.length c5) (.slice ao' (x + 1) cap')) := HAx.out.moved HMV.out fun g e => HOd.out.lt' g e
                  have HKn : Hid (Only (fun q => q = B3 ∨ (.slice aS l.length cS : Value).ownBlock = some q) wo w') := HKd.out.chain HO1.out fun q hq e => by
                    have h1 := HRd.out.ge q e
                    have h2 := HCe.out
                    omega
                  have HZn : Hid (Below B3 w3 w') := HZd.out.trans (HO1.out.below B3 (fun q e => by have h1 := HRd.out.ge q e; omega) (Nat.le_of_lt hPlt))
                  go_roundg (k - (x + 1))
                  case measure => have := HGX.out; omega
                  case rel => exact ⟨x + 1, l1, rfl, by go_num, by omega, HL1n, HPn, HOn, HRn, HNx, HAn, HKn, HMx, HZn⟩
                · as_aux_lemma =>
                  have HF : Hid (addI l1 (y : Int) = l1 ++ [(y : Int)]) := by show _ = _; unfold addI; rw [if_neg hm]
                  have k1 := OI.at' HPd.out (by rw [placeL_len]) y (by rw [placeL_len]; exact hyn)
                  have hpv : (placeL a.next.length l1)[y]'(by rw [placeL_len]; exact hyn) = -1 := by
                    rw [← getD_lt _ 0 y (by rw [placeL_len]; exact hyn), placeL_at hyn, if_neg hm]
                  rw [hpv] at k1
                  have ho := HPd.out
                  unfold OI at ho
                  rw [placeL_len] at ho
                  have f1 : wd.frozen? ⟨B3, y, none⟩ = false := World.ownsRow.frozenAt ho y
                  have HP9 : Hid (OI (wd.setCell ⟨B3, y, none⟩ (.int .i64 (l1.length : Int))) B3 (.slice (some ⟨B3, 0, none⟩) a.next.length a.next.length) (placeL a.next.length (l1 ++ [(y : Int)]))) := by
                    have h := OI.set HPd.out (by rw [placeL_len]) y (l1.length : Int)
                    rwa [placeL_put hm] at h
                  have HS9 : Hid (Only (fun q => q = B3) wd (wd.setCell ⟨B3, y, none⟩ (.int .i64 (l1.length : Int)))) := Only.set _ _ _ rfl
                  have HO9 := Lib.hid (HOd.out.only HS9.out fun q e1 e2 => by
                    have e1 : g5 = q := Option.some.inj e1
                    have e2 : q = B3 := e2
                    exact HNx.out (by show some g5 = some B3; rw [e1, e2]))
                  have HR9 := Lib.hid (HRd.out.only HS9.out fun q e1 e2 => by
                    have h1 := HRd.out.ge q e1
                    have e2 : q = B3 := e2
                    omega)
                  have HI1 : Hid ((l1 ++ [(y : Int)]).idxOf (y : Int) = l1.length) := idxI_new hm
                  have HLL : Hid ((l1 ++ [(y : Int)]).length = l1.length + 1) := by show _ = _; simp
                  have hCw : C ≤ wd.heap.size := by have := HCe.out; omega
                  have HCo : Hid (idxR (l1 ++ [(y : Int)]) ((a.next.getD s []).take x) = idxR l1 ((a.next.getD s []).take x)) := idxR_pre HMem.out
                  have HSn : Hid (idxR l1 ((a.next.getD s []).take x) ++ [(l1.length : Int)] = idxR (l1 ++ [(y : Int)]) ((a.next.getD s []).take (x + 1))) := by
                    show _ = _
                    rw [HTk2.out, idxR_snoc, HCo.out, HI1.out]
                  have HK9 := Lib.hid (HKd.out.trans (HS9.out.mono fun q _ e => .inl e))
                  have HZ9 := Lib.hid (HZd.out.trans (HS9.out.below B3 (fun q e => by have e : q = B3 := e; omega) (Nat.le_of_lt hPlt)))
                  have hs9 := HS9.out.size
                  have hB9 : B3 ≤ (wd.setCell ⟨B3, y, none⟩ (.int .i64 (l1.length : Int))).heap.size := by omega
                  have hO9 := HO9.out
                  have hll1 : l1.length < 17592186043904 := by omega
                  have hm1 : ((-1 : Int)) < 0 := by decide
                  clear hpv hm ho
                  go_upto_region 21 with (fail)
                  obtain ⟨w9, hw9⟩ : ∃ w9, w9 = wd.setCell ⟨B3, y, none⟩ (.int .i64 (l1.length : Int)) := ⟨_, rfl⟩
                  rw [← hw9] at HP9 HS9 HO9 HR9 HK9 HZ9 hs9 hB9 hO9
                  rw [← hw9]
                  clear hw9 k1 f1
                  go_upto_region 22 with (at_builtin; refine app_int rfl _ _ (y : Int) rfl B3 _ _ hO9 rfl _ (by simp) rfl hll1 hB9 ?_; intro v' w' hown' hg hmv; obtain ⟨ao', cap', hv'⟩ := hown'.slice; rw [HLL.out] at hv'; subst hv'; have HO' := Lib.hid hown'; have HG := Lib.hid hg; have HMV := Lib.hid hmv; clear hown' hg hmv hO9)
                  have HO10 : Hid (Only (fun q => (.slice (some ⟨g5, 0, none⟩) l1.length c5 : Value).ownBlock = some q) w9 w') := Only.of_grown HG.out
                  have HP10 : Hid (OI w' B3 (.slice (some ⟨B3, 0, none⟩) a.next.length a.next.length) (placeL a.next.length (l1 ++ [(y : Int)]))) := HP9.out.only HO10.out fun q e1 e2 => by
                    have e1 : B3 = q := Option.some.inj e1
                    exact HNx.out (by rw [e2, e1])
                  have HR10 : Hid (OI w' C (.slice a8 x c8) (idxR l1 ((a.next.getD s []).take x))) := HR9.out.only HO10.out fun q e1 e2 => HAx.out q e2 e1
                  have k1 := OI.at' HP10.out (by rw [placeL_len]) y (by rw [placeL_len]; exact hyn)
                  have hpv : (placeL a.next.length (l1 ++ [(y : Int)]))[y]'(by rw [placeL_len]; exact hyn) = (l1.length : Int) := by
                    rw [← getD_lt _ 0 y (by rw [placeL_len]; exact hyn), placeL_at hyn, if_pos (by simp), HI1.out]
                  rw [hpv] at k1
                  have hR10 := HR10.out
                  have hs10 := HO10.out.size
                  have hC10 : C ≤ w'.heap.size := by omega
                  have hxl : (idxR l1 ((a.next.getD s []).take x)).length < 17592186043904 := by have := HR8.out; omega
                  have HA10 : Hid (Apart (.slice ao' (l1.length + 1) cap') (.slice a8 x c8)) := (HAx.out.symm.moved HMV.out fun g e => HR9.out.lt' g e).symm
                  clear hpv
                  go_wp2_with (at_builtin; refine app_int rfl _ _ (l1.length : Int) rfl C _ _ hR10 rfl _ (by simp) rfl hxl hC10 ?_; intro v2 w2' hown2 hg2 hmv2; obtain ⟨ao2, cap2, hv2⟩ := hown2.slice; rw [List.length_append, List.length_singleton, HR8.out] at hv2; subst hv2; have HR' := Lib.hid hown2; have HG2 := Lib.hid hg2; have HMV2 := Lib.hid hmv2; clear hown2 hg2 hmv2 hR10 k1)
                  have HO11 : Hid (Only (fun q => (.slice a8 x c8 : Value).ownBlock = some q) w' w2') := Only.of_grown HG2.out
                  have HL1n : Hid (l1 ++ [(y : Int)] = addR l ((a.next.getD s []).take (x + 1))) := by show _ = _; rw [HTk.out, HF.out]
                  have HRn : Hid (OI w2' C (.slice ao2 (x + 1) cap2) (idxR (l1 ++ [(y : Int)]) ((a.next.getD s []).take (x + 1)))) := by show OI _ _ _ _; rw [← HSn.out]; exact HR'.out
                  have HPn : Hid (OI w2' B3 (.slice (some ⟨B3, 0, none⟩) a.next.length a.next.length) (placeL a.next.length (l1 ++ [(y : Int)]))) := HP10.out.only HO11.out fun q e1 e2 => by
                    have e1 : B3 = q := Option.some.inj e1
                    have h1 := HR10.out.ge q e2
                    omega
                  have HOn : Hid (OI w2' B3 (.slice ao' (l1.length + 1) cap') (l1 ++ [(y : Int)])) := HO'.out.only HO11.out fun q e1 e2 => HA10.out q e1 e2
                  have HAn : Hid (Apart (.slice ao' (l1.length + 1) cap') (.slice ao2 (x + 1) cap2)) := HA10.out.moved HMV2.out fun g e => HO'.out.lt' g e
                  have HNn : Hid ((.slice ao' (l1.length + 1) cap' : Value).ownBlock ≠ some B3) := fun e => (HMV.out B3 e).elim (fun k => HNx.out k) fun k => by omega
                  have HMn : Hid (Moved wo (.slice aS l.length cS) (.slice ao' (l1.length + 1) cap')) := fun q e => (HMV.out q e).elim (fun k => HMx.out q k) fun k => .inr (by omega)
                  have HKn : Hid (Only (fun q => q = B3 ∨ (.slice aS l.length cS : Value).ownBlock = some q) wo w2') := (HK9.out.chain HO10.out fun q hq e => (HMx.out q e).elim .inr fun k => by omega).chain HO11.out fun q hq e => by
                    have h1 := HR10.out.ge q e
                    have h2 := HCe.out
                    omega
                  have HZn : Hid (Below B3 w3 w2') := (HZ9.out.trans (HO10.out.below B3 (fun q e => HOd.out.ge q e) (by omega))).trans (HO11.out.below B3 (fun q e => by have h1 := HR10.out.ge q e; omega) (by omega))
                  go_roundg (k - (x + 1))
                  case measure => have := HGX.out; omega
                  case rel => exact ⟨x + 1, l1 ++ [(y : Int)], rfl, by go_num, by omega, HL1n, HPn, HOn, HRn, HNn, HAn, HKn, HMn, HZn⟩
              · as_aux_lemma =>
                obtain rfl : x = k := by omega
                clear hx HGX
                have hx2 : ¬ (x : Int) < a.letters := by have := HLk.out; omega
                have hx3 : a.letters ≤ (x : Int) := by have := HLk.out; omega
                have c0 := HFx.out.cells.1
                have HTake : Hid ((a.next.getD s []).take x = rowN a (l.getD n 0)) := by show _ = _; rw [HRow.out.1]; exact List.take_of_length_le (Nat.le_of_eq HRL.out)
                have HL1 : Hid (l1 = addR l (rowN a (l.getD n 0))) := by show _ = _; rw [HLx.out, HTake.out]
                have HOy : Hid (OI wr C (.slice a8 x c8) (idxR l1 (rowN a (l.getD n 0)))) := by show OI _ _ _ _; rw [← HTake.out]; exact HRx.out
                have HABx : Hid (AB wr z z a.letters 0 vN' vP' nv pv nxs prs (fun q => q ≤ w.heap.size + 1 ∨ q = B3 ∨ (.slice a5 l1.length c5 : Value).ownBlock = some q)) := HABo.out.other (HKx.out.mono fun q _ e => .inr e) (fun q hq e => by
                  rcases e with e | e | e
                  · exact .inl e
                  · exact .inr (.inl e)
                  · exact (HMx.out q e).elim (fun k => .inr (.inr k)) fun k => by omega) fun q e => by
                    have h1 := HFx.out.lt
                    have h2 := HPx.out.lt' B3 rfl
                    rcases e with e | e | e
                    · omega
                    · omega
                    · exact HOx.out.lt' q e
                have HCh : Hid (∀ g, (.slice a8 x c8 : Value).ownBlock = some g → ¬ hotAB z vN' vP' (fun q => q ≤ w.heap.size + 1 ∨ q = B3 ∨ (.slice a5 l1.length c5 : Value).ownBlock = some q) g) := fun g hg => by
                  have h1 := HOy.out.ge g hg
                  rintro (e | e | e | e | e | e)
                  · omega
                  · have := hC.out g (.inr (.inl e)); omega
                  · have := hC.out g (.inr (.inr (.inl e))); omega
                  · omega
                  · omega
                  · exact HAx.out g e hg
                have HI1 : Hid (∀ y ∈ idxR l1 (rowN a (l.getD n 0)), I64 y) := fun y hy => by
                  obtain ⟨u, hu, rfl⟩ := List.mem_map.1 hy
                  have h1 := List.idxOf_le_length (a := u) (l := l1)
                  unfold I64; omega
                have HRk : Hid ((idxR l1 (rowN a (l.getD n 0))).length = x) := by show _ = _; unfold idxR; rw [List.length_map, HRow.out.1]; exact HRL.out
                have HU := Lib.hid (HABx.out.fresh HOy.out HCh.out (by rw [HRk.out]; omega) HI1.out)
                subst hvN'
                have n2 : wr.cell? ⟨z, 2, none⟩ = some (.slice aA nxs.length cA) := cell_of_row _ _ 2 _ _ _ HABx.out.box
                have hzz := HABx.out.zlt
                have hoN := HABx.out.oN
                have hpl : nxs.length < 5864062014000 := by have := HLN.out; omega
                clear HABo HOy HRx HLx
                go_wp2_with (at_builtin; refine app_row rfl _ _ (.slice a8 x c8) rfl z _ _ _ hoN rfl _ (by simp) rfl rfl hpl (Nat.le_of_lt hzz) ?_; intro v' w' hown' hg hmv; obtain ⟨ao', cap', hv'⟩ := ownsRow_slice hown'; subst hv'; have HST := Lib.hid (HABx.out.appN HU.out hown' hg hmv); have k2 := cell_of_row _ _ 2 _ _ _ HST.out.1; have f2 := frozen_of_row _ _ 2 _ _ HST.out.1; clear hown' hg hmv)
                have HABy := Lib.hid HST.out.2.1
                have HOz := Lib.hid HST.out.2.2.1
                have HBy := Lib.hid (HZx.out.trans (HST.out.2.2.2.mono (by omega)))
                have HHot : Hid (∀ q, (q = z ∨ (.slice aA nxs.length cA : Value).ownBlock = some q) → q ≠ B3 ∧ (.slice a5 l1.length c5 : Value).ownBlock ≠ some q) := fun q e => by
                  have hx := HABx.out.xz
                  rcases e with e | e
                  · exact ⟨by omega, fun e2 => (hx q (.inr (.inr e2))).2.1 e⟩
                  · have h1 := (HABx.out.Nlt q e).1
                    exact ⟨by omega, fun e2 => (hx q (.inr (.inr e2))).2.2.1 e⟩
                have HPy := Lib.hid (HPx.out.only HOz.out fun q e1 e2 => by have e1 : B3 = q := Option.some.inj e1; exact (HHot.out q e2).1 e1.symm)
                have HOy := Lib.hid (HOx.out.only HOz.out fun q e1 e2 => (HHot.out q e2).2 e1)
                clear k2 f2 HST hoN n2 hpl HABx c0
                go_upto_region 24 with (fail)
                obtain ⟨w9, hw9⟩ : ∃ w9, w9 = w'.setCell ⟨z, 2, none⟩ (.slice ao' (nxs.length + 1) cap') := ⟨_, rfl⟩
                rw [← hw9] at HABy HBy HPy HOy
                rw [← hw9]
                clear hw9
                have HFy := Lib.hid (HF3.out.belowB (by omega) HBy.out)
                obtain ⟨p1, p2⟩ := HVP.out s hsn
                obtain ⟨aQ, cQ, hVq⟩ := p2.shape
                rw [(HX.out.ln s hsn).2] at hVq
                rw [hVq] at p1 p2
                have HIP : Hid (∀ W, Below w9.heap.size w9 W → IsInts W (.slice aQ x cQ) (a.prio.getD s [])) := fun W hW => p2.below (HFy.out.bl.trans (hW.mono HFy.out.bl.size))
                have hpc := cellB HFy.out.bl p1
                have hwp := (HFy.out.cells).2.2.2
                subst hvP'
                have hz3 : w9.cell? ⟨z, 3, none⟩ = some (.slice aC prs.length cC) := cell_of_row _ _ 3 _ _ _ HABy.out.box
                obtain ⟨gT, hgT⟩ := ownsRow_at HOy.out
                obtain rfl := hgT (by omega)
                have hlt := OI.at' HOy.out rfl n hnl1
                have hgl : l1.getD n 0 = (s : Int) := by obtain ⟨e, he⟩ := HPre.out; rw [he, getD_pre hn]; exact HS.out
                rw [← getD_lt l1 0 n hnl1, hgl] at hlt
                have hn3 : (n : Int) < l1.length := by omega
                have hs2 : (s : Int) < a.next.length := by omega
                have HPR : Hid ((a.prio.getD s []).length ≤ 100000 ∧ ∀ y ∈ a.prio.getD s [], I64 y) := ⟨by have := (HX.out.ln s hsn).2; omega, fun y hy => by
                  obtain ⟨j, hj, rfl⟩ := mem_getD hy
                  have := HX.out.pr s j hsn (by have := (HX.out.ln s hsn).2; omega)
                  unfold I64; omega⟩
                have HPp : Hid (0 < (a.prio.getD s []).length ∧ (a.prio.getD s []).length ≤ 1000000) := by have := (HX.out.ln s hsn).2; exact ⟨by omega, by omega⟩
                have hPrl := (HX.out.ln s hsn).2
                have HPrl := Lib.hid hPrl
                have hzw : z < w9.heap.size := HABy.out.zlt
                have hprl : prs.length < 5864062014000 := by have := HLP.out; omega
                have HABz : Hid (AB w9.drew z z a.letters 0 (.slice ao' (nxs.length + 1) cap') (.slice aC prs.length cC) (nv ++ [.slice a8 x c8]) pv (nxs ++ [idxR l1 (rowN a (l.getD n 0))]) prs (fun q => q ≤ w.heap.size + 1 ∨ q = B3 ∨ (.slice (some ⟨gT, 0, none⟩) l1.length c5 : Value).ownBlock = some q)) := HABy.out.below (Below.drew (Below.refl _ _))
                clear p1 p2 hVq hgT hgl HABy hx2 hx3 hPrl
                refine region_grow4 hmx (R19_24 w9.heap.size w.heap.size z bP oP gT n s a.next.length l1.length prs.length x cP c5 cC cQ aC aQ (a.prio.getD s [])) (AppRow w9.heap.size z (a.prio.getD s []) (.slice aC prs.length cC) prs.length pv) (fun v' _ W' => ∃ y : Value, Hid (AB W' z z a.letters 0 (.slice ao' (nxs.length + 1) cap') v' (nv ++ [.slice a8 x c8]) (pv ++ [y]) (nxs ++ [idxR l1 (rowN a (l.getD n 0))]) (prs ++ [a.prio.getD s []]) (fun q => q ≤ w.heap.size + 1 ∨ q = B3 ∨ (.slice (some ⟨gT, 0, none⟩) l1.length c5 : Value).ownBlock = some q)) ∧ Hid (Only (fun q => q = z ∨ (Value.slice aC prs.length cC).ownBlock = some q) w9.drew W') ∧ Hid (Below z w9.drew W') ∧ ∃ ay cy, v' = .slice ay (prs.length + 1) cy) (fun i => i == 14) 13 15 (fun vs => { tmps := (_ :: _ :: _ :: _ :: _ :: _ :: _ :: _ :: _ :: _ :: _ :: _ :: _ :: _ :: _ :: _ :: _ :: _ :: _ :: _ :: _ :: _ :: _ :: _ :: _ :: _ :: _ :: _ :: _ :: _ :: _ :: _ :: _ :: _ :: _ :: _ :: _ :: _ :: _ :: _ :: _ :: _ :: _ :: _ :: _ :: _ :: _ :: _ :: _ :: _ :: _ :: _ :: _ :: _ :: _ :: _ :: _ :: _ :: _ :: _ :: _ :: _ :: _ :: _ :: _ :: _ :: _ :: _ :: _ :: _ :: _ :: _ :: _ :: _ :: _ :: _ :: _ :: _ :: _ :: _ :: _ :: _ :: _ :: _ :: _ :: _ :: _ :: _ :: _ :: vs 0 :: vs 1 :: vs 2 :: vs 3 :: vs 4 :: vs 5 :: vs 6 :: vs 7 :: vs 8 :: vs 9 :: vs 10 :: vs 11 :: vs 12 :: vs 13 :: vs 14 :: _ :: []).toArray, defers := _ }) (fun n => [u89, u90, u91, u92, u93, u94, u95, u96, u97, u98, u99, u100, u101, u102, u103, undef].getD n undef) rfl (by kernel_rfl) (R19_24.mono w9.heap.size w.heap.size z bP oP gT n s a.next.length l1.length prs.length x cP c5 cC cQ aC aQ (a.prio.getD s [])) ?step ?free ?app ?last ?fin
                case step =>
                  intro ix o hp hm2 hf ho
                  match ix, hp, hm2, hf, ho with
                  | 0, _, _, _, ho =>
                      obtain rfl := Option.some.inj ho
                      intro vs W K hU hB hD hK
                      have HK := Lib.hid hK
                      clear hK hD hU ho
                      dsimp only
                      go_simp
                      have h := HK.out _ _ (Below.refl _ _) rfl
                      simp only [upd, Nat.reduceEqDiff, reduceIte] at h
                      exact h
                  | 1, _, _, _, ho =>
                      obtain rfl := Option.some.inj ho
                      intro vs W K hU hB hD hK
                      have HK := Lib.hid hK
                      have e0 : vs 0 = .pointer (some ⟨z, 3, none⟩) := hD 0 (by rfl)
                      have c := cellB hB hz3
                      clear hK hD hU ho
                      dsimp only
                      go_simp
                      have h := HK.out _ _ (Below.refl _ _) rfl
                      simp only [upd, Nat.reduceEqDiff, reduceIte, e0] at h
                      exact h
                  | 2, _, _, _, ho =>
                      obtain rfl := Option.some.inj ho
                      intro vs W K hU hB hD hK
                      have HK := Lib.hid hK
                      clear hK hD hU ho
                      dsimp only
                      go_simp
                      have h := HK.out (.slice (some ⟨W.heap.size, 0, none⟩) 0 0) _ (bel_box (.cells #[] 3)) ⟨_, rfl, heap_alloc_new _ _⟩
                      simp only [upd, Nat.reduceEqDiff, reduceIte] at h
                      exact h
                  | 3, _, _, _, ho =>
                      obtain rfl := Option.some.inj ho
                      intro vs W K hU hB hD hK
                      have HK := Lib.hid hK
                      clear hK hD hU ho
                      dsimp only
                      go_simp
                      have h := HK.out _ _ (Below.refl _ _) rfl
                      simp only [upd, Nat.reduceEqDiff, reduceIte] at h
                      exact h
                  | 4, _, _, _, ho =>
                      obtain rfl := Option.some.inj ho
                      intro vs W K hU hB hD hK
                      have HK := Lib.hid hK
                      have e3 : vs 3 = .pointer (some ⟨w.heap.size, 3, none⟩) := hD 3 (by rfl)
                      have c := cellB hB hwp
                      clear hK hD hU ho
                      dsimp only
                      go_simp
                      have h := HK.out _ _ (Below.refl _ _) rfl
                      simp only [upd, Nat.reduceEqDiff, reduceIte, e3] at h
                      exact h
                  | 5, _, _, _, ho =>
                      obtain rfl := Option.some.inj ho
                      intro vs W K hU hB hD hK
                      have HK := Lib.hid hK
                      clear hK hD hU ho
                      dsimp only
                      go_simp
                      have h := HK.out _ _ (Below.refl _ _) rfl
                      simp only [upd, Nat.reduceEqDiff, reduceIte] at h
                      exact h
                  | 6, _, _, _, ho =>
                      obtain rfl := Option.some.inj ho
                      intro vs W K hU hB hD hK
                      have HK := Lib.hid hK
                      clear hK hD hU ho
                      dsimp only
                      go_simp
                      have h := HK.out _ _ (Below.refl _ _) rfl
                      simp only [upd, Nat.reduceEqDiff, reduceIte] at h
                      exact h
                  | 7, _, _, _, ho =>
                      obtain rfl := Option.some.inj ho
                      intro vs W K hU hB hD hK
                      have HK := Lib.hid hK
                      have e5 : vs 5 = .slice (some ⟨gT, 0, none⟩) l1.length c5 := hD 5 (by rfl)
                      have e6 : vs 6 = .int .i64 (n : Int) := hD 6 (by rfl)
                      clear hK hD hU ho
                      dsimp only
                      go_simp
                      have h := HK.out _ _ (Below.refl _ _) rfl
                      simp only [upd, Nat.reduceEqDiff, reduceIte, e5, e6] at h
                      exact h
                  | 8, _, _, _, ho =>
                      obtain rfl := Option.some.inj ho
                      intro vs W K hU hB hD hK
                      have HK := Lib.hid hK
                      have e7 : vs 7 = .pointer (some ⟨gT, n, none⟩) := hD 7 (by rfl)
                      have c := cellB hB hlt
                      clear hK hD hU ho
                      dsimp only
                      go_simp
                      have h := HK.out _ _ (Below.refl _ _) rfl
                      simp only [upd, Nat.reduceEqDiff, reduceIte, e7] at h
                      exact h
                  | 9, _, _, _, ho =>
                      obtain rfl := Option.some.inj ho
                      intro vs W K hU hB hD hK
                      have HK := Lib.hid hK
                      have e4 : vs 4 = .slice (some ⟨bP, oP, none⟩) a.next.length cP := hD 4 (by rfl)
                      have e8 : vs 8 = .int .i64 (s : Int) := hD 8 (by rfl)
                      clear hK hD hU ho
                      dsimp only
                      go_simp
                      have h := HK.out _ _ (Below.refl _ _) rfl
                      simp only [upd, Nat.reduceEqDiff, reduceIte, e4, e8] at h
                      exact h
                  | 10, _, _, _, ho =>
                      obtain rfl := Option.some.inj ho
                      intro vs W K hU hB hD hK
                      have HK := Lib.hid hK
                      have e9 : vs 9 = .pointer (some ⟨bP, oP + s, none⟩) := hD 9 (by rfl)
                      have c := cellB hB hpc
                      clear hK hD hU ho
                      dsimp only
                      go_simp
                      have h := HK.out _ _ (Below.refl _ _) rfl
                      simp only [upd, Nat.reduceEqDiff, reduceIte, e9] at h
                      exact h
                  | 11, _, _, _, ho =>
                      obtain rfl := Option.some.inj ho
                      intro vs W K hU hB hD hK
                      have HK := Lib.hid hK
                      have e10 : vs 10 = .slice aQ x cQ := hD 10 (by rfl)
                      obtain ⟨b, eb, hb⟩ : ∃ b, vs 2 = .slice (some ⟨b, 0, none⟩) 0 0 ∧ W.heap[b]? = some (.cells #[] 3 (0, 0)) := hD 2 (by rfl)
                      rw [if_pos (by rfl)]
                      refine wp_app_emptyI W _ _ (by rfl) b (by show vs 2 = _; exact eb) hb _ (a.prio.getD s []) (by show vs 10 = _; exact e10) (HIP.out W ((Below.drew (Below.refl _ _)).trans hB)) (HPp.out.1) (HPp.out.2) ?_
                      intro v9 W' hO hb9
                      exact hK v9 W' hb9 ⟨hO.slice, hO.base hB.size⟩
                  | 12, _, _, _, ho =>
                      obtain rfl := Option.some.inj ho
                      intro vs W K hU hB hD hK
                      have HK := Lib.hid hK
                      have HM : Hid (FreshRow w9.heap.size (a.prio.getD s []) (vs 11) W) := hD 11 (by rfl)
                      have h1 : (vs 11).oneCell' = true := by obtain ⟨⟨a1, c1, e⟩, -⟩ := HM.out; rw [e]; rfl
                      clear hK hD hU ho
                      dsimp only
                      obtain ⟨⟨a1, c1, ey⟩, -⟩ := HM.out
                      go_simp
                      have h := HK.out _ _ (bel_box (.cells #[vs 11] 29)) (FreshEl.made HM.out)
                      simp only [upd, Nat.reduceEqDiff, reduceIte, ey] at h
                      exact h
                  | 13, hp, _, _, _ => exact absurd rfl hp
                  | 14, _, _, hf, _ => exact absurd hf (by decide)
                  | 15, _, hm2, _, _ => exact absurd rfl hm2
                  | q + 16, _, _, _, ho => exact absurd ho (by simp)
                case free =>
                  intro ix o hf ho
                  match ix, hf, ho with
                  | 0, hf, _ => exact absurd hf (by decide)
                  | 1, hf, _ => exact absurd hf (by decide)
                  | 2, hf, _ => exact absurd hf (by decide)
                  | 3, hf, _ => exact absurd hf (by decide)
                  | 4, hf, _ => exact absurd hf (by decide)
                  | 5, hf, _ => exact absurd hf (by decide)
                  | 6, hf, _ => exact absurd hf (by decide)
                  | 7, hf, _ => exact absurd hf (by decide)
                  | 8, hf, _ => exact absurd hf (by decide)
                  | 9, hf, _ => exact absurd hf (by decide)
                  | 10, hf, _ => exact absurd hf (by decide)
                  | 11, hf, _ => exact absurd hf (by decide)
                  | 12, hf, _ => exact absurd hf (by decide)
                  | 13, hf, _ => exact absurd hf (by decide)
                  | 14, _, ho =>
                      obtain rfl := Option.some.inj ho
                      intro vs W K hU hD hK
                      have HK := Lib.hid hK
                      clear hK hD hU ho
                      dsimp only
                      go_simp
                      have h := HK.out _ (fun _ => rfl)
                      simp only [upd, Nat.reduceEqDiff, reduceIte] at h
                      exact h
                  | 15, hf, _ => exact absurd hf (by decide)
                  | q + 16, _, ho => exact absurd ho (by simp)
                case app =>
                  intro o ho
                  obtain rfl := Option.some.inj ho
                  intro vs W K hU hB hD hK
                  have e1 : vs 1 = .slice aC prs.length cC := hD 1 (by rfl)
                  have hel : FreshEl w9.heap.size (a.prio.getD s []) (vs 12) W := hD 12 (by rfl)
                  rw [if_pos (by rfl)]
                  exact wp_app_rowU W _ _ (by rfl) z (.slice aC prs.length cC) prs.length pv (by show vs 1 = _; exact e1) (ownsRow_only HABz.out.oP (S := fun _ => False) (Only.of_below hB) fun _ _ e => e) _ rfl hel hprl (Nat.le_trans (Nat.le_of_lt hzw) hB.size) fun v' w' hA => hK v' w' hA
                case last =>
                  intro o ho
                  obtain rfl := Option.some.inj ho
                  intro vs W9 W K hU hB hR hA hK
                  have HK := Lib.hid hK
                  have e14 : vs 14 = .pointer (some ⟨z, 3, none⟩) := hR 14 (by omega) (by omega)
                  obtain ⟨y, hy, hown, hg, hm⟩ := hA
                  obtain ⟨ay, cy, hvy⟩ := ownsRow_slice hown
                  have hAB9 := HABz.out.below hB
                  have hST := hAB9.appP (hAB9.fresh hy.2 (fun q e k => by have h1 := hy.2.ge q e; have h2 := HABz.out.hlt q k; exact Nat.lt_irrefl _ (Nat.lt_of_lt_of_le h2 h1)) HPR.out.1 HPR.out.2) hown hg hm
                  have k2 := cell_of_row _ _ 3 _ _ _ hST.1
                  have f2 := frozen_of_row _ _ 3 _ _ hST.1
                  have HFIN : Hid ((fun v' _ W' => ∃ y : Value, Hid (AB W' z z a.letters 0 (.slice ao' (nxs.length + 1) cap') v' (nv ++ [.slice a8 x c8]) (pv ++ [y]) (nxs ++ [idxR l1 (rowN a (l.getD n 0))]) (prs ++ [a.prio.getD s []]) (fun q => q ≤ w.heap.size + 1 ∨ q = B3 ∨ (.slice (some ⟨gT, 0, none⟩) l1.length c5 : Value).ownBlock = some q)) ∧ Hid (Only (fun q => q = z ∨ (Value.slice aC prs.length cC).ownBlock = some q) w9.drew W') ∧ Hid (Below z w9.drew W') ∧ ∃ ay cy, v' = .slice ay (prs.length + 1) cy) (vs 13) undef (W.setCell ⟨z, 3, none⟩ (vs 13))) := ⟨y, hST.2.1, (Only.of_below hB).trans hST.2.2.1, (hB.mono (Nat.le_of_lt hzw)).trans hST.2.2.2, ay, cy, hvy⟩
                  clear hST hAB9 hg hm hown hy
                  clear hK hR hU ho
                  dsimp only
                  go_simp
                  have h := HK.out undef _ HFIN.out
                  simp only [upd, Nat.reduceEqDiff, reduceIte, e14, hvy] at h
                  exact h
                case fin =>
                  intro vs W hR hF
                  obtain ⟨yv, HABn, HOn, HBn, ay, cy, hvy⟩ := hF
                  clear hR
                  generalize vs 0 = q24_0 at *
                  generalize vs 1 = q24_1 at *
                  generalize vs 2 = q24_2 at *
                  generalize vs 3 = q24_3 at *
                  generalize vs 4 = q24_4 at *
                  generalize vs 5 = q24_5 at *
                  generalize vs 6 = q24_6 at *
                  generalize vs 7 = q24_7 at *
                  generalize vs 8 = q24_8 at *
                  generalize vs 9 = q24_9 at *
                  generalize vs 10 = q24_10 at *
                  generalize vs 11 = q24_11 at *
                  generalize vs 12 = q24_12 at *
                  generalize vs 13 = q24_13 at *
                  generalize vs 14 = q24_14 at *
                  clear vs
                  have HHot2 : Hid (∀ q, (q = z ∨ (.slice aC prs.length cC : Value).ownBlock = some q) → q ≠ B3 ∧ (.slice (some ⟨gT, 0, none⟩) l1.length c5 : Value).ownBlock ≠ some q) := fun q e => by
                    have hx := HABz.out.xz
                    rcases e with e | e
                    · exact ⟨by omega, fun e2 => (hx q (.inr (.inr e2))).2.1 e⟩
                    · have h1 := (HABz.out.Plt q e).1
                      exact ⟨by omega, fun e2 => (hx q (.inr (.inr e2))).2.2.2 e⟩
                  have HPn := Lib.hid ((HPy.out.below (Below.drew (Below.refl _ _))).only HOn.out fun q e1 e2 => by have e1 : B3 = q := Option.some.inj e1; exact (HHot2.out q e2).1 e1.symm)
                  have HOn2 := Lib.hid ((HOy.out.below (Below.drew (Below.refl _ _))).only HOn.out fun q e1 e2 => (HHot2.out q e2).2 e1)
                  have HTr2 : Hid (TrS a (n + 1) l1) := by show TrS _ _ _; rw [HL1.out]; exact HTr.out.next HX.out hn
                  have HNS2 : Hid (nxs ++ [idxR l1 (rowN a (l.getD n 0))] = nxsA a (n + 1) l1 ∧ prs ++ [a.prio.getD s []] = prsA a (n + 1) l1) := by
                    refine ⟨?_, ?_⟩
                    · rw [HNS.out.1, HL1.out, nxsA_next HTr.out hn]
                    · rw [HNS.out.2, HL1.out, prsA_next hn]
                      unfold rowP
                      rw [HS.out]; rfl
                  have HBn2 := Lib.hid (HBy.out.trans ((Below.drew (Below.refl _ _)).trans (HBn.out.mono (by omega))))
                  go_wp2
                  go_roundg (a.next.length - (n + 1))
                  case measure => have := HGN.out; omega
                  case rel => exact ⟨n + 1, l1, _, _, _, _, _, _, rfl, by go_num, HTr2, HNS2, HPn, HOn2, HNx, HABn, HBn2⟩
          · as_aux_lemma =>
            obtain rfl : n = l.length := by omega
            have hT : Hid (trimA a = ⟨a.letters, 0, nxs, prs⟩) := by show _ = _; rw [trimA_of HTr.out, HNS.out.1, HNS.out.2]
            subst hvN' hvP'
            have n0 : wo.cell? ⟨z, 0, none⟩ = some (.int .i64 a.letters) := cell_of_row _ _ 0 _ _ _ HABo.out.box
            have n1 : wo.cell? ⟨z, 1, none⟩ = some (.int .i64 0) := cell_of_row _ _ 1 _ _ _ HABo.out.box
            have n2 : wo.cell? ⟨z, 2, none⟩ = some (.slice aA nxs.length cA) := cell_of_row _ _ 2 _ _ _ HABo.out.box
            have n3 : wo.cell? ⟨z, 3, none⟩ = some (.slice aC prs.length cC) := cell_of_row _ _ 3 _ _ _ HABo.out.box
            obtain ⟨⟨z0, z1, z2, z3⟩, y0, y1, y2, y3⟩ := HFo.out.zero
            have HABf : Hid (AB wo z z a.letters 0 (.slice aA nxs.length cA) (.slice aC prs.length cC) nv pv nxs prs (fun q => q ≤ w.heap.size + 1)) := HABo.out.other (Only.refl _ _) (fun q _ e => .inl e) fun q e => by have := HFo.out.lt; omega
            go_wp2
            (have hc4 := four_set (a := Value.int .i64 a.letters) (b := Value.int .i64 0) (c := Value.slice aA nxs.length cA) (d := Value.slice aC prs.length cC) HFo.out.rc); (have c0 := cell_of_row _ _ 0 _ _ _ hc4); (have c1 := cell_of_row _ _ 1 _ _ _ hc4); (have c2 := cell_of_row _ _ 2 _ _ _ hc4); (have c3 := cell_of_row _ _ 3 _ _ _ hc4); (refine bodyPost_ret (v := .agg #[Value.int .i64 a.letters, Value.int .i64 0, Value.slice aA nxs.length cA, Value.slice aC prs.length cC]) (by simp [results, Try.results19, go_sem, c0, c1, c2, c3]) rfl ?_)
            rw [HR.out, hT.out]
            exact HABf.out.fin HFo.out ⟨HI.out.1, by unfold I64; omega⟩ (by have := HLN.out; omega) (by have := HLP.out; omega)

end Go.Proofs.Ytdkpdpcecjcmcaa
