/- What leasts computes: the least priorities of all moves. -/
import Derived.Test.YtdkpdpcecjcmcaaQRd16b
namespace Go.Proofs.Ytdkpdpcecjcmcaa
open Go.RowKit

/-- The old priority of a move. -/
def prA (a : Au) (m : Mv) : Int := (a.prio.getD m.1 []).getD m.2 0
/-- What is asked of the automaton here. -/
structure AX (k : Nat) (a : Au) : Prop where
  nx : NX a.next.length k a.next
  lp : a.prio.length = a.next.length
  lr : ∀ j, j < a.next.length → (a.prio.getD j []).length = k
  rg : ∀ j, j < a.next.length → ∀ x ∈ a.prio.getD j [], 0 ≤ x ∧ x ≤ 20000
  n0 : 0 < a.next.length
  k0 : 0 < k
  n2 : a.next.length ≤ 2000
theorem AX.pr {k : Nat} {a : Au} (h : AX k a) {m : Mv} (h1 : m.1 < a.next.length) (h2 : m.2 < k) : 0 ≤ prA a m ∧ prA a m ≤ 20000 := by
  have hl := h.lr m.1 h1
  have hlt : m.2 < (a.prio.getD m.1 []).length := by omega
  refine h.rg m.1 h1 _ ?_
  unfold prA
  rw [getD_lt _ _ _ hlt]
  exact List.getElem_mem hlt
def AllM (k : Nat) (a : Au) (m : Mv) : Prop := m.1 < a.next.length ∧ m.2 < k
def LeastsOut (w : World) (k : Nat) (a : Au) (e : Ending) (w' : World) : Prop :=
  ∃ (mb : Nat) (keys : List Mv) (f : Mv → Int), e = .returned (.map (some mb)) ∧ MapM w' mb keys f ∧ Below w.heap.size w w' ∧ (∀ m, AllM k a m → m ∈ keys ∧ ValP (tgN a.next) (prA a) (AllM k a) 0 m (f m))

/-- What holds between the rounds. -/
structure LS (A : Fa) (w0 : World) (B zp mb : Nat) (k : Nat) (a : Au) (pc : Array Value) (W : World) (v : Value) (jl : List (Value × Int)) (jobs : List Job) (keys : List Mv) (f : Mv → Int) (st : Nat → Nat → Nat) (F : Ar → Nat → Nat) (num : Nat) : Prop where
  hb : Below w0.heap.size w0 W
  hp : W.heap[zp]? = some (.cells pc 24 (0, 0))
  hm : FlM A W st F
  hs : ∀ i j, i < A.n → j < A.k → st i j < num
  hk : MapM W mb keys f
  ho : OJ W B v jl
  hj : JsM A mb v W jl jobs
  hw : JP (tgN a.next) (prA a) (AllM k a) jobs keys f (fun _ => False)
  hq : ∀ x ∈ jobs, 0 ≤ x.2 ∧ x.2 ≤ num
  hn : num ≤ keys.length + 1
  hc : jobs.length ≤ 200000 * num
  lt : zp < B ∧ mb < B ∧ B ≤ W.heap.size ∧ A.fb < B ∧ A.sb < B ∧ (∀ x, A.ab x < B) ∧ ∀ j, j < A.n → A.G j < B
  ne : zp ≠ mb ∧ ¬ A.hotA zp ∧ ¬ A.hotG zp ∧ ¬ A.hotA mb ∧ ¬ A.hotG mb ∧ A.fb ≠ mb ∧ A.sb ≠ mb

def R35_25 (zl : Nat) (a0 a1 kk tt : Int) (ix : Nat) (u : Value) : Prop :=
  match ix with
  | 0 => u = .pointer (some ⟨zl, 0, none⟩)
  | 1 => u = .int .i64 a0
  | 2 => u = .pointer (some ⟨zl, 1, none⟩)
  | 3 => u = .int .i64 a1
  | 4 => u = .int .i64 kk
  | 5 => u = .pointer (some ⟨zl, 0, none⟩)
  | 6 => u = .int .i64 a0
  | 7 => u = .pointer (some ⟨zl, 1, none⟩)
  | 8 => u = .int .i64 a1
  | 9 => u = .int .i64 tt
  | 10 => u = .int .i64 kk
  | 11 => u = .int .i64 tt
  | _ => True

set_option maxRecDepth 100000 in
set_option maxHeartbeats 8000000 in
theorem leasts_c (w : World) (k : Nat) (vN vP : Value) (a : Au) (hN : IsRows w vN a.next) (hP : IsRows w vP a.prio) (hI : I64 a.letters ∧ I64 a.start) (hx : AX k a) :
    Calls Try.prog 35 #[.agg #[.int .i64 a.letters, .int .i64 a.start, vN, vP]] w (LeastsOut w k a) := by
  obtain ⟨aN, cN, bN, oN, VN, hvN, -, -, -⟩ := hN.data
  obtain ⟨aP, cP, bP, oP, V, hvP, hdP, hmP, hVP⟩ := hP.data
  subst hvN hvP
  have hmx : Try.prog.follows .mixedOrders = true := by kernel_rfl
  have HMM := @run_makeMap Try.prog
  have HX := Lib.hid hx
  have HN := Lib.hid hN
  have HP := Lib.hid hP
  have HDP := Lib.hid hdP
  have HVP := Lib.hid hVP
  rw [hx.lp] at HDP HVP
  have hnl := hx.lp
  rw [hnl] at HP
  have bx := heap_alloc_new w (.cells #[.int .i64 a.letters, .int .i64 a.start, .slice aN a.next.length cN, .slice aP a.next.length cP] 24)
  have hb1 : Below w.heap.size w (w.alloc (.cells #[.int .i64 a.letters, .int .i64 a.start, .slice aN a.next.length cN, .slice aP a.next.length cP] 24)) := bel_box _
  rw [hnl]
  have HB1 := Lib.hid hb1
  clear hb1 hN hP hx hdP hmP hVP hnl hI
  go_enter Try.func35, Try.ntmps35
  go_upto_region 2 with (fail)
  have hbm : Below w.heap.size w ((w.alloc (.cells #[.int .i64 a.letters, .int .i64 a.start, .slice aN a.next.length cN, .slice aP a.next.length cP] 24)).alloc (.map #[] 0)) := (by repeat (first | exact Below.refl _ _ | assumption | (refine belA ?_ _) | (refine belD ?_ _)))
  have bx2 := ((bel_box (w := w.alloc (.cells #[.int .i64 a.letters, .int .i64 a.start, .slice aN a.next.length cN, .slice aP a.next.length cP] 24)) (.map #[] 0)).block _ (Array.getElem?_eq_some_iff.1 bx).1).trans bx
  have HM0 := Lib.hid (MapM.made (w.alloc (.cells #[.int .i64 a.letters, .int .i64 a.start, .slice aN a.next.length cN, .slice aP a.next.length cP] 24)) (fun _ => 0))
  have hzm : w.heap.size < (w.alloc (.cells #[.int .i64 a.letters, .int .i64 a.start, .slice aN a.next.length cN, .slice aP a.next.length cP] 24)).heap.size := by simp
  have hz2 : (w.alloc (.cells #[.int .i64 a.letters, .int .i64 a.start, .slice aN a.next.length cN, .slice aP a.next.length cP] 24)).heap.size < ((w.alloc (.cells #[.int .i64 a.letters, .int .i64 a.start, .slice aN a.next.length cN, .slice aP a.next.length cP] 24)).alloc (.map #[] 0)).heap.size := by simp
  have HBM := Lib.hid hbm
  clear HMM bx hbm HB1
  have hsz : (w.alloc (.cells #[.int .i64 a.letters, .int .i64 a.start, .slice aN a.next.length cN, .slice aP a.next.length cP] 24)).heap.size = w.heap.size + 1 := by simp
  rw [hsz] at HM0 hzm hz2
  clear hsz
  generalize (w.alloc (.cells #[.int .i64 a.letters, .int .i64 a.start, .slice aN a.next.length cN, .slice aP a.next.length cP] 24)).alloc (.map #[] 0) = w2 at *
  obtain ⟨zp, hzp⟩ : ∃ zp, zp = w.heap.size := ⟨_, rfl⟩
  rw [← hzp] at bx2 hzm HM0 hz2
  have d0 := cell_of_row _ _ 0 _ _ _ bx2
  have d1 := cell_of_row _ _ 1 _ _ _ bx2
  have d2 := cell_of_row _ _ 2 _ _ _ bx2
  have d3 := cell_of_row _ _ 3 _ _ _ bx2
  have HNF := Lib.hid (newFlow_c w2 k (.slice aN a.next.length cN) (.slice aP a.next.length cP) a (HN.out.below HBM.out) (HP.out.below HBM.out) HX.out.nx)
  rw [← hzp]
  have HZP := Lib.hid hzp
  clear hzp
  have HMBW : Hid (w.heap.size ≤ zp + 1) := by have := HZP.out; show _ ≤ _; omega
  generalize zp + 1 = mb at *
  go_wp2_with fail
  refine HNF.out.mono ?_
  rintro e w3 ⟨A, va, rfl, ⟨hAn, hAk, hAv⟩, hA2, hA3, hA4, hA5⟩
  have HA : Hid (A.Ok w.heap.size) := { hA2 with lo := by have h1 := hA2.lo; have h2 := HBM.out.size; exact ⟨by omega, by omega, fun x => by have := h1.2.2.1 x; omega, fun j hj => by have := h1.2.2.2 j hj; omega⟩ }
  have HAn : Hid (A.n = a.next.length ∧ A.k = k ∧ A.vN = .slice aN a.next.length cN) := ⟨hAn, hAk, hAv⟩
  obtain ⟨av, cv, hva⟩ := (hA5 w3 (Only.refl _ _)).shp
  subst hva
  have hlo := hA3.lts
  have hgA := hA2.lo
  obtain ⟨B, hB⟩ : ∃ B, B = w3.heap.size := ⟨_, rfl⟩
  have hBs := hA4.size
  have hb4 : Below w3.heap.size w3 (w3.alloc (.cells #[.slice av (mvsU k a.next.length 0).length cv, .int .i64 0] 65)) := bel_box _
  have hnm : ∀ m, m ∈ mvsU k a.next.length 0 ↔ m.1 < a.next.length ∧ m.2 < k := fun m => mvsU_mem
  have HLN : Hid ((mvsU k a.next.length 0).length ≤ 192000) := by
    have h1 := HX.out.nx.n3
    have h2 := HX.out.nx.k6
    show _ ≤ _
    rw [mvsU_len]
    have : a.next.length * k ≤ 3000 * 64 := Nat.mul_le_mul h1 h2
    omega
  have HS0 : Hid (LS A w B zp mb k a #[.int .i64 a.letters, .int .i64 a.start, .slice aN a.next.length cN, .slice aP a.next.length cP] (w3.alloc (.cells #[.slice av (mvsU k a.next.length 0).length cv, .int .i64 0] 65)) (.slice (some ⟨B, 0, none⟩) 1 1) [(.slice av (mvsU k a.next.length 0).length cv, 0)] [(mvsU k a.next.length 0, 0)] [] (fun _ => 0) (fun _ _ => 0) (fun _ _ => 0) 1) := by
    have hm0 := HM0.out.lt
    have hzw : zp = w.heap.size := HZP.out
    refine ⟨(HBM.out.trans (hA4.mono HBM.out.size)).trans (hb4.mono (by have := HBM.out.size; omega)), ((hA4.trans (hb4.mono hBs)).block _ (by omega)).trans bx2, hA3.below hb4, fun _ _ _ _ => by decide, (HM0.out.below hA4).below hb4, ?_, ?_, JP.start ?_ ?_ ?_ _, fun x hx => by rw [List.mem_singleton.1 hx]; exact ⟨Int.le_refl _, by show (0 : Int) ≤ ((1 : Nat) : Int); decide⟩, by decide, by simp, ⟨by omega, by omega, by rw [hB]; exact hb4.size, by omega, by omega, fun x => by have := hlo.2.2.1 x; omega, fun j hj => by have := hlo.2.2.2 j hj; omega⟩, ⟨by omega, ?_, ?_, ?_, ?_, by omega, by omega⟩⟩
    · exact ⟨rfl, .inr ⟨w3.heap.size, 1, #[.slice av (mvsU k a.next.length 0).length cv, .int .i64 0], by rw [hB]; rfl, by rw [hB]; exact Nat.le_refl _, heap_alloc_new _ _, Nat.le_refl _, by simp [maxLen], rfl, rfl⟩⟩
    · refine (JsM.nil A mb _ _).add rfl fun W' hW => hA5 W' ((Only.of_below hb4).trans (hW.mono fun q _ hq => ?_))
      rcases hq with e | e | e | e | e
      · exact .inr (.inl e)
      · exact .inr (.inr (.inl e))
      · left; omega
      · right; right; right
        have : B = q := by simpa [Value.ownBlock] using e
        omega
      · right; right; right
        exact Nat.le_trans hb4.size e
    · exact mvsU_nodup _ _
    · intro e
      have := (hnm (0, 0)).2 ⟨HX.out.n0, HX.out.k0⟩
      rw [e] at this; cases this
    · intro m; exact (hnm m).symm
    · rintro ⟨x, e⟩; have := hgA.2.2.1 x; omega
    · rintro ⟨j, hj, e⟩; have := hgA.2.2.2 j hj; omega
    · rintro ⟨x, e⟩; have := hgA.2.2.1 x; omega
    · rintro ⟨j, hj, e⟩; have := hgA.2.2.2 j hj; omega
  have HBW0 : Hid (w.heap.size ≤ B) := by have := HZP.out; show _ ≤ _; omega
  clear hA2 hA3 hA4 hA5 hlo hgA hb4 hnm hAn hAk hAv bx2 hzm hz2 d0 d1 d2 d3 HNF HM0 HBM hBs
  go_wp2
  generalize w3.alloc (.cells #[.slice av (mvsU k a.next.length 0).length cv, .int .i64 0] 65) = w4 at *
  rw [← hB]
  clear hB
  go_loopg [6, 7] (mvsU k a.next.length 0).length (fun gh c6 c7 wr => ∃ (jl : List (Value × Int)) (jobs : List Job) (keys : List Mv) (f : Mv → Int) (st : Nat → Nat → Nat) (F : Ar → Nat → Nat) (num : Nat), gh = (mvsU k a.next.length 0).length - keys.length ∧ c7 = .int .i64 (num : Int) ∧ Hid (LS A w B zp mb k a #[.int .i64 a.letters, .int .i64 a.start, .slice aN a.next.length cN, .slice aP a.next.length cP] wr c6 jl jobs keys f st F num))
  case atStart => exact ⟨_, _, _, _, _, _, 1, rfl, rfl, HS0⟩
  case round =>
    clear HS0
    obtain ⟨jl0, jobs0, keys, f, st, F, num, hgk, rfl, HSr⟩ := hrel
    have HGK := Lib.hid hgk
    clear hgk
    have hkl : keys.length ≤ (mvsU k a.next.length 0).length := HSr.out.hw.len fun m => mvsU_mem.symm
    have hln := HLN.out
    have hn1 := HSr.out.hn
    have hjl := HSr.out.hj.ln
    obtain ⟨av6, cv6, hv6⟩ := HSr.out.ho.slice
    rcases List.eq_nil_or_concat jobs0 with hj0 | ⟨jobs, ⟨l, b⟩, hj0⟩
    · subst hj0
      have hjl0 : jl0 = [] := List.eq_nil_of_length_eq_zero (by simpa using hjl)
      subst hjl0
      have HF : Hid (LeastsOut w k a (.returned (.map (some mb))) wr) := by
        refine ⟨mb, keys, f, rfl, HSr.out.hk, HSr.out.hb, fun m hm => ?_⟩
        have h1 : m ∈ keys := by
          have := (HSr.out.hw.cv m).1 hm
          simpa using this
        exact ⟨h1, HSr.out.hw.vl m h1⟩
      subst hv6
      clear hjl
      go_wp2
      go_ret
      exact HF.out
    · rw [List.concat_eq_append] at hj0
      subst hj0
      rcases List.eq_nil_or_concat jl0 with hq0 | ⟨jl, ⟨y, b'⟩, hq0⟩
      · subst hq0; simp at hjl
      rw [List.concat_eq_append] at hq0
      subst hq0
      obtain ⟨hJc, hjl2, hbb, hy1, hys⟩ := HSr.out.hj.cut
      obtain rfl : b' = b := hbb
      obtain ⟨hP1, hgo, hlnd, hlne⟩ := HSr.out.hw.pop
      have HP1 := Lib.hid hP1
      have HGO := Lib.hid hgo
      have HLnd := Lib.hid hlnd
      have HLne := Lib.hid hlne
      obtain ⟨ay, cy, hyv⟩ := (hys wr (Only.refl _ _)).shp
      have hyv : y = .slice ay l.length cy := hyv
      subst hyv
      have HYS : Hid (∀ W', Only (hotJ A mb u6 wr.heap.size) wr W' → IsMvs W' (.slice ay l.length cy) l) := hys
      have HJC := Lib.hid hJc
      have HJL := Lib.hid hjl2
      have hb0 := HSr.out.hq (l, b') (by simp)
      have hb1 : (0 : Int) ≤ b' := hb0.1
      have hb2 : b' ≤ (num : Int) := hb0.2
      have hol : (jl ++ [((.slice ay l.length cy : Value), b')]).length = jl.length + 1 := by simp
      rw [hol] at hv6
      have hor : wr.ownsRow B 65 2 (.slice av6 (jl.length + 1) cv6) (jl.length + 1) (jobsC (jl ++ [((.slice ay l.length cy : Value), b')])) := by
        have h := HSr.out.ho
        unfold OJ at h
        rw [hol, hv6] at h
        exact h
      obtain ⟨g6, hg6⟩ := ownsRow_at hor
      obtain rfl := hg6 (by omega)
      have hjn : jl.length ≤ 200000 * num := by
        have := HSr.out.hc
        simp only [List.length_append, List.length_singleton] at this
        omega
      have hnn : num ≤ 192001 := by omega
      clear hg6 hjl hol hP1 hgo hlnd hlne hys hJc hjl2 hy1 hb0 hor
      have hO6 := HSr.out.ho
      rw [hv6] at hO6
      obtain ⟨x0, x1⟩ := hO6.at' (j := jl.length) (by simp)
      rw [List.getElem_append_right (Nat.le_refl _)] at x0 x1
      simp only [Nat.sub_self, List.getElem_cons_zero] at x0 x1
      obtain ⟨hOc, hcap6⟩ := hO6.cut (k := jl.length) (by simp)
      rw [List.take_left'  rfl] at hOc
      have HOC := Lib.hid hOc
      have HV6 := Lib.hid hv6
      clear hO6 hOc
      subst hv6
      go_upto_region 9 with (fail)
      have hbn : Below wr.heap.size wr (wr.alloc (.cells #[.slice ay l.length cy, .int .i64 b'] 65)) := bel_box _
      have bn := heap_alloc_new wr (.cells #[.slice ay l.length cy, .int .i64 b'] 65)
      have hll : l.length ≤ 192000 := Nat.le_trans (nd_sub HLnd.out fun m hm => mvsU_mem.2 ((HP1.out.cv m).2 (.inr (.inr hm)))) hln
      have HSP := Lib.hid (split_c A w (wr.alloc (.cells #[.slice ay l.length cy, .int .i64 b'] 65)) a.next st F num (.slice ay l.length cy) l HA.out (HSr.out.hb.trans (hbn.mono HSr.out.hb.size)) (by rw [HAn.out.2.2]; exact HN.out) (by rw [HAn.out.1, HAn.out.2.1]; exact HX.out.nx) (HSr.out.hm.below hbn)
        (fun W hW => HYS.out W ((Only.of_below hbn).trans (hW.mono fun q _ e => by
          rcases e with e | e | e
          · exact .inl e
          · exact .inr (.inl e)
          · exact .inr (.inr (.inr (.inr (Nat.le_trans hbn.size e)))))))
        (fun m hm => by rw [HAn.out.1, HAn.out.2.1]; exact (HP1.out.cv m).2 (.inr (.inr hm))) HSr.out.hs (by omega) (by rw [HAn.out.1]; exact HX.out.n2))
      have HBN := Lib.hid hbn
      have hlt := HSr.out.lt
      clear hbn x0 x1
      generalize wr.alloc (.cells #[.slice ay l.length cy, .int .i64 b'] 65) = w5 at *
      obtain ⟨zn, hzn⟩ : ∃ zn, zn = wr.heap.size := ⟨_, rfl⟩
      rw [← hzn] at bn
      rw [← hzn]
      have HZN := Lib.hid hzn
      have n0 : w5.cell? ⟨zn, 0, none⟩ = some (.slice ay l.length cy) := cell_of_row _ _ 0 _ _ _ bn
      have hzn1 : zn ≤ wr.heap.size := Nat.le_of_eq hzn
      have hzn2 : wr.heap.size ≤ zn := Nat.le_of_eq hzn.symm
      clear hzn
      go_wp2_with fail
      refine HSP.out.mono ?_
      rintro e w6 ⟨vc, vo, comps, os, st6, F6, rfl, hM6, hs6, hO6, hG6, aC, cC, gC, VC, hvc, hgC, hcl, hI6⟩
      have HGC := Lib.hid hgC
      clear hgC
      obtain ⟨aO, cO, hvo⟩ := (hI6 w6 (Only.refl _ _)).2.shp
      subst hvo hvc
      have hz5 : zn < w5.heap.size := (Array.getElem?_eq_some_iff.1 bn).1
      have hz6 := hO6.size
      have hne := HSr.out.ne
      have hcold : ∀ q, q < w5.heap.size → ¬ A.hotA q → ¬ A.hotG q → w6.heap[q]? = w5.heap[q]? := fun q h1 h2 h3 => hO6.block q h1 fun e => by
        rcases e with e | e | e
        · exact h2 e
        · exact h3 e
        · omega
      have HHot : Hid (∀ q, B ≤ q → ¬ A.hotA q ∧ ¬ A.hotG q) := fun q hq => ⟨fun ⟨x, e⟩ => by have := hlt.2.2.2.2.2.1 x; omega, fun ⟨j, hj, e⟩ => by have := hlt.2.2.2.2.2.2 j hj; omega⟩
      have bn6 : w6.heap[zn]? = some (.cells #[.slice ay l.length cy, .int .i64 b'] 65 (0, 0)) := (hcold zn hz5 (HHot.out zn (by omega)).1 (HHot.out zn (by omega)).2).trans bn
      have HK6 : Hid (MapM w6 mb keys f) := (HSr.out.hk.below HBN.out).blk (hcold mb (by omega) hne.2.2.2.1 hne.2.2.2.2.1)
      have bp6 : w6.heap[zp]? = some (.cells #[.int .i64 a.letters, .int .i64 a.start, .slice aN a.next.length cN, .slice aP a.next.length cP] 24 (0, 0)) := (hcold zp (by omega) hne.2.1 hne.2.2.1).trans ((HBN.out.block _ (by omega)).trans HSr.out.hp)
      have HO6 : Hid (OJ w6 B (.slice (some ⟨g6, 0, none⟩) jl.length cv6) jl) := (HOC.out.below HBN.out).only hO6 fun q hq e => by
        have h1 := HOC.out.ge q hq
        have h2 := HOC.out.lt' q hq
        rcases e with e | e | e
        · exact (HHot.out q h1).1 e
        · exact (HHot.out q h1).2 e
        · have := HBN.out.size; omega
      have HJ6 : Hid (JsM A mb (.slice (some ⟨g6, 0, none⟩) jl.length cv6) w6 jl jobs) := (HJC.out.move (Only.of_below HBN.out) (v' := .slice (some ⟨g6, 0, none⟩) jl.length cv6) fun q hq => .inl hq).move (hO6.mono fun q _ e => by
        rcases e with e | e | e
        · exact .inl e
        · exact .inr (.inl e)
        · exact .inr (.inr (.inr (.inr e)))) fun q hq => .inl hq
      have HI6 := Lib.hid hI6
      have HG6 := Lib.hid hG6
      have HM6 := Lib.hid hM6
      have HS6 := Lib.hid hs6
      have HB6 : Hid (Below w.heap.size w w6) := Only.to_below (HSr.out.hb.trans (HBN.out.mono HSr.out.hb.size)) hO6 (by
        have h1 := HSr.out.hb.size
        have h2 := HBN.out.size
        have h3 := HA.out.lo
        rintro q (⟨x, e⟩ | ⟨j, hj, e⟩ | e)
        · rw [e]; exact h3.2.2.1 x
        · rw [e]; exact h3.2.2.2 j hj
        · omega)
      have hosl : os.length ≤ 192000 := Nat.le_trans hG6.nd.2.length_le hll
      clear hM6 hs6 hO6 hG6 hI6 hcold n0 bn HSP
      have hmb6 : mb < w6.heap.size := HK6.out.lt
      have hzn6 : zn < w6.heap.size := (Array.getElem?_eq_some_iff.1 bn6).1
      have hzmb : zn ≠ mb := by omega
      have hmb5 : mb < w5.heap.size := by omega
      have hg65 : g6 < w5.heap.size := by have h1 := HOC.out.lt' g6 rfl; have h2 := HBN.out.size; omega
      have HOND : Hid os.Nodup := HG6.out.nd.2.nodup HLnd.out
      have hb64 : I64 b' := by unfold I64; omega
      have HB64 := Lib.hid hb64
      clear hb64
      go_wp2
      have HP6 : Hid (JP (tgN a.next) (prA a) (AllM k a) jobs keys f (fun m => m ∈ l ∧ m ∉ os.take 0)) := HP1.out.congr fun m => by simp
      go_loopg [59] os.length (fun gh i wx => ∃ (x : Nat) (keys1 : List Mv) (f1 : Mv → Int), gh = os.length - x ∧ i = .int .i64 (x : Int) ∧ x ≤ os.length ∧ Hid (MapM wx mb keys1 f1) ∧ Hid (JP (tgN a.next) (prA a) (AllM k a) jobs keys1 f1 (fun m => m ∈ l ∧ m ∉ os.take x)) ∧ keys1.length = keys.length + x ∧ Hid (Only (fun q => q = mb ∨ w6.heap.size ≤ q) w6 wx))
      case atStart => exact ⟨0, keys, f, rfl, rfl, by omega, HK6, HP6, rfl, Only.refl _ _⟩
      case round =>
        clear HK6 HP6
        obtain ⟨wy, hwy⟩ : ∃ wy, wy = wr := ⟨_, rfl⟩
        obtain ⟨x, keys1, f1, hgx, rfl, hx, HKx, HPx, hkx, HOx⟩ := hrel
        have HGX := Lib.hid hgx
        have hkx1 : keys1.length ≤ keys.length + x := Nat.le_of_eq hkx
        have HKX := Lib.hid hkx
        clear hgx hwy hkx
        by_cases hlx : x < os.length
        · as_aux_lemma =>
          obtain ⟨bL, oL, had, -, hdt⟩ := (HI6.out wr (HOx.out.mono fun q _ e => e.imp (fun e => by omega) id)).2.dat
          obtain rfl := had (by omega)
          obtain ⟨e1, e2⟩ := hdt x hlx
          have hmem : os[x] ∈ os := List.getElem_mem hlx
          have HTk : Hid (os.take (x + 1) = os.take x ++ [os[x]]) := List.take_succ_eq_append_getElem hlx
          have HNT : Hid (os[x] ∉ os.take x) := fun h => by
            obtain ⟨i, hi, e⟩ := List.getElem_of_mem h
            rw [List.length_take] at hi
            rw [List.getElem_take] at e
            have := (List.getElem_inj HOND.out).1 e
            omega
          have HML := Lib.hid ((HG6.out.ot _).1 hmem).1
          have HVL : Hid (ValP (tgN a.next) (prA a) (AllM k a) 0 os[x] b') := HGO.out _ HML.out _ (HG6.out.out (pr := prA a) hmem)
          have HAL : Hid (AllM k a os[x]) := (HP1.out.cv _).2 (.inr (.inr HML.out))
          clear had hdt hmem
          generalize os[x] = m at *
          obtain ⟨s1, x1⟩ := m
          have e1 : wr.cell? ⟨bL, oL + x * 2, none⟩ = some (.int .i64 (s1 : Int)) := e1
          have e2 : wr.cell? ⟨bL, oL + x * 2 + 1, none⟩ = some (.int .i64 (x1 : Int)) := e2
          have hwf : WfM (s1, x1) := by
            have h1 := HX.out.nx.n3
            have h2 := HX.out.nx.k6
            have h3 : s1 < a.next.length ∧ x1 < k := HAL.out
            exact ⟨by show s1 ≤ _; omega, by show x1 ≤ _; omega⟩
          have hbx : Below wr.heap.size wr (wr.alloc (.cells #[.int .i64 (s1 : Int), .int .i64 (x1 : Int)] 49)) := bel_box _
          have bx := heap_alloc_new wr (.cells #[.int .i64 (s1 : Int), .int .i64 (x1 : Int)] 49)
          have bn7 := (hbx.block _ (by have := HOx.out.size; omega)).trans ((HOx.out.block zn hzn6 (fun e => by rcases e with e | e <;> omega)).trans bn6)
          obtain ⟨w8, hup, hmp, hgr⟩ := (HKx.out.below hbx).upd hwf ((HPx.out.pk _ ⟨HML.out, HNT.out⟩).1) (by omega) HB64.out
          replace hup : (Instr.mapUpdate 46 (.map (some mb)) (.agg #[.int .i64 (s1 : Int), .int .i64 (x1 : Int)]) (.int .i64 b')).run Try.prog (wr.alloc (.cells #[.int .i64 (s1 : Int), .int .i64 (x1 : Int)] 49)) = .ok () w8 := hup
          have HK8 := Lib.hid hmp
          have HO8 : Hid (Only (fun q => q = mb ∨ w6.heap.size ≤ q) w6 w8) := (HOx.out.trans (Only.of_below hbx)).trans ((Only.of_grown hgr).mono fun q _ e => .inl (Option.some.inj e).symm)
          have HPn : Hid (JP (tgN a.next) (prA a) (AllM k a) jobs (keys1 ++ [(s1, x1)]) (fun z => if z = (s1, x1) then b' else f1 z) (fun m => m ∈ l ∧ m ∉ os.take (x + 1))) := (HPx.out.put ⟨HML.out, HNT.out⟩ HVL.out).congr fun z => by
            rw [HTk.out, List.mem_append, List.mem_singleton]
            constructor
            · rintro ⟨⟨h1, h2⟩, h3⟩; exact ⟨h1, fun h => h.elim h2 h3⟩
            · rintro ⟨h1, h2⟩; exact ⟨⟨h1, fun h => h2 (.inl h)⟩, fun h => h2 (.inr h)⟩
          have HKn : Hid ((keys1 ++ [(s1, x1)]).length = keys.length + (x + 1)) := by show _ = _; rw [List.length_append, List.length_singleton, HKX.out]; omega
          clear hmp hgr hwf hbx
          have HUP := Lib.hid hup
          have HBX := Lib.hid bx
          have HBN7 := Lib.hid bn7
          clear hup bx bn7
          go_upto_region 13 with (fail)
          generalize wr.alloc (.cells #[.int .i64 (s1 : Int), .int .i64 (x1 : Int)] 49) = w7 at *
          clear e1 e2
          generalize wr.heap.size = zb at *
          have b0 : w7.cell? ⟨zb, 0, none⟩ = some (.int .i64 (s1 : Int)) := cell_of_row _ _ 0 _ _ _ HBX.out
          have b1 : w7.cell? ⟨zb, 1, none⟩ = some (.int .i64 (x1 : Int)) := cell_of_row _ _ 1 _ _ _ HBX.out
          have n1 : w7.cell? ⟨zn, 1, none⟩ = some (.int .i64 b') := cell_of_row _ _ 1 _ _ _ HBN7.out
          have hup := HUP.out
          go_wp2
          go_roundg (os.length - (x + 1))
          case measure => have := HGX.out; omega
          case rel => exact ⟨x + 1, _, _, rfl, by go_num, by omega, HK8, HPn, HKn.out, HO8⟩
        · obtain rfl : x = os.length := by omega
          rw [List.take_length] at HPx
          have HO7 : Hid (OJ wr B (.slice (some ⟨g6, 0, none⟩) jl.length cv6) jl) := HO6.out.only HOx.out fun q hq e => by
            have h1 := HO6.out.ge q hq
            have h2 := HO6.out.lt' q hq
            rcases e with e | e <;> omega
          have HJ7 : Hid (JsM A mb (.slice (some ⟨g6, 0, none⟩) jl.length cv6) wr jl jobs) := HJ6.out.move (HOx.out.mono fun q _ e => e.elim (fun e => .inr (.inr (.inl e))) fun e => .inr (.inr (.inr (.inr e)))) fun q hq => .inl hq
          have HQ7 : Hid (∀ x ∈ jobs, 0 ≤ x.2 ∧ x.2 ≤ ((num + 1 : Nat) : Int)) := fun x hx => by have := HSr.out.hq x (List.mem_append_left _ hx); omega
          have HP7 : Hid (JP (tgN a.next) (prA a) (AllM k a) jobs keys1 f1 (fun m => m ∈ l ∧ m ∉ os ∧ ∀ c ∈ comps.take 0, m ∉ c)) := HPx.out.congr fun m => by simp
          have HOy : Hid (Only (fun q => q = mb ∨ q = g6 ∨ w6.heap.size ≤ q) w6 wr) := HOx.out.mono fun q _ e => e.elim .inl fun e => .inr (.inr e)
          have hk7 : keys.length + os.length + 0 ≤ keys1.length := by have := HKX.out; omega
          clear HPx HOx hkx1
          go_wp2
          go_loopg [6, 70] comps.length (fun gh c6 i wx => ∃ (ci : Nat) (keys2 : List Mv) (f2 : Mv → Int) (jobs2 : List Job) (jl2 : List (Value × Int)), gh = comps.length - ci ∧ i = .int .i64 (ci : Int) ∧ ci ≤ comps.length ∧ Hid (MapM wx mb keys2 f2) ∧
            Hid (JP (tgN a.next) (prA a) (AllM k a) jobs2 keys2 f2 (fun m => m ∈ l ∧ m ∉ os ∧ ∀ c ∈ comps.take ci, m ∉ c)) ∧ keys.length + os.length + ci ≤ keys2.length ∧ Hid (OJ wx B c6 jl2) ∧ Hid (JsM A mb c6 wx jl2 jobs2) ∧ Hid (∀ x ∈ jobs2, 0 ≤ x.2 ∧ x.2 ≤ ((num + 1 : Nat) : Int)) ∧ jobs2.length ≤ jobs.length + ci ∧
            Hid (∀ q, c6.ownBlock = some q → q = g6 ∨ w6.heap.size ≤ q) ∧ Hid (Only (fun q => q = mb ∨ q = g6 ∨ w6.heap.size ≤ q) w6 wx))
          case atStart => exact ⟨0, keys1, f1, jobs, jl, rfl, rfl, by omega, HKx, HP7, hk7, HO7, HJ7, HQ7, by omega, fun q hq => .inl (by simpa [Value.ownBlock] using hq.symm), HOy⟩
          case round =>
            clear HKx HP7 HO7 HJ7 HQ7 HOy hk7 HKX hlx
            obtain ⟨ci, keys2, f2, jobs2, jl2, hgc, rfl, hci, HKc, HPc, hkc, HOc, HJc, HQc, hjc, HGc, HWc⟩ := hrel
            have HGC2 := Lib.hid hgc
            clear hgc
            have hk2N : keys2.length ≤ (mvsU k a.next.length 0).length := HPc.out.len fun m => mvsU_mem.symm
            by_cases hlc : ci < comps.length
            · as_aux_lemma =>
              have hcmem : comps.getD ci [] ∈ comps := by rw [getD_lt _ _ _ hlc]; exact List.getElem_mem hlc
              have HTk : Hid (comps.take (ci + 1) = comps.take ci ++ [comps.getD ci []]) := by show _ = _; rw [List.take_succ_eq_append_getElem hlc, getD_lt _ _ _ hlc]
              have HCI : Hid (∀ W', Only (fun q => q = mb ∨ q = g6 ∨ w6.heap.size ≤ q) w6 W' → W'.cell? ⟨gC, ci, none⟩ = some (VC ci) ∧ IsMvs W' (VC ci) (comps.getD ci [])) := fun W' hW => (HI6.out W' (hW.mono fun q _ e => by rcases e with e | e | e <;> omega)).1 ci hlc
              obtain ⟨ac, cc, hVc⟩ := (HCI.out wr HWc.out).2.shp
              have haC := HGC.out (by omega)
              subst haC
              have e0 := (HCI.out wr HWc.out).1
              rw [hVc] at e0
              rw [hVc] at HCI
              have HCM := Lib.hid (HG6.out.cs _ hcmem)
              have hcsub := HG6.out.nd.1 _ hcmem
              have HCSub := Lib.hid hcsub
              have hclen : (comps.getD ci []).length ≤ 192000 := Nat.le_trans hcsub.length_le hll
              have HCMem := Lib.hid hcmem
              have hcln : (ci : Int) < comps.length := by omega
              clear hcsub hVc hcmem
              generalize hce : comps.getD ci [] = c at *
              have HCE := Lib.hid hce
              clear hce
              have HB9 : Hid (Below wr.heap.size wr (wr.alloc (.cells #[.int .i64 maxI, .int .i64 maxI] 70))) := bel_box _
              have HL9 : Hid ((wr.alloc (.cells #[.int .i64 maxI, .int .i64 maxI] 70)).heap[wr.heap.size]? = some (.cells #[.int .i64 maxI, .int .i64 maxI] 70 (0, 0))) := heap_alloc_new _ _
              go_wp2
              change Code.wp _ _ _ _ (wr.alloc (.cells #[.int .i64 maxI, .int .i64 maxI] 70))
              generalize wr.alloc (.cells #[.int .i64 maxI, .int .i64 maxI] 70) = w9 at *
              clear e0
              obtain ⟨zl, hzl⟩ : ∃ zl, zl = wr.heap.size := ⟨_, rfl⟩
              rw [← hzl] at HL9
              rw [← hzl]
              have hws := HWc.out.size
              have hzl6 : w6.heap.size ≤ zl := by omega
              have hzl9 : zl < w9.heap.size := (Array.getElem?_eq_some_iff.1 HL9.out).1
              have HZL := Lib.hid hzl
              have HW9 : Hid (Only (fun q => q = mb ∨ q = g6 ∨ w6.heap.size ≤ q) w6 w9) := HWc.out.trans (Only.of_below HB9.out)
              clear hzl hws
              have hmI : (0 : Int) ≤ maxI := by decide
              have HT9 : Hid (∀ W, Only (fun q => q = mb ∨ zl ≤ q) w9 W → OJ W B u6 jl2 ∧ JsM A mb u6 W jl2 jobs2) := fun W hW => by
                have hb9 := HB9.out
                have hz := HZL.out
                have hwW : Only (fun q => q = mb ∨ zl ≤ q) wr W := (Only.of_below hb9).trans hW
                have hmbB : mb < B := hlt.2.1
                exact ⟨HOc.out.only hwW fun q hq e => by
                  have h1 := HOc.out.ge q hq
                  have h2 := HOc.out.lt' q hq
                  rcases e with e | e <;> omega, HJc.out.move (hwW.mono fun q _ e => by
                  rcases e with e | e
                  · exact .inr (.inr (.inl e))
                  · exact .inr (.inr (.inr (.inr (by omega))))) fun q hq => .inl hq⟩
              have HOu : Hid (∀ q, u6.ownBlock = some q → B ≤ q ∧ q < zl) := fun q hq => ⟨HOc.out.ge q hq, by have := HOc.out.lt' q hq; have := HZL.out; omega⟩
              have HK9 : Hid (MapM w9 mb keys2 f2) := HKc.out.below HB9.out
              have hjl2 : jl2.length ≤ jobs2.length := Nat.le_of_eq HJc.out.ln
              have hcnd : Hid c.Nodup := HCSub.out.nodup HLnd.out
              go_loopg [77] c.length (fun gh i wx => ∃ (x : Nat) (a0 a1 : Int), gh = c.length - x ∧ i = .int .i64 (x : Int) ∧ x ≤ c.length ∧ Hid (LowE (prA a) (c.take x) 0 a0) ∧ Hid (LowE (prA a) (c.take x) 1 a1) ∧ (0 ≤ a0 ∧ a0 ≤ maxI) ∧ (0 ≤ a1 ∧ a1 ≤ maxI) ∧ Hid (wx.heap[zl]? = some (.cells #[.int .i64 a0, .int .i64 a1] 70 (0, 0))) ∧ Hid (Only (fun q => q = zl ∨ w9.heap.size ≤ q) w9 wx))
              case atStart => exact ⟨0, maxI, maxI, rfl, rfl, by omega, LowE.start _ _, LowE.start _ _, ⟨hmI, Int.le_refl _⟩, ⟨hmI, Int.le_refl _⟩, HL9, Only.refl _ _⟩
              case round =>
                clear HL9
                obtain ⟨x, a0, a1, hgx, rfl, hxc, HE0, HE1, ⟨ha0, ha0'⟩, ⟨ha1, ha1'⟩, HLx, HOx⟩ := hrel
                have HGX := Lib.hid hgx
                clear hgx
                have HWx : Hid (Only (fun q => q = mb ∨ q = g6 ∨ w6.heap.size ≤ q) w6 wr) := HW9.out.trans (HOx.out.mono fun q _ e => .inr (.inr (by rcases e with e | e <;> omega)))
                by_cases hlx : x < c.length
                · as_aux_lemma =>
                  obtain ⟨bL, oL, had, -, hdt⟩ := (HCI.out wr HWx.out).2.dat
                  obtain rfl := had (by omega)
                  obtain ⟨e1, e2⟩ := hdt x hlx
                  have HTx : Hid (c.take (x + 1) = c.take x ++ [c[x]]) := List.take_succ_eq_append_getElem hlx
                  have HAL : Hid (AllM k a c[x]) := (HP1.out.cv _).2 (.inr (.inr (HCSub.out.subset (List.getElem_mem hlx))))
                  clear had hdt
                  generalize c[x] = m at *
                  obtain rfl := HDP.out HX.out.n0
                  obtain ⟨hs1, hs2⟩ := HAL.out
                  obtain ⟨hp0, hp1⟩ := HX.out.pr hs1 hs2
                  obtain ⟨aR, cR, hVs⟩ := (HVP.out m.1 hs1).2.shape
                  rw [HX.out.lr m.1 hs1] at hVs
                  have hir := (HVP.out m.1 hs1).2
                  rw [hVs] at hir
                  obtain ⟨bR, oR, had2, -, hdt2⟩ := hir.dat
                  obtain rfl := had2 (by omega)
                  have r1 := hdt2 m.2 hs2
                  have r0 := (HVP.out m.1 hs1).1
                  rw [hVs] at r0
                  have r1 : w.cell? ⟨bR, oR + m.2, none⟩ = some (.int .i64 (prA a m)) := r1
                  have HBw : Hid (Below w.heap.size w wr) := Only.to_below HB6.out HWx.out (by
                    have h1 := HB6.out.size
                    have h2 := HMBW.out
                    have h3 := HBW0.out
                    have h4 := HOC.out.ge g6 rfl
                    rintro q (e | e | e) <;> omega)
                  have p3 : wr.heap[zp]? = some (.cells #[.int .i64 a.letters, .int .i64 a.start, .slice aN a.next.length cN, .slice (some ⟨bP, oP, none⟩) a.next.length cP] 24 (0, 0)) := (HWx.out.block zp (by omega) (fun e => by have h4 := HOC.out.ge g6 rfl; rcases e with e | e | e <;> omega)).trans bp6
                  have hbx : Below wr.heap.size wr (wr.alloc (.cells #[.int .i64 (m.1 : Int), .int .i64 (m.2 : Int)] 49)) := bel_box _
                  have HBX := Lib.hid (heap_alloc_new wr (.cells #[.int .i64 (m.1 : Int), .int .i64 (m.2 : Int)] 49))
                  have HR0 := Lib.hid (cellB hbx (cellB HBw.out r0))
                  have HR1 := Lib.hid (cellB hbx (cellB HBw.out r1))
                  have HP3 := Lib.hid ((hbx.block _ (Array.getElem?_eq_some_iff.1 p3).1).trans p3)
                  have HL1 := Lib.hid ((hbx.block _ (Array.getElem?_eq_some_iff.1 HLx.out).1).trans HLx.out)
                  have HO1 : Hid (Only (fun q => q = zl ∨ w9.heap.size ≤ q) w9 (wr.alloc (.cells #[.int .i64 (m.1 : Int), .int .i64 (m.2 : Int)] 49))) := HOx.out.trans (Only.of_below hbx)
                  clear hbx r0 r1 p3 hir hdt2 had2 hVs
                  go_upto_region 22 with (fail)
                  generalize wr.alloc (.cells #[.int .i64 (m.1 : Int), .int .i64 (m.2 : Int)] 49) = w10 at *
                  generalize wr.heap.size = zb at *
                  clear e1 e2
                  have b0 : w10.cell? ⟨zb, 0, none⟩ = some (.int .i64 (m.1 : Int)) := cell_of_row _ _ 0 _ _ _ HBX.out
                  have b1 : w10.cell? ⟨zb, 1, none⟩ = some (.int .i64 (m.2 : Int)) := cell_of_row _ _ 1 _ _ _ HBX.out
                  have p3 : w10.cell? ⟨zp, 3, none⟩ = some (.slice (some ⟨bP, oP, none⟩) a.next.length cP) := cell_of_row _ _ 3 _ _ _ HP3.out
                  have r0 := HR0.out
                  have r1 := HR1.out
                  refine wp_region_quiet_lit (by kernel_rfl) (by kernel_rfl) ?_
                  ((repeat (go_big_quiet_step (fail))); refine wpQuiet_nil ?_; rintro _ ⟨nq, rfl⟩)
                  have HL2 : Hid ((w10.drewN nq).heap[zl]? = some (.cells #[.int .i64 a0, .int .i64 a1] 70 (0, 0))) := HL1.out
                  have HO2 : Hid (Only (fun q => q = zl ∨ w9.heap.size ≤ q) w9 (w10.drewN nq)) := HO1.out.trans (Only.of_below (below_draws _ _ _))
                  clear b0 b1 p3 r0 r1
                  generalize w10.drewN nq = w11 at *
                  have l0 : w11.cell? ⟨zl, 0, none⟩ = some (.int .i64 a0) := cell_of_row _ _ 0 _ _ _ HL2.out
                  have l1 : w11.cell? ⟨zl, 1, none⟩ = some (.int .i64 a1) := cell_of_row _ _ 1 _ _ _ HL2.out
                  have f0 : w11.frozen? ⟨zl, 0, none⟩ = false := frozen_of_row _ _ 0 _ _ HL2.out
                  have f1 : w11.frozen? ⟨zl, 1, none⟩ = false := frozen_of_row _ _ 1 _ _ HL2.out
                  have HPM : Hid (prA a m % 2 = 0 ∨ prA a m % 2 = 1) := by show _ ∨ _; omega
                  have HPT : Hid ((prA a m).tmod 2 = prA a m % 2) := Int.tmod_eq_emod_of_nonneg hp0
                  clear hs1 hs2 HP3 HR0 HR1
                  generalize hpp : prA a m = p at *
                  have HPP := Lib.hid hpp
                  clear hpp
                  rcases HPM.out with hm0 | hm0
                  · have ht0 : p.tmod 2 = 0 := by rw [HPT.out]; exact hm0
                    have HEn0 : Hid (LowE (prA a) (c.take (x + 1)) 0 (min a0 p)) := by
                      show LowE _ _ _ _
                      rw [HTx.out, ← HPP.out]
                      exact HE0.out.take (by rw [HPP.out]; omega)
                    have HEn1 : Hid (LowE (prA a) (c.take (x + 1)) 1 a1) := by
                      show LowE _ _ _ _
                      rw [HTx.out]
                      exact HE1.out.skip (by rw [HPP.out]; omega)
                    by_cases hle : a0 ≤ p
                    · rw [Int.min_eq_left hle] at HEn0
                      have HLn : Hid ((w11.setCell ⟨zl, 0, none⟩ (.int .i64 a0)).heap[zl]? = some (.cells #[.int .i64 a0, .int .i64 a1] 70 (0, 0))) := heap_setCell_same _ _ 0 _ _ _ HL2.out
                      have HOn : Hid (Only (fun q => q = zl ∨ w9.heap.size ≤ q) w9 (w11.setCell ⟨zl, 0, none⟩ (.int .i64 a0))) := HO2.out.trans (Only.set _ _ _ (.inl rfl))
                      go_wp2
                      all_goals
                        go_roundg (c.length - (x + 1))
                        case measure => have := HGX.out; omega
                        case rel => exact ⟨x + 1, _, _, rfl, by go_num, by omega, HEn0, HEn1, ⟨by omega, by omega⟩, ⟨by omega, by omega⟩, HLn, HOn⟩
                    · have hle2 : p < a0 := by omega
                      rw [Int.min_eq_right (by omega)] at HEn0
                      have HLn : Hid ((w11.setCell ⟨zl, 0, none⟩ (.int .i64 p)).heap[zl]? = some (.cells #[.int .i64 p, .int .i64 a1] 70 (0, 0))) := heap_setCell_same _ _ 0 _ _ _ HL2.out
                      have HOn : Hid (Only (fun q => q = zl ∨ w9.heap.size ≤ q) w9 (w11.setCell ⟨zl, 0, none⟩ (.int .i64 p))) := HO2.out.trans (Only.set _ _ _ (.inl rfl))
                      go_wp2
                      all_goals
                        go_roundg (c.length - (x + 1))
                        case measure => have := HGX.out; omega
                        case rel => exact ⟨x + 1, _, _, rfl, by go_num, by omega, HEn0, HEn1, ⟨by omega, by omega⟩, ⟨by omega, by omega⟩, HLn, HOn⟩
                  · have ht0 : p.tmod 2 = 1 := by rw [HPT.out]; exact hm0
                    have HEn0 : Hid (LowE (prA a) (c.take (x + 1)) 0 a0) := by
                      show LowE _ _ _ _
                      rw [HTx.out]
                      exact HE0.out.skip (by rw [HPP.out]; omega)
                    have HEn1 : Hid (LowE (prA a) (c.take (x + 1)) 1 (min a1 p)) := by
                      show LowE _ _ _ _
                      rw [HTx.out, ← HPP.out]
                      exact HE1.out.take (by rw [HPP.out]; omega)
                    by_cases hle : a1 ≤ p
                    · rw [Int.min_eq_left hle] at HEn1
                      have HLn : Hid ((w11.setCell ⟨zl, 1, none⟩ (.int .i64 a1)).heap[zl]? = some (.cells #[.int .i64 a0, .int .i64 a1] 70 (0, 0))) := heap_setCell_same _ _ 1 _ _ _ HL2.out
                      have HOn : Hid (Only (fun q => q = zl ∨ w9.heap.size ≤ q) w9 (w11.setCell ⟨zl, 1, none⟩ (.int .i64 a1))) := HO2.out.trans (Only.set _ _ _ (.inl rfl))
                      go_wp2
                      all_goals
                        go_roundg (c.length - (x + 1))
                        case measure => have := HGX.out; omega
                        case rel => exact ⟨x + 1, _, _, rfl, by go_num, by omega, HEn0, HEn1, ⟨by omega, by omega⟩, ⟨by omega, by omega⟩, HLn, HOn⟩
                    · have hle2 : p < a1 := by omega
                      rw [Int.min_eq_right (by omega)] at HEn1
                      have HLn : Hid ((w11.setCell ⟨zl, 1, none⟩ (.int .i64 p)).heap[zl]? = some (.cells #[.int .i64 a0, .int .i64 p] 70 (0, 0))) := heap_setCell_same _ _ 1 _ _ _ HL2.out
                      have HOn : Hid (Only (fun q => q = zl ∨ w9.heap.size ≤ q) w9 (w11.setCell ⟨zl, 1, none⟩ (.int .i64 p))) := HO2.out.trans (Only.set _ _ _ (.inl rfl))
                      go_wp2
                      all_goals
                        go_roundg (c.length - (x + 1))
                        case measure => have := HGX.out; omega
                        case rel => exact ⟨x + 1, _, _, rfl, by go_num, by omega, HEn0, HEn1, ⟨by omega, by omega⟩, ⟨by omega, by omega⟩, HLn, HOn⟩
                · obtain rfl : x = c.length := by omega
                  rw [List.take_length] at HE0 HE1
                  have hcne : c ≠ [] := by
                    obtain ⟨m0, h0, hm⟩ := HCM.out
                    intro e
                    have := (hm m0).2 h0.self
                    rw [e] at this; cases this
                  have hlow := LowE.low HE0.out HE1.out hcne (fun m hm => HX.out.pr ((HP1.out.cv m).2 (.inr (.inr (HCSub.out.subset hm)))).1 ((HP1.out.cv m).2 (.inr (.inr (HCSub.out.subset hm)))).2)
                  have HLOW := Lib.hid hlow
                  have hne01 := hlow.2.2.2
                  clear hlow hcne HE0 HE1
                  have HL0 : Hid (∀ W, Below wr.heap.size wr W → W.cell? ⟨zl, 0, none⟩ = some (.int .i64 a0) ∧ W.cell? ⟨zl, 1, none⟩ = some (.int .i64 a1)) := fun W h => by
                    have k := (h.block _ (Array.getElem?_eq_some_iff.1 HLx.out).1).trans HLx.out
                    exact ⟨cell_of_row _ _ 0 _ _ _ k, cell_of_row _ _ 1 _ _ _ k⟩
                  go_upto_region 25 with (fail)
                  go_cut [19, 20] (fun v19 v20 wx => ∃ kk tt : Int, v19 = .int .i64 kk ∧ v20 = .int .i64 tt ∧ Hid (LowC (prA a) c kk tt ∧ 0 ≤ kk ∧ kk ≤ 20000) ∧ Hid (Below wr.heap.size wr wx))
                  case first J' K' hJR hMK =>
                    have HMK := Lib.hid hMK
                    have HJR := Lib.hid hJR
                    clear hMK hJR
                    rcases (by omega : a0 < a1 ∨ a1 < a0) with hlt01 | hlt01
                    · have hle01 : a0 ≤ a1 := by omega
                      have hn1 : ¬ a1 < a0 := by omega
                      have hn2 : ¬ a1 ≤ a0 := by omega
                      have hd1 : decide (a1 < a0) = false := decide_eq_false hn1
                      have hd2 : decide (a0 < a1) = true := decide_eq_true hlt01
                      have hd3 : decide (a0 ≤ a1) = true := decide_eq_true hle01
                      have hd4 : decide (a1 ≤ a0) = false := decide_eq_false hn2
                      have hd5 : min a0 a1 = a0 := Int.min_eq_left hle01
                      have hd6 : max a0 a1 = a1 := Int.max_eq_right hle01
                      have HKT : Hid (LowC (prA a) c a0 a1 ∧ 0 ≤ a0 ∧ a0 ≤ 20000) := by
                        have h := HLOW.out
                        rw [Int.min_eq_left hle01, Int.max_eq_right hle01] at h
                        exact ⟨h.1, h.2.1, h.2.2.1⟩
                      refine region_pure hmx (R35_25 zl a0 a1 a0 a1) (fun _ W => Below wr.heap.size wr W) (fun vs => { tmps := (_ :: _ :: _ :: _ :: _ :: _ :: _ :: _ :: _ :: _ :: _ :: _ :: _ :: _ :: _ :: _ :: _ :: _ :: _ :: vs 10 :: vs 11 :: _ :: _ :: _ :: _ :: _ :: _ :: _ :: _ :: _ :: _ :: _ :: _ :: _ :: _ :: _ :: _ :: _ :: _ :: _ :: _ :: _ :: _ :: _ :: _ :: _ :: _ :: _ :: _ :: _ :: _ :: _ :: _ :: _ :: _ :: _ :: _ :: _ :: _ :: _ :: _ :: _ :: _ :: _ :: _ :: _ :: _ :: _ :: _ :: _ :: _ :: _ :: _ :: _ :: _ :: _ :: _ :: _ :: _ :: _ :: _ :: _ :: _ :: _ :: _ :: _ :: _ :: _ :: _ :: _ :: _ :: _ :: _ :: _ :: _ :: _ :: _ :: _ :: _ :: _ :: _ :: vs 0 :: vs 1 :: vs 2 :: vs 3 :: vs 4 :: vs 5 :: vs 6 :: vs 7 :: vs 8 :: vs 9 :: _ :: _ :: _ :: _ :: _ :: _ :: _ :: _ :: _ :: _ :: _ :: _ :: _ :: _ :: _ :: _ :: _ :: _ :: _ :: _ :: _ :: _ :: _ :: _ :: _ :: _ :: _ :: _ :: _ :: _ :: _ :: _ :: _ :: _ :: _ :: _ :: _ :: _ :: _ :: _ :: _ :: _ :: _ :: _ :: _ :: _ :: _ :: _ :: []).toArray, defers := _ }) (fun n => [u101, u102, u103, u104, u105, u106, u107, u108, u109, u110, u19, u20].getD n undef) rfl (by kernel_rfl) (Below.drew (Below.refl _ _)) ?step ?fin
                      case step =>
                        intro ix o ho
                        match ix, ho with
                      | 0, ho =>
                        obtain rfl := Option.some.inj ho
                        intro S vs W K hS hD hL hI hK
                        have HK := Lib.hid hK
                        have HI := Lib.hid hI
                        clear hK hD hL hI hS ho
                        dsimp only
                        go_simp
                        have h := HK.out _ _ rfl (HI.out)
                        simp only [upd, Nat.reduceEqDiff, reduceIte] at h
                        exact h
                      | 1, ho =>
                        obtain rfl := Option.some.inj ho
                        intro S vs W K hS hD hL hI hK
                        have HK := Lib.hid hK
                        have HI := Lib.hid hI
                        have e0 : vs 0 = .pointer (some ⟨zl, 0, none⟩) := hD 0 (by rfl)
                        have l0 := (HL0.out W HI.out).1
                        clear hK hD hL hI hS ho
                        dsimp only
                        go_simp
                        have h := HK.out _ _ rfl (HI.out)
                        simp only [upd, Nat.reduceEqDiff, reduceIte, e0] at h
                        exact h
                      | 2, ho =>
                        obtain rfl := Option.some.inj ho
                        intro S vs W K hS hD hL hI hK
                        have HK := Lib.hid hK
                        have HI := Lib.hid hI
                        clear hK hD hL hI hS ho
                        dsimp only
                        go_simp
                        have h := HK.out _ _ rfl (HI.out)
                        simp only [upd, Nat.reduceEqDiff, reduceIte] at h
                        exact h
                      | 3, ho =>
                        obtain rfl := Option.some.inj ho
                        intro S vs W K hS hD hL hI hK
                        have HK := Lib.hid hK
                        have HI := Lib.hid hI
                        have e2 : vs 2 = .pointer (some ⟨zl, 1, none⟩) := hD 2 (by rfl)
                        have l1 := (HL0.out W HI.out).2
                        clear hK hD hL hI hS ho
                        dsimp only
                        go_simp
                        have h := HK.out _ _ rfl (HI.out)
                        simp only [upd, Nat.reduceEqDiff, reduceIte, e2] at h
                        exact h
                      | 4, ho =>
                        obtain rfl := Option.some.inj ho
                        intro S vs W K hS hD hL hI hK
                        have HK := Lib.hid hK
                        have HI := Lib.hid hI
                        have e1 : vs 1 = .int .i64 a0 := hD 1 (by rfl)
                        have e3 : vs 3 = .int .i64 a1 := hD 3 (by rfl)
                        clear hK hD hL hI hS ho
                        dsimp only
                        go_simp
                        have h := HK.out _ _ rfl (HI.out)
                        simp only [upd, Nat.reduceEqDiff, reduceIte, e1, e3] at h
                        exact h
                      | 5, ho =>
                        obtain rfl := Option.some.inj ho
                        intro S vs W K hS hD hL hI hK
                        have HK := Lib.hid hK
                        have HI := Lib.hid hI
                        clear hK hD hL hI hS ho
                        dsimp only
                        go_simp
                        have h := HK.out _ _ rfl (HI.out)
                        simp only [upd, Nat.reduceEqDiff, reduceIte] at h
                        exact h
                      | 6, ho =>
                        obtain rfl := Option.some.inj ho
                        intro S vs W K hS hD hL hI hK
                        have HK := Lib.hid hK
                        have HI := Lib.hid hI
                        have e5 : vs 5 = .pointer (some ⟨zl, 0, none⟩) := hD 5 (by rfl)
                        have l0 := (HL0.out W HI.out).1
                        clear hK hD hL hI hS ho
                        dsimp only
                        go_simp
                        have h := HK.out _ _ rfl (HI.out)
                        simp only [upd, Nat.reduceEqDiff, reduceIte, e5] at h
                        exact h
                      | 7, ho =>
                        obtain rfl := Option.some.inj ho
                        intro S vs W K hS hD hL hI hK
                        have HK := Lib.hid hK
                        have HI := Lib.hid hI
                        clear hK hD hL hI hS ho
                        dsimp only
                        go_simp
                        have h := HK.out _ _ rfl (HI.out)
                        simp only [upd, Nat.reduceEqDiff, reduceIte] at h
                        exact h
                      | 8, ho =>
                        obtain rfl := Option.some.inj ho
                        intro S vs W K hS hD hL hI hK
                        have HK := Lib.hid hK
                        have HI := Lib.hid hI
                        have e7 : vs 7 = .pointer (some ⟨zl, 1, none⟩) := hD 7 (by rfl)
                        have l1 := (HL0.out W HI.out).2
                        clear hK hD hL hI hS ho
                        dsimp only
                        go_simp
                        have h := HK.out _ _ rfl (HI.out)
                        simp only [upd, Nat.reduceEqDiff, reduceIte, e7] at h
                        exact h
                      | 9, ho =>
                        obtain rfl := Option.some.inj ho
                        intro S vs W K hS hD hL hI hK
                        have HK := Lib.hid hK
                        have HI := Lib.hid hI
                        have e6 : vs 6 = .int .i64 a0 := hD 6 (by rfl)
                        have e8 : vs 8 = .int .i64 a1 := hD 8 (by rfl)
                        clear hK hD hL hI hS ho
                        dsimp only
                        go_simp
                        have h := HK.out _ _ rfl (HI.out)
                        simp only [upd, Nat.reduceEqDiff, reduceIte, e6, e8] at h
                        exact h
                      | 10, ho =>
                        obtain rfl := Option.some.inj ho
                        intro S vs W K hS hD hL hI hK
                        have HK := Lib.hid hK
                        have HI := Lib.hid hI
                        have e4 : vs 4 = .int .i64 a0 := hD 4 (by rfl)
                        clear hK hD hL hI hS ho
                        dsimp only
                        go_simp
                        have h := HK.out _ _ rfl (HI.out)
                        simp only [upd, Nat.reduceEqDiff, reduceIte, e4] at h
                        exact h
                      | 11, ho =>
                        obtain rfl := Option.some.inj ho
                        intro S vs W K hS hD hL hI hK
                        have HK := Lib.hid hK
                        have HI := Lib.hid hI
                        have e9 : vs 9 = .int .i64 a1 := hD 9 (by rfl)
                        clear hK hD hL hI hS ho
                        dsimp only
                        go_simp
                        have h := HK.out _ _ rfl (HI.out)
                        simp only [upd, Nat.reduceEqDiff, reduceIte, e9] at h
                        exact h
                      | q + 12, ho => exact absurd ho (by simp)
                      case fin =>
                        intro S vs W hS hR hI
                        have e10 : vs 10 = .int .i64 a0 := hR 10 (by decide)
                        have e11 : vs 11 = .int .i64 a1 := hR 11 (by decide)
                        rw [e10, e11]
                        clear e10 e11 hS hR
                        refine HMK.out _ _ (Met.intro (HJR.out _ _ ?_))
                        (repeat apply Exists.intro)
                        refine ⟨?rel, rfl⟩
                        case rel => exact ⟨a0, a1, rfl, rfl, HKT, hI⟩
                    · have hle01 : a1 ≤ a0 := by omega
                      have hn1 : ¬ a0 < a1 := by omega
                      have hn2 : ¬ a0 ≤ a1 := by omega
                      have hd1 : decide (a0 < a1) = false := decide_eq_false hn1
                      have hd2 : decide (a1 < a0) = true := decide_eq_true hlt01
                      have hd3 : decide (a1 ≤ a0) = true := decide_eq_true hle01
                      have hd4 : decide (a0 ≤ a1) = false := decide_eq_false hn2
                      have hd5 : min a0 a1 = a1 := Int.min_eq_right hle01
                      have hd6 : max a0 a1 = a0 := Int.max_eq_left hle01
                      have HKT : Hid (LowC (prA a) c a1 a0 ∧ 0 ≤ a1 ∧ a1 ≤ 20000) := by
                        have h := HLOW.out
                        rw [Int.min_eq_right hle01, Int.max_eq_left hle01] at h
                        exact ⟨h.1, h.2.1, h.2.2.1⟩
                      refine region_pure hmx (R35_25 zl a0 a1 a1 a0) (fun _ W => Below wr.heap.size wr W) (fun vs => { tmps := (_ :: _ :: _ :: _ :: _ :: _ :: _ :: _ :: _ :: _ :: _ :: _ :: _ :: _ :: _ :: _ :: _ :: _ :: _ :: vs 10 :: vs 11 :: _ :: _ :: _ :: _ :: _ :: _ :: _ :: _ :: _ :: _ :: _ :: _ :: _ :: _ :: _ :: _ :: _ :: _ :: _ :: _ :: _ :: _ :: _ :: _ :: _ :: _ :: _ :: _ :: _ :: _ :: _ :: _ :: _ :: _ :: _ :: _ :: _ :: _ :: _ :: _ :: _ :: _ :: _ :: _ :: _ :: _ :: _ :: _ :: _ :: _ :: _ :: _ :: _ :: _ :: _ :: _ :: _ :: _ :: _ :: _ :: _ :: _ :: _ :: _ :: _ :: _ :: _ :: _ :: _ :: _ :: _ :: _ :: _ :: _ :: _ :: _ :: _ :: _ :: _ :: _ :: vs 0 :: vs 1 :: vs 2 :: vs 3 :: vs 4 :: vs 5 :: vs 6 :: vs 7 :: vs 8 :: vs 9 :: _ :: _ :: _ :: _ :: _ :: _ :: _ :: _ :: _ :: _ :: _ :: _ :: _ :: _ :: _ :: _ :: _ :: _ :: _ :: _ :: _ :: _ :: _ :: _ :: _ :: _ :: _ :: _ :: _ :: _ :: _ :: _ :: _ :: _ :: _ :: _ :: _ :: _ :: _ :: _ :: _ :: _ :: _ :: _ :: _ :: _ :: _ :: _ :: []).toArray, defers := _ }) (fun n => [u101, u102, u103, u104, u105, u106, u107, u108, u109, u110, u19, u20].getD n undef) rfl (by kernel_rfl) (Below.drew (Below.refl _ _)) ?step ?fin
                      case step =>
                        intro ix o ho
                        match ix, ho with
                      | 0, ho =>
                        obtain rfl := Option.some.inj ho
                        intro S vs W K hS hD hL hI hK
                        have HK := Lib.hid hK
                        have HI := Lib.hid hI
                        clear hK hD hL hI hS ho
                        dsimp only
                        go_simp
                        have h := HK.out _ _ rfl (HI.out)
                        simp only [upd, Nat.reduceEqDiff, reduceIte] at h
                        exact h
                      | 1, ho =>
                        obtain rfl := Option.some.inj ho
                        intro S vs W K hS hD hL hI hK
                        have HK := Lib.hid hK
                        have HI := Lib.hid hI
                        have e0 : vs 0 = .pointer (some ⟨zl, 0, none⟩) := hD 0 (by rfl)
                        have l0 := (HL0.out W HI.out).1
                        clear hK hD hL hI hS ho
                        dsimp only
                        go_simp
                        have h := HK.out _ _ rfl (HI.out)
                        simp only [upd, Nat.reduceEqDiff, reduceIte, e0] at h
                        exact h
                      | 2, ho =>
                        obtain rfl := Option.some.inj ho
                        intro S vs W K hS hD hL hI hK
                        have HK := Lib.hid hK
                        have HI := Lib.hid hI
                        clear hK hD hL hI hS ho
                        dsimp only
                        go_simp
                        have h := HK.out _ _ rfl (HI.out)
                        simp only [upd, Nat.reduceEqDiff, reduceIte] at h
                        exact h
                      | 3, ho =>
                        obtain rfl := Option.some.inj ho
                        intro S vs W K hS hD hL hI hK
                        have HK := Lib.hid hK
                        have HI := Lib.hid hI
                        have e2 : vs 2 = .pointer (some ⟨zl, 1, none⟩) := hD 2 (by rfl)
                        have l1 := (HL0.out W HI.out).2
                        clear hK hD hL hI hS ho
                        dsimp only
                        go_simp
                        have h := HK.out _ _ rfl (HI.out)
                        simp only [upd, Nat.reduceEqDiff, reduceIte, e2] at h
                        exact h
                      | 4, ho =>
                        obtain rfl := Option.some.inj ho
                        intro S vs W K hS hD hL hI hK
                        have HK := Lib.hid hK
                        have HI := Lib.hid hI
                        have e1 : vs 1 = .int .i64 a0 := hD 1 (by rfl)
                        have e3 : vs 3 = .int .i64 a1 := hD 3 (by rfl)
                        clear hK hD hL hI hS ho
                        dsimp only
                        go_simp
                        have h := HK.out _ _ rfl (HI.out)
                        simp only [upd, Nat.reduceEqDiff, reduceIte, e1, e3] at h
                        exact h
                      | 5, ho =>
                        obtain rfl := Option.some.inj ho
                        intro S vs W K hS hD hL hI hK
                        have HK := Lib.hid hK
                        have HI := Lib.hid hI
                        clear hK hD hL hI hS ho
                        dsimp only
                        go_simp
                        have h := HK.out _ _ rfl (HI.out)
                        simp only [upd, Nat.reduceEqDiff, reduceIte] at h
                        exact h
                      | 6, ho =>
                        obtain rfl := Option.some.inj ho
                        intro S vs W K hS hD hL hI hK
                        have HK := Lib.hid hK
                        have HI := Lib.hid hI
                        have e5 : vs 5 = .pointer (some ⟨zl, 0, none⟩) := hD 5 (by rfl)
                        have l0 := (HL0.out W HI.out).1
                        clear hK hD hL hI hS ho
                        dsimp only
                        go_simp
                        have h := HK.out _ _ rfl (HI.out)
                        simp only [upd, Nat.reduceEqDiff, reduceIte, e5] at h
                        exact h
                      | 7, ho =>
                        obtain rfl := Option.some.inj ho
                        intro S vs W K hS hD hL hI hK
                        have HK := Lib.hid hK
                        have HI := Lib.hid hI
                        clear hK hD hL hI hS ho
                        dsimp only
                        go_simp
                        have h := HK.out _ _ rfl (HI.out)
                        simp only [upd, Nat.reduceEqDiff, reduceIte] at h
                        exact h
                      | 8, ho =>
                        obtain rfl := Option.some.inj ho
                        intro S vs W K hS hD hL hI hK
                        have HK := Lib.hid hK
                        have HI := Lib.hid hI
                        have e7 : vs 7 = .pointer (some ⟨zl, 1, none⟩) := hD 7 (by rfl)
                        have l1 := (HL0.out W HI.out).2
                        clear hK hD hL hI hS ho
                        dsimp only
                        go_simp
                        have h := HK.out _ _ rfl (HI.out)
                        simp only [upd, Nat.reduceEqDiff, reduceIte, e7] at h
                        exact h
                      | 9, ho =>
                        obtain rfl := Option.some.inj ho
                        intro S vs W K hS hD hL hI hK
                        have HK := Lib.hid hK
                        have HI := Lib.hid hI
                        have e6 : vs 6 = .int .i64 a0 := hD 6 (by rfl)
                        have e8 : vs 8 = .int .i64 a1 := hD 8 (by rfl)
                        clear hK hD hL hI hS ho
                        dsimp only
                        go_simp
                        have h := HK.out _ _ rfl (HI.out)
                        simp only [upd, Nat.reduceEqDiff, reduceIte, e6, e8] at h
                        exact h
                      | 10, ho =>
                        obtain rfl := Option.some.inj ho
                        intro S vs W K hS hD hL hI hK
                        have HK := Lib.hid hK
                        have HI := Lib.hid hI
                        have e4 : vs 4 = .int .i64 a1 := hD 4 (by rfl)
                        clear hK hD hL hI hS ho
                        dsimp only
                        go_simp
                        have h := HK.out _ _ rfl (HI.out)
                        simp only [upd, Nat.reduceEqDiff, reduceIte, e4] at h
                        exact h
                      | 11, ho =>
                        obtain rfl := Option.some.inj ho
                        intro S vs W K hS hD hL hI hK
                        have HK := Lib.hid hK
                        have HI := Lib.hid hI
                        have e9 : vs 9 = .int .i64 a0 := hD 9 (by rfl)
                        clear hK hD hL hI hS ho
                        dsimp only
                        go_simp
                        have h := HK.out _ _ rfl (HI.out)
                        simp only [upd, Nat.reduceEqDiff, reduceIte, e9] at h
                        exact h
                      | q + 12, ho => exact absurd ho (by simp)
                      case fin =>
                        intro S vs W hS hR hI
                        have e10 : vs 10 = .int .i64 a1 := hR 10 (by decide)
                        have e11 : vs 11 = .int .i64 a0 := hR 11 (by decide)
                        rw [e10, e11]
                        clear e10 e11 hS hR
                        refine HMK.out _ _ (Met.intro (HJR.out _ _ ?_))
                        (repeat apply Exists.intro)
                        refine ⟨?rel, rfl⟩
                        case rel => exact ⟨a1, a0, rfl, rfl, HKT, hI⟩
                  case rest =>
                    obtain ⟨kk, tt, rfl, rfl, HKT, HBk⟩ := hcut
                    have hkk0 : 0 ≤ kk := HKT.out.2.1
                    have hkk1 : kk ≤ 20000 := HKT.out.2.2
                    have HWk : Hid (Only (fun q => q = mb ∨ q = g6 ∨ w6.heap.size ≤ q) w6 wc) := HWx.out.trans (Only.of_below HBk.out)
                    have n1 : wc.cell? ⟨zn, 1, none⟩ = some (.int .i64 b') := cell_of_row _ _ 1 _ _ _ ((HWk.out.block zn hzn6 (fun e => by have h4 := HOC.out.lt' g6 rfl; rcases e with e | e | e <;> omega)).trans bn6)
                    have HTM : Hid ((b' + kk).tmod 2 = (b' + kk) % 2) := Int.tmod_eq_emod_of_nonneg (by omega)
                    have htm := HTM.out
                    go_wp2
                    change Code.wp _ _ _ _ (wc.alloc (.cells #[.slice none 0 0, .int .i64 (b' + (b' + kk) % 2)] 65))
                    have HBr : Hid (Below wc.heap.size wc (wc.alloc (.cells #[.slice none 0 0, .int .i64 (b' + (b' + kk) % 2)] 65))) := bel_box _
                    have HRb : Hid ((wc.alloc (.cells #[.slice none 0 0, .int .i64 (b' + (b' + kk) % 2)] 65)).heap[wc.heap.size]? = some (.cells #[.slice none 0 0, .int .i64 (b' + (b' + kk) % 2)] 65 (0, 0))) := heap_alloc_new _ _
                    generalize wc.alloc (.cells #[.slice none 0 0, .int .i64 (b' + (b' + kk) % 2)] 65) = w12 at *
                    clear n1 htm
                    obtain ⟨zr, hzr⟩ : ∃ zr, zr = wc.heap.size := ⟨_, rfl⟩
                    rw [← hzr] at HRb
                    rw [← hzr]
                    have hwk := HWk.out.size
                    have hzr6 : w6.heap.size ≤ zr := by omega
                    have hzr12 : zr < w12.heap.size := (Array.getElem?_eq_some_iff.1 HRb.out).1
                    have HZR := Lib.hid hzr
                    clear hzr hwk
                    have hq0 : 0 ≤ b' + (b' + kk) % 2 := by omega
                    have hq1 : b' + (b' + kk) % 2 ≤ ((num + 1 : Nat) : Int) := by omega
                    have HQB : Hid (b' + (b' + kk) % 2 = qB b' kk) := rfl
                    generalize b' + (b' + kk) % 2 = q at *
                    have hzl12 : zl ≤ zr := by have h1 := HOx.out.size; have h2 := HBk.out.size; have h3 := HZR.out; omega
                    have hw912 : w9.heap.size ≤ w12.heap.size := by have h1 := HOx.out.size; have h2 := HBk.out.size; have h3 := HBr.out.size; omega
                    have hw612 : w6.heap.size ≤ w12.heap.size := by omega
                    have HWz : Hid (Only (fun q => q = mb ∨ q = g6 ∨ w6.heap.size ≤ q) w6 w12) := HWk.out.trans (Only.of_below HBr.out)
                    have HW12 : Hid (Only (fun q => q = mb ∨ zl ≤ q) w9 w12) := ((HOx.out.mono fun q _ e => .inr (by rcases e with e | e <;> omega)).trans (Only.of_below HBk.out)).trans (Only.of_below HBr.out)
                    have hmb9 : mb < zl := by omega
                    have HKe : Hid (MapM w12 mb keys2 f2) := ((HK9.out.only HOx.out (fun e => by rcases e with e | e <;> omega)).below HBk.out).below HBr.out
                    have HPd0 : Hid (JP (tgN a.next) (prA a) (AllM k a) jobs2 keys2 f2 (PRm (prA a) l os (comps.take ci) c 0 tt)) := HPc.out.congr (PRm.zero _)
                    have HOM0 : Hid (OM w12 w12.heap.size (.slice none 0 0) (highsL (prA a) (c.take 0) tt)) := ⟨rfl, .inl ⟨rfl, rfl⟩⟩
                    have HN0 : Hid (keys2.length + (lowsL (prA a) (c.take 0) tt).length ≤ keys2.length) := Nat.le_refl _
                    go_loopg [122] c.length (fun gh i wx => ∃ (x : Nat) (keys3 : List Mv) (f3 : Mv → Int) (vr : Value), gh = c.length - x ∧ i = .int .i64 (x : Int) ∧ x ≤ c.length ∧ Hid (MapM wx mb keys3 f3) ∧ Hid (JP (tgN a.next) (prA a) (AllM k a) jobs2 keys3 f3 (PRm (prA a) l os (comps.take ci) c x tt)) ∧ Hid (keys2.length + (lowsL (prA a) (c.take x) tt).length ≤ keys3.length) ∧
                      Hid (wx.heap[zr]? = some (.cells #[vr, .int .i64 q] 65 (0, 0))) ∧ Hid (OM wx w12.heap.size vr (highsL (prA a) (c.take x) tt)) ∧ Hid (Only (fun q => q = mb ∨ q = zr ∨ w12.heap.size ≤ q) w12 wx))
                    case atStart => exact ⟨0, keys2, f2, _, rfl, rfl, by omega, HKe, HPd0, HN0, HRb, HOM0, Only.refl _ _⟩
                    case round =>
                      clear HKe HPd0 HRb HOM0 HN0 HLx HGX
                      obtain ⟨x, keys3, f3, vr, hgx, rfl, hxc, HKx, HPx, HNx, HRx, HMx, HOy⟩ := hrel
                      have HGX := Lib.hid hgx
                      clear hgx
                      have hk3N : keys3.length ≤ (mvsU k a.next.length 0).length := HPx.out.len fun m => mvsU_mem.symm
                      have HWx : Hid (Only (fun q => q = mb ∨ q = g6 ∨ w6.heap.size ≤ q) w6 wr) := HWz.out.trans (HOy.out.mono fun q _ e => by
                        rcases e with e | e | e
                        · exact .inl e
                        · exact .inr (.inr (by omega))
                        · exact .inr (.inr (by omega)))
                      obtain ⟨ar, cr, hvr⟩ := HMx.out.slice
                      have hyz := HOy.out.size
                      by_cases hlx : x < c.length
                      · as_aux_lemma =>
                        obtain ⟨bL, oL, had, -, hdt⟩ := (HCI.out wr HWx.out).2.dat
                        obtain rfl := had (by omega)
                        obtain ⟨e1, e2⟩ := hdt x hlx
                        have HLOWx : Hid (prA a c[x] < tt → JP (tgN a.next) (prA a) (AllM k a) jobs2 (keys3 ++ [c[x]]) (fun z => if z = c[x] then qB b' kk else f3 z) (PRm (prA a) l os (comps.take ci) c (x + 1) tt) ∧ c[x] ∉ keys3) := fun hp => PRm.low HG6.out HTk.out hcnd.out HKT.out.1 HGO.out hlx hp HPx.out
                        have HHIx : Hid (tt ≤ prA a c[x] → JP (tgN a.next) (prA a) (AllM k a) jobs2 keys3 f3 (PRm (prA a) l os (comps.take ci) c (x + 1) tt)) := fun hp => HPx.out.congr (PRm.skip _ hlx hp)
                        have HNLx : Hid (prA a c[x] < tt → (lowsL (prA a) (c.take (x + 1)) tt).length = (lowsL (prA a) (c.take x) tt).length + 1 ∧ highsL (prA a) (c.take (x + 1)) tt = highsL (prA a) (c.take x) tt) := fun hp => ⟨lowsL_in hlx hp, highsL_out hlx hp⟩
                        have HNHx : Hid (tt ≤ prA a c[x] → (lowsL (prA a) (c.take (x + 1)) tt).length = (lowsL (prA a) (c.take x) tt).length ∧ highsL (prA a) (c.take (x + 1)) tt = highsL (prA a) (c.take x) tt ++ [c[x]]) := fun hp => ⟨lowsL_out hlx hp, highsL_in hlx hp⟩
                        have HAL : Hid (AllM k a c[x]) := (HP1.out.cv _).2 (.inr (.inr (HCSub.out.subset (List.getElem_mem hlx))))
                        clear had hdt HPx
                        generalize c[x] = m at *
                        obtain rfl := HDP.out HX.out.n0
                        obtain ⟨hs1, hs2⟩ := HAL.out
                        have hp0 := HX.out.pr hs1 hs2
                        have hwf : WfM m := by
                          have h1 := HX.out.nx.n3
                          have h2 := HX.out.nx.k6
                          exact ⟨by show m.1 ≤ _; omega, by show m.2 ≤ _; omega⟩
                        obtain ⟨aR, cR, hVs⟩ := (HVP.out m.1 hs1).2.shape
                        rw [HX.out.lr m.1 hs1] at hVs
                        have hir := (HVP.out m.1 hs1).2
                        rw [hVs] at hir
                        obtain ⟨bR, oR, had2, -, hdt2⟩ := hir.dat
                        obtain rfl := had2 (by omega)
                        have r1 := hdt2 m.2 hs2
                        have r0 := (HVP.out m.1 hs1).1
                        rw [hVs] at r0
                        have r1 : w.cell? ⟨bR, oR + m.2, none⟩ = some (.int .i64 (prA a m)) := r1
                        have HBw : Hid (Below w.heap.size w wr) := Only.to_below HB6.out HWx.out (by
                          have h1 := HB6.out.size
                          have h2 := HMBW.out
                          have h3 := HBW0.out
                          have h4 := HOC.out.ge g6 rfl
                          rintro q (e | e | e) <;> omega)
                        have p3 : wr.heap[zp]? = some (.cells #[.int .i64 a.letters, .int .i64 a.start, .slice aN a.next.length cN, .slice (some ⟨bP, oP, none⟩) a.next.length cP] 24 (0, 0)) := (HWx.out.block zp (by omega) (fun e => by have h4 := HOC.out.ge g6 rfl; rcases e with e | e | e <;> omega)).trans bp6
                        have hbx : Below wr.heap.size wr (wr.alloc (.cells #[.int .i64 (m.1 : Int), .int .i64 (m.2 : Int)] 49)) := bel_box _
                        have HBX := Lib.hid (heap_alloc_new wr (.cells #[.int .i64 (m.1 : Int), .int .i64 (m.2 : Int)] 49))
                        have HR0 := Lib.hid (cellB hbx (cellB HBw.out r0))
                        have HR1 := Lib.hid (cellB hbx (cellB HBw.out r1))
                        have HP3 := Lib.hid ((hbx.block _ (Array.getElem?_eq_some_iff.1 p3).1).trans p3)
                        have HRy := Lib.hid ((hbx.block _ (Array.getElem?_eq_some_iff.1 HRx.out).1).trans HRx.out)
                        have HKy := Lib.hid (HKx.out.below hbx)
                        have HMy := Lib.hid (HMx.out.below hbx)
                        have HOz : Hid (Only (fun q => q = mb ∨ q = zr ∨ w12.heap.size ≤ q) w12 (wr.alloc (.cells #[.int .i64 (m.1 : Int), .int .i64 (m.2 : Int)] 49))) := HOy.out.trans (Only.of_below hbx)
                        clear hbx r0 r1 p3 hir hdt2 had2 hVs HKx HMx HRx hp0
                        go_upto_region 30 with (fail)
                        generalize wr.alloc (.cells #[.int .i64 (m.1 : Int), .int .i64 (m.2 : Int)] 49) = w10 at *
                        generalize wr.heap.size = zb at *
                        clear e1 e2
                        have b0 : w10.cell? ⟨zb, 0, none⟩ = some (.int .i64 (m.1 : Int)) := cell_of_row _ _ 0 _ _ _ HBX.out
                        have b1 : w10.cell? ⟨zb, 1, none⟩ = some (.int .i64 (m.2 : Int)) := cell_of_row _ _ 1 _ _ _ HBX.out
                        have p3 : w10.cell? ⟨zp, 3, none⟩ = some (.slice (some ⟨bP, oP, none⟩) a.next.length cP) := cell_of_row _ _ 3 _ _ _ HP3.out
                        have r0 := HR0.out
                        have r1 := HR1.out
                        refine wp_region_quiet_lit (by kernel_rfl) (by kernel_rfl) ?_
                        ((repeat (go_big_quiet_step (fail))); refine wpQuiet_nil ?_; rintro _ ⟨nq, rfl⟩)
                        have HRz : Hid ((w10.drewN nq).heap[zr]? = some (.cells #[vr, .int .i64 q] 65 (0, 0))) := HRy.out
                        have HBXz : Hid ((w10.drewN nq).heap[zb]? = some (.cells #[.int .i64 (m.1 : Int), .int .i64 (m.2 : Int)] 49 (0, 0))) := HBX.out
                        have HKz : Hid (MapM (w10.drewN nq) mb keys3 f3) := HKy.out.below (below_draws _ _ _)
                        have HMz : Hid (OM (w10.drewN nq) w12.heap.size vr (highsL (prA a) (c.take x) tt)) := HMy.out.below (below_draws _ _ _)
                        have HOw : Hid (Only (fun q => q = mb ∨ q = zr ∨ w12.heap.size ≤ q) w12 (w10.drewN nq)) := HOz.out.trans (Only.of_below (below_draws _ _ _))
                        clear b0 b1 p3 r0 r1 HRy HBX HKy HMy HOz
                        generalize w10.drewN nq = w11 at *
                        have b0 : w11.cell? ⟨zb, 0, none⟩ = some (.int .i64 (m.1 : Int)) := cell_of_row _ _ 0 _ _ _ HBXz.out
                        have b1 : w11.cell? ⟨zb, 1, none⟩ = some (.int .i64 (m.2 : Int)) := cell_of_row _ _ 1 _ _ _ HBXz.out
                        have hw11 := HOw.out.size
                        have HHL : Hid ((highsL (prA a) (c.take x) tt).length ≤ 192000) := Nat.le_trans highsL_len hclen
                        generalize hpp : prA a m = p at *
                        clear hpp
                        by_cases hpt : p < tt
                        · have hd : decide (p < tt) = true := decide_eq_true hpt
                          obtain ⟨HPn, hnk⟩ := HLOWx.out hpt
                          obtain ⟨hn1, hn2⟩ := HNLx.out hpt
                          have HPn : Hid (JP (tgN a.next) (prA a) (AllM k a) jobs2 (keys3 ++ [m]) (fun z => if z = m then q else f3 z) (PRm (prA a) l os (comps.take ci) c (x + 1) tt)) := by rw [HQB.out]; exact HPn
                          have hq64 : I64 q := by unfold I64; omega
                          obtain ⟨w13, hup, hmp, hgr⟩ := HKz.out.upd hwf hnk (by omega) hq64
                          replace hup : (Instr.mapUpdate 46 (.map (some mb)) (.agg #[.int .i64 (m.1 : Int), .int .i64 (m.2 : Int)]) (.int .i64 q)).run Try.prog w11 = .ok () w13 := hup
                          have HKn := Lib.hid hmp
                          have hmbw : mb < w12.heap.size := by omega
                          have HMn : Hid (OM w13 w12.heap.size vr (highsL (prA a) (c.take (x + 1)) tt)) := by
                            show OM _ _ _ _
                            rw [hn2]
                            exact HMz.out.only (Only.of_grown hgr) fun q hq e => by
                              have h1 := HMz.out.ge q hq
                              have h2 : mb = q := Option.some.inj e
                              omega
                          have HRn : Hid (w13.heap[zr]? = some (.cells #[vr, .int .i64 q] 65 (0, 0))) := ((Only.of_grown hgr).block zr (by omega) (fun e => by have h2 : mb = zr := Option.some.inj e; omega)).trans HRz.out
                          have HOn : Hid (Only (fun q => q = mb ∨ q = zr ∨ w12.heap.size ≤ q) w12 w13) := HOw.out.trans ((Only.of_grown hgr).mono fun q _ e => .inl (Option.some.inj e).symm)
                          have HNn : Hid (keys2.length + (lowsL (prA a) (c.take (x + 1)) tt).length ≤ (keys3 ++ [m]).length) := by
                            show _ ≤ _
                            rw [hn1, List.length_append, List.length_singleton]
                            have := HNx.out
                            omega
                          clear hmp hgr hwf hnk hn1 hn2 hq64
                          have n1 : w11.cell? ⟨zr, 1, none⟩ = some (.int .i64 q) := cell_of_row _ _ 1 _ _ _ HRz.out
                          go_wp2
                          go_roundg (c.length - (x + 1))
                          case measure => have := HGX.out; omega
                          case rel => exact ⟨x + 1, _, _, vr, rfl, by go_num, by omega, HKn, HPn, HNn, HRn, HMn, HOn⟩
                        · have hd : decide (p < tt) = false := decide_eq_false hpt
                          have HPn := Lib.hid (HHIx.out (by omega))
                          obtain ⟨hn1, hn2⟩ := HNHx.out (by omega)
                          have HNn : Hid (keys2.length + (lowsL (prA a) (c.take (x + 1)) tt).length ≤ keys3.length) := by
                            show _ ≤ _
                            rw [hn1]
                            exact HNx.out
                          have HN2 := Lib.hid hn2
                          clear hn1 hn2 hwf
                          have hln := HHL.out
                          generalize highsL (prA a) (c.take x) tt = rl at *
                          subst hvr
                          have hOM := HMz.out
                          have n0 : w11.cell? ⟨zr, 0, none⟩ = some (.slice ar rl.length cr) := cell_of_row _ _ 0 _ _ _ HRz.out
                          have hzr11 : zr < w11.heap.size := by omega
                          go_wp2_with (at_builtin; refine app_mv rfl _ _ m rfl w12.heap.size _ _ hOM rfl _ (by simp) rfl (by omega) (by omega) ?_; intro v' w' hown' hg hmv; obtain ⟨ao', cap', hv'⟩ := hown'.slice; rw [List.length_append, List.length_singleton] at hv'; subst hv'; have HM' := Lib.hid hown'; have HG := Lib.hid hg; have hr' := ((Only.of_grown hg).block zr hzr11 (fun e => by have h1 := hOM.ge zr e; omega)).trans HRz.out; have HR' := Lib.hid hr'; have k2 := cell_of_row _ _ 0 _ _ _ hr'; have f2 := frozen_of_row _ _ 0 _ _ hr'; clear hown' hg hmv hOM n0 hr')
                          have HRn : Hid ((w'.setCell ⟨zr, 0, none⟩ (.slice ao' (rl.length + 1) cap')).heap[zr]? = some (.cells #[.slice ao' (rl.length + 1) cap', .int .i64 q] 65 (0, 0))) := heap_setCell_same _ _ 0 _ _ _ HR'.out
                          have HMn : Hid (OM (w'.setCell ⟨zr, 0, none⟩ (.slice ao' (rl.length + 1) cap')) w12.heap.size (.slice ao' (rl.length + 1) cap') (highsL (prA a) (c.take (x + 1)) tt)) := by
                            show OM _ _ _ _
                            rw [HN2.out]
                            exact HM'.out.only (Only.set (S := fun q => q = zr) _ _ _ rfl) fun q hq e => by
                              have h1 := HM'.out.ge q hq
                              omega
                          have HO1 : Hid (Only (fun q => q = zr ∨ w12.heap.size ≤ q) w11 (w'.setCell ⟨zr, 0, none⟩ (.slice ao' (rl.length + 1) cap'))) := ((Only.of_grown HG.out).mono fun q _ e => .inr (HMz.out.ge q e)).trans (Only.set _ _ _ (.inl rfl))
                          have HKn : Hid (MapM (w'.setCell ⟨zr, 0, none⟩ (.slice ao' (rl.length + 1) cap')) mb keys3 f3) := HKz.out.only HO1.out fun e => by rcases e with e | e <;> omega
                          have HOn : Hid (Only (fun q => q = mb ∨ q = zr ∨ w12.heap.size ≤ q) w12 (w'.setCell ⟨zr, 0, none⟩ (.slice ao' (rl.length + 1) cap'))) := HOw.out.trans (HO1.out.mono fun q _ e => .inr e)
                          clear k2 f2 HR' HM' HG
                          go_roundg (c.length - (x + 1))
                          case measure => have := HGX.out; omega
                          case rel => exact ⟨x + 1, _, _, _, rfl, by go_num, by omega, HKn, HPn, HNn, HRn, HMn, HOn⟩
                      · as_aux_lemma =>
                        obtain rfl : x = c.length := by omega
                        rw [List.take_length] at HNx HMx hvr
                        have hpos := lowsL_pos HKT.out.1
                        have hk3 : keys.length + os.length + (ci + 1) ≤ keys3.length := by have := HNx.out; omega
                        have HOz : Hid (Only (fun q => q = mb ∨ q = g6 ∨ w6.heap.size ≤ q) w6 wr) := HWx.out
                        have HJ3 : Hid (OJ wr B u6 jl2 ∧ JsM A mb u6 wr jl2 jobs2) := HT9.out wr (HW12.out.trans (HOy.out.mono fun q _ e => by
                          rcases e with e | e | e
                          · exact .inl e
                          · exact .inr (by omega)
                          · exact .inr (by omega)))
                        by_cases hrs : highsL (prA a) c tt = []
                        · have HPn : Hid (JP (tgN a.next) (prA a) (AllM k a) jobs2 keys3 f3 (fun m => m ∈ l ∧ m ∉ os ∧ ∀ d ∈ comps.take (ci + 1), m ∉ d)) := HPx.out.congr (PRm.none HTk.out hrs)
                          rw [hrs] at hvr
                          subst hvr
                          have n0 : wr.cell? ⟨zr, 0, none⟩ = some (.slice ar 0 cr) := cell_of_row _ _ 0 _ _ _ HRx.out
                          have HJ3a : Hid (OJ wr B u6 jl2) := HJ3.out.1
                          have HJ3b : Hid (JsM A mb u6 wr jl2 jobs2) := HJ3.out.2
                          clear hrs HPx HNx HRx HMx
                          go_wp2
                          go_roundg (comps.length - (ci + 1))
                          case measure => have := HGC2.out; omega
                          case rel => exact ⟨ci + 1, keys3, f3, jobs2, jl2, rfl, by go_num, by omega, HKx, HPn, hk3, HJ3a, HJ3b, HQc, by omega, HGc, HOz⟩
                        · have HPn : Hid (JP (tgN a.next) (prA a) (AllM k a) (jobs2 ++ [(highsL (prA a) c tt, q)]) keys3 f3 (fun m => m ∈ l ∧ m ∉ os ∧ ∀ d ∈ comps.take (ci + 1), m ∉ d)) := by
                            rw [HQB.out]
                            exact PRm.push HG6.out HTk.out hcnd.out HKT.out.1 HGO.out hrs HPx.out
                          have hrl : 0 < (highsL (prA a) c tt).length := List.length_pos_iff.2 hrs
                          have hrl2 : (highsL (prA a) c tt).length ≤ 192000 := by
                            have := highsL_len (pr := prA a) (c := c) (x := c.length) (tt := tt)
                            rw [List.take_length] at this
                            omega
                          generalize highsL (prA a) c tt = rs at *
                          subst hvr
                          have n0 : wr.cell? ⟨zr, 0, none⟩ = some (.slice ar rs.length cr) := cell_of_row _ _ 0 _ _ _ HRx.out
                          have n1 : wr.cell? ⟨zr, 1, none⟩ = some (.int .i64 q) := cell_of_row _ _ 1 _ _ _ HRx.out
                          have hOJ := HJ3.out.1
                          have hjlb : jl2.length < 4000000000000 := by have := HJL.out; omega
                          have hBw : B ≤ wr.heap.size := by have := HOC.out.ge g6 rfl; have := HOC.out.lt' g6 rfl; omega
                          have hdr : decide ((0 : Int) < (rs.length : Int)) = true := decide_eq_true (by omega)
                          have hdn : decide (0 < rs.length) = true := decide_eq_true hrl
                          clear hrs HPx HNx hpos
                          go_wp2_with (at_builtin; refine app_job rfl _ _ (.slice ar rs.length cr) q rfl rfl B _ _ hOJ rfl _ (by simp) rfl hjlb hBw ?_; intro v' w' hown' hg hmv; have HO' := Lib.hid hown'; have HG := Lib.hid hg; have HMV := Lib.hid hmv; clear hown' hg hmv hOJ n0 n1 hBw)
                          have HOw : Hid (Only (fun q => u6.ownBlock = some q) wr w') := Only.of_grown HG.out
                          have HKn : Hid (MapM w' mb keys3 f3) := HKx.out.only HOw.out fun e => by have := (HOu.out _ e).1; omega
                          have HOn : Hid (Only (fun q => q = mb ∨ q = g6 ∨ w6.heap.size ≤ q) w6 w') := HOz.out.trans (HOw.out.mono fun q _ e => .inr (HGc.out q e))
                          have HGn : Hid (∀ q, v'.ownBlock = some q → q = g6 ∨ w6.heap.size ≤ q) := fun q hq => (HMV.out q hq).elim (fun e => HGc.out q e) fun e => .inr (by omega)
                          have HQn : Hid (∀ x ∈ jobs2 ++ [(rs, q)], 0 ≤ x.2 ∧ x.2 ≤ ((num + 1 : Nat) : Int)) := fun x hx => by
                            rcases List.mem_append.1 hx with h | h
                            · exact HQc.out x h
                            · rw [List.mem_singleton.1 h]; exact ⟨hq0, hq1⟩
                          have HLn : Hid ((jobs2 ++ [(rs, q)]).length ≤ jobs.length + (ci + 1)) := by show _ ≤ _; rw [List.length_append, List.length_singleton]; omega
                          have HJn : Hid (JsM A mb v' w' (jl2 ++ [(.slice ar rs.length cr, q)]) (jobs2 ++ [(rs, q)])) := by
                            refine (HJ3.out.2.move (HOw.out.mono fun q _ e => .inr (.inr (.inr (.inl e)))) (v' := v') HMV.out).add rfl fun W' hW => ?_
                            refine OM.is (bs := w12.heap.size) ((HMx.out.only HOw.out fun q hq e => ?_).only hW fun q hq e => ?_) (by unfold maxN; omega)
                            · have h1 := HMx.out.ge q hq
                              have h2 := (HOu.out q e).2
                              omega
                            · have h1 := HMx.out.ge q hq
                              have h2 := HMx.out.lt' q hq
                              have h3 := HOC.out.ge g6 rfl
                              have h4 := HOC.out.lt' g6 rfl
                              have h5 := HOw.out.size
                              rcases e with e | e | e | e | e
                              · exact (HHot.out q (by omega)).1 e
                              · exact (HHot.out q (by omega)).2 e
                              · omega
                              · rcases HMV.out q e with e | e
                                · have h6 := (HOu.out q e).2
                                  omega
                                · omega
                              · omega
                          go_roundg (comps.length - (ci + 1))
                          case measure => have := HGC2.out; omega
                          case rel => exact ⟨ci + 1, keys3, f3, _, _, rfl, by go_num, by omega, HKn, HPn, hk3, HO', HJn, HQn, HLn.out, HGn, HOn⟩
            · obtain rfl : ci = comps.length := by omega
              rw [List.take_length] at HPc
              have hpos : 0 < os.length + comps.length := by
                obtain ⟨m0, hm0⟩ := List.exists_mem_of_ne_nil _ HLne.out
                by_cases ho : OnC (tgN a.next) (· ∈ l) m0
                · obtain ⟨c, hc, -⟩ := HG6.out.cv m0 ho
                  have := List.length_pos_of_mem hc
                  omega
                · have := List.length_pos_of_mem ((HG6.out.ot m0).2 ⟨hm0, ho⟩)
                  omega
              have hjl3 := HJL.out
              have HN : Hid (LS A w B zp mb k a #[.int .i64 a.letters, .int .i64 a.start, .slice aN a.next.length cN, .slice aP a.next.length cP] wr u6 jl2 jobs2 keys2 f2 st6 F6 (num + 1)) := by
                have hg6 : B ≤ g6 := HOC.out.ge g6 rfl
                have hws := HWc.out.size
                have hlo := HA.out.lo
                refine ⟨Only.to_below HB6.out HWc.out (by
                  have h1 := HB6.out.size
                  have h2 := HMBW.out
                  have h3 := HSr.out.hb.size
                  rintro q (e | e | e)
                  · omega
                  · have := HOC.out.ge g6 rfl; have := HBW0.out; omega
                  · omega), (HWc.out.block zp (by omega) (fun e => by rcases e with e | e | e <;> omega)).trans bp6, HM6.out.only HWc.out (fun e => by rcases e with e | e | e <;> omega) (fun e => by rcases e with e | e | e <;> omega) (fun x e => by
                    have h1 := hlt.2.2.2.2.2.1 x
                    rcases e with e | e | e
                    · exact hne.2.2.2.1 ⟨x, e.symm⟩
                    · omega
                    · omega) (fun j hj e => by
                    have h1 := hlt.2.2.2.2.2.2 j hj
                    rcases e with e | e | e
                    · exact hne.2.2.2.2.1 ⟨j, hj, e.symm⟩
                    · omega
                    · omega), fun i j hi hj => Nat.lt_succ_of_le (HS6.out i j hi hj), HKc.out, HOc.out, HJc.out, HPc.out.congr fun m => ⟨fun ⟨h1, h2, h3⟩ => ?_, fun h => h.elim⟩, HQc.out, by omega, by omega, ⟨hlt.1, hlt.2.1, by omega, hlt.2.2.2⟩, hne⟩
                by_cases ho : OnC (tgN a.next) (· ∈ l) m
                · obtain ⟨c, hc, hm⟩ := HG6.out.cv m ho
                  exact h3 c hc hm
                · exact h2 ((HG6.out.ot m).2 ⟨h1, ho⟩)
              go_wp2
              go_roundg ((mvsU k a.next.length 0).length - keys2.length)
              case measure => have := HGK.out; omega
              case rel => exact ⟨jl2, jobs2, keys2, f2, st6, F6, num + 1, rfl, by go_num, HN⟩

end Go.Proofs.Ytdkpdpcecjcmcaa
