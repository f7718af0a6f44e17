/- The run of a climb: the least measure. -/
import Derived.Test.YtijkjhcigdfdgaaQRkW16
namespace Go.Proofs.Ytijkjhcigdfdgaa
open Go.RowKit

/-- What run leaves. -/
def RunOut (w : World) (ba n : Nat) (g : Gm) (mo : List Nat) (e : Ending) (w' : World) : Prop := ∃ f, e = .returned (.tuple #[]) ∧ LeastP g n mo f ∧ OC w' 0 (.slice (some ⟨ba, 0, none⟩) n n) (fL f n) ∧ Only (fun k => k = ba ∨ w.heap.size ≤ k) w w'
def rangeI (n : Nat) : List Int := (List.range n).map fun (v : Nat) => (v : Int)
theorem rangeI_len (n : Nat) : (rangeI n).length = n := by simp [rangeI]
theorem rangeI_snoc (n : Nat) : rangeI (n + 1) = rangeI n ++ [(n : Int)] := by simp [rangeI, List.range_succ]
theorem rangeI_not (n : Nat) : (n : Int) ∉ rangeI n := fun h => by
  obtain ⟨v, hv, e⟩ := List.mem_map.1 h
  have := List.mem_range.1 hv
  omega
theorem drop_cons {l : List Int} {k : Nat} (h : k < l.length) : l.drop k = l.getD k 0 :: l.drop (k + 1) := by rw [List.drop_eq_getElem_cons h, getD_lt _ _ _ h]

set_option maxRecDepth 100000 in
set_option maxHeartbeats 16000000 in
theorem crun_c (w : World) (z ba n : Nat) (v0 v1 v2 v3 vu vb : Value) (Vb : Nat → Value) (g : Gm) (mo : List Nat) (bf : List (List Int)) (hC : ∀ W, Only (fun k => k = ba ∨ w.heap.size ≤ k) w W → CX W z ba n v0 v1 v2 v3 vu vb Vb g mo bf) (hA : OC w 0 (.slice (some ⟨ba, 0, none⟩) n n) (List.replicate n 0)) (hba : ba < w.heap.size)
    (hE : RE g n) (h1 : g.owner.length = n) (h2 : g.prio.length = n) (h3 : g.succ.length = n) (hn : n ≤ 3000) (hT : topN mo ≤ 2000000) (hq : ∀ v, v < n → pri g v = (prN g v : Int) ∧ prN g v ≤ 30001) (hp : ∀ v, v < n → partN (prN g v) ≤ mo.length)
    (hbm : ∀ u v, u < n → v < n → Edge g v u → (v : Int) ∈ bf.getD u []) (hbr : ∀ u, u < n → ∀ x ∈ bf.getD u [], ∃ v : Nat, x = (v : Int) ∧ v < n) (hbn : ∀ u, (bf.getD u []).length ≤ 3000000) :
    Calls Try.prog 36 #[.pointer (some ⟨z, 0, none⟩)] w (RunOut w ba n g mo) := by
  have HMM := @run_makeMap Try.prog
  have HC : Hid (∀ W, Only (fun k => k = ba ∨ w.heap.size ≤ k) w W → CX W z ba n v0 v1 v2 v3 vu vb Vb g mo bf) := hC
  have HE := Lib.hid hE
  have HNC : Hid (∀ W Bx f ml vx nx u, RS w W ba n Bx f ml vx nx → (∀ v, v < n → f v ≤ topN mo) → u < n → Calls Try.prog 51 #[.pointer (some ⟨z, 0, none⟩), .int .i64 (u : Int)] W (Quiet (.int .i64 (needN g mo f u : Int)) W)) := fun W Bx f ml vx nx u hR hf hu => by
    have hX := hC W hR.o
    have hA := hR.at hn fun v hv => Nat.le_trans (hf v hv) hT
    exact need_c W z u n v0 v1 v2 v3 vu _ vb g mo (fL f n) f hX.box hX.g hX.u hA hE h1 h2 h3 fL_len hu (fun i hi => fL_at hi) hT hf (hq u hu) (hp u hu)
  have HAC : Hid (∀ W Bx f ml vx nx m v, RS w W ba n Bx f ml vx nx → m ≤ topN mo → v < n → ∀ q, Calls Try.prog 53 #[.pointer (some ⟨z, 0, none⟩), .int .i64 (m : Int), .int .i64 (prN g v : Int)] (W.drewN q) (Quiet (.int .i64 (alongN mo m (prN g v) : Int)) (W.drewN q))) := fun W Bx f ml vx nx m v hR hm hv q => by
    have hX := hC (W.drewN q) (hR.o.trans (Only.of_below (below_draws _ _ q)))
    exact calong_c (W.drewN q) z v0 v1 v2 v3 vu _ vb mo m (prN g v) hX.box hX.u hT hm (hq v hv).2 (hp v hv)
  have HPR : Hid (∀ v, v < n → g.prio.getD v 0 = (prN g v : Int)) := fun v hv => (hq v hv).1
  have HLE : Hid (∀ f, Und g n mo f → ∀ v, v < n → f v ≤ topN mo) := fun f hf v hv => hf.le hE hv
  have HNT : Hid (∀ f, Und g n mo f → ∀ v, v < n → needN g mo f v ≤ topN mo) := fun f hf v hv => need_le hE (fun v hv => hf.le hE hv) hv
  have HBM : Hid (∀ u v, u < n → v < n → Edge g v u → (v : Int) ∈ bf.getD u []) := hbm
  have HBR : Hid (∀ u, u < n → ∀ x ∈ bf.getD u [], ∃ v : Nat, x = (v : Int) ∧ v < n) := hbr
  have HBN : Hid (∀ u, (bf.getD u []).length ≤ 3000000) := hbn
  have hX0 := hC w (Only.refl _ _)
  have q5 := cell_of_row _ _ 5 _ _ _ hX0.box
  obtain ⟨pa, pc, hpv⟩ := hX0.g.parts3.2.1.shape
  rw [h2] at hpv
  subst hpv
  have HG1 : Hid (∀ W, Only (fun k => k = ba ∨ w.heap.size ≤ k) w W → W.cell? ⟨z, 1, none⟩ = some (.slice pa n pc) ∧ W.cell? ⟨z, 5, none⟩ = some (.slice (some ⟨ba, 0, none⟩) n n) ∧ W.cell? ⟨z, 6, none⟩ = some vb ∧ IsInts W (.slice pa n pc) g.prio ∧ IsArr W vb n Vb ∧ ∀ j, j < n → IsInts W (Vb j) (bf.getD j [])) := fun W hW => by
    have hX := hC W hW
    exact ⟨cell_of_row _ _ 1 _ _ _ hX.box, cell_of_row _ _ 5 _ _ _ hX.box, cell_of_row _ _ 6 _ _ _ hX.box, hX.g.parts3.2.1, hX.b⟩
  have HPL := Lib.hid h2
  have HTT := Lib.hid hT
  have HA := Lib.hid hA
  clear hC hE hq hp hbm hbr hbn hX0 h1 h2 h3 hT hA
  have HS0 : Hid (RS w (w.alloc (.map #[] 0)) ba n (w.heap.size + 1) (fun _ => 0) (rangeI 0) (.slice none 0 0) (rangeI 0)) := by
    have hb := bel_box (w := w) (.map #[] 0)
    exact ⟨Only.of_below hb, by rw [← fL_zero]; exact HA.out.below hb, SetL.made w, OI_nil _ _, by simp⟩
  have q5' := cellB (bel_box (w := w) (.map #[] 0)) q5
  go_enter Try.func36, Try.ntmps36
  go_upto_region 1 with (fail)
  clear HMM q5
  generalize w.alloc (.map #[] 0) = w1 at *
  go_upto_block 0 with (fail)
  clear q5'
  go_cut [3] (fun x wx => Hid (RS w wx ba n (w.heap.size + 1) (fun _ => 0) (rangeI n) x (rangeI n)))
  case first =>
    go_wp2_with fail
    go_loopg [3, 17] n (fun gh x i wr => ∃ k : Nat, gh = n - k ∧ i = .int .i64 (k : Int) ∧ k ≤ n ∧ Hid (RS w wr ba n (w.heap.size + 1) (fun _ => 0) (rangeI k) x (rangeI k)))
    case atStart => exact ⟨0, rfl, rfl, by omega, HS0⟩
    case round =>
      clear HS0
      obtain ⟨k, hgk, rfl, hk, HR⟩ := hrel
      have HGK := Lib.hid hgk
      clear hgk
      by_cases hlt : k < n
      · as_aux_lemma =>
        have i1 : (k : Int) < (n : Int) := by omega
        obtain ⟨w2, hrun, hm2, hg2⟩ := HR.out.m.add (y := (k : Int)) (by unfold I64; omega) (rangeI_not k) (by rw [rangeI_len]; omega)
        have HR2 := Lib.hid (HR.out.map hba hm2 hg2)
        have hln : (rangeI k).length < 17592186043904 := by rw [rangeI_len]; omega
        have hbs : w.heap.size + 1 ≤ w2.heap.size := HR2.out.bx.2
        have HX2 := Lib.hid HR2.out.x
        clear hm2 hg2
        go_wp2_with (at_builtin; refine app_int rfl _ _ (k : Int) rfl (w.heap.size + 1) _ _ HX2.out rfl _ (by simp) rfl hln hbs ?_; intro v' w' hown' hg hmv)
        have HR3 := Lib.hid (HR2.out.push hba hown' hg)
        clear hg hmv hrun
        go_roundg (n - (k + 1))
        case measure => have := HGK.out; omega
        case rel => exact ⟨k + 1, rfl, by go_num, by omega, by rw [rangeI_snoc]; exact HR3⟩
      · as_aux_lemma =>
        obtain rfl : k = n := by omega
        have i1 : ¬ (k : Int) < (k : Int) := by omega
        go_wp2_with fail
        go_meet
        case rel => exact HR
  case rest =>
    have HR := hcut
    clear hcut HS0
    have HRO : Hid (RO g n mo (fun _ => 0) (rangeI n)) := RO.start HE.out
    have HL0 := Lib.hid (rangeI_len n)
    obtain ⟨l0, hl0⟩ : ∃ l0, rangeI n = l0 := ⟨_, rfl⟩
    rw [hl0] at HR HRO HL0
    clear hl0 HL0
    go_upto_region 8 with (fail)
    obtain ⟨a3, c3, rfl⟩ := HR.out.x.slice
    go_loopg [3] (leftR mo (fun _ => 0) n l0) (fun gh x wr => ∃ (f : Nat → Nat) (l : List Int) (Bx : Nat) (ao : Option Addr) (co : Nat), gh = leftR mo f n l ∧ x = .slice ao l.length co ∧ Hid (RO g n mo f l) ∧ Hid (RS w wr ba n Bx f l (.slice ao l.length co) l))
    case atStart => exact ⟨_, l0, _, _, _, rfl, rfl, HRO, HR⟩
    case round =>
      clear HRO HR
      obtain ⟨f, l, Bx, ao, co, hgk, rfl, HRO, HR⟩ := hrel
      have HGK := Lib.hid hgk
      clear hgk
      have hln := HRO.out.len
      by_cases hl : l = []
      · as_aux_lemma =>
        subst hl
        have HLP := Lib.hid (HRO.out.done HE.out)
        have t1 : ¬ (0 : Int) < (([] : List Int).length : Int) := by simp
        go_wp2
        refine bodyPost_end (results_none rfl _ _ _) rfl ?_
        exact ⟨f, rfl, HLP.out, HR.out.a, HR.out.o⟩
      · as_aux_lemma =>
        have hlp : 0 < l.length := List.length_pos_iff.2 hl
        have t1 : (0 : Int) < (l.length : Int) := by omega
        have t2 : decide (0 < l.length) = true := decide_eq_true hlp
        have HU0 := Lib.hid HRO.out.und
        have HLL := Lib.hid hl
        have HI0 := Lib.hid (HR.out.is (by omega) HRO.out.rg hn)
        obtain ⟨bl, ol, dl, nl, fl⟩ := HI0.out.dat
        obtain rfl := dl hlp
        have HFL := Lib.hid fl
        have HR1 := Lib.hid HR.out.fresh
        have HRI : Hid (RI g n mo f f (l.drop 0) []) := HRO.out.begin
        have HRG := Lib.hid HRO.out.rg
        -- the row of those that wait now lies below
        have hrow := HR.out.x.row hlp
        obtain ⟨gl, cl, e1, hgl, hgs⟩ := hrow
        obtain ⟨e2, -, e3⟩ : (some (⟨bl, ol, none⟩ : Addr)) = some ⟨gl, 0, none⟩ ∧ True ∧ co = cl := by
          injection e1 with x1 x2 x3
          exact ⟨x1, trivial, x3⟩
        obtain ⟨rfl, rfl⟩ : bl = gl ∧ ol = 0 := by injection e2 with e2; injection e2 with x1 x2; exact ⟨x1, x2⟩
        have hxb := HR.out.bx
        have HFW : Hid (∀ W j, Only (fun k => k = ba ∨ k = w.heap.size ∨ wr.heap.size ≤ k) wr W → j < l.length → W.cell? ⟨bl, 0 + j, none⟩ = some (.int .i64 (l.getD j 0))) := fun W j hW hj => by
          have hb : W.heap[bl]? = wr.heap[bl]? := hW.block bl hgs (by omega)
          have := HFL.out j hj
          unfold World.cell? at this ⊢
          simp only [hb] at *
          exact this
        clear hl hgl e1 e2 e3 fl dl hxb HI0 HRO HFL hgs
        obtain ⟨w2, rfl⟩ : ∃ w2, w2 = wr := ⟨_, rfl⟩
        have HSZ := Lib.hid HR.out.bx
        clear HR
        go_wp2_with fail
        have HRs : Hid (RS w w2 ba n w2.heap.size f (l.drop 0 ++ []) (.slice none ([] : List Int).length 0) []) := by show RS _ _ _ _ _ _ _ _ _; rw [List.append_nil]; exact HR1.out
        clear HR1
        go_loopg [3, 33] l.length (fun gh x i wr => ∃ (k : Nat) (f1 : Nat → Nat) (nx : List Int) (ao : Option Addr) (co : Nat), gh = l.length - k ∧ i = .int .i64 (k : Int) ∧ x = .slice ao nx.length co ∧ k ≤ l.length ∧ Hid (RI g n mo f f1 (l.drop k) nx) ∧ Hid (RS w wr ba n w2.heap.size f1 (l.drop k ++ nx) (.slice ao nx.length co) nx) ∧ Hid (Only (fun k => k = ba ∨ k = w.heap.size ∨ w2.heap.size ≤ k) w2 wr))
        case atStart => exact ⟨0, f, [], none, 0, rfl, rfl, rfl, by omega, HRI, HRs, Only.refl _ _⟩
        case round =>
          clear HRs HRI
          obtain ⟨k, f1, nx, ao, ca, hgk, rfl, rfl, hk, HRI, HR, HO⟩ := hrel
          have HGM := Lib.hid hgk
          clear hgk
          by_cases hlt : k < l.length
          · as_aux_lemma =>
            have i1 : (k : Int) < (l.length : Int) := by omega
            obtain ⟨u, hu, hun⟩ := HRG.out (l.getD k 0) (by rw [getD_lt _ _ _ hlt]; exact List.getElem_mem hlt)
            have e1 := HFW.out wr k HO.out hlt
            rw [hu, Nat.zero_add] at e1
            have HDR : Hid (l.drop k = (u : Int) :: l.drop (k + 1)) := by show _ = _; rw [drop_cons hlt, hu]
            rw [HDR.out] at HRI HR
            clear hu
            generalize hrest : l.drop (k + 1) = rest at *
            have HREST := Lib.hid hrest
            clear hrest
            have hnd : (u : Int) ∉ rest ++ nx := (List.nodup_cons.1 HRI.out.o.nd).1
            obtain ⟨w3, hdel, hm3, hg3⟩ := SetL.del (w := wr) (b := w.heap.size) (l := rest ++ nx) HR.out.m (by unfold I64; omega) hnd 0
            have HR3 := Lib.hid (HR.out.map hba hm3 hg3)
            have HO3 : Hid (Only (fun k => k = ba ∨ k = w.heap.size ∨ w2.heap.size ≤ k) w2 w3) := HO.out.trans ((Only.of_grown hg3).mono fun k _ e => .inr (.inl (by cases e; rfl)))
            have HU1 := Lib.hid HRI.out.o.und
            have HND := Lib.hid hnd
            clear hm3 hg3 hnd HR HO
            have i2 : (u : Int) < (n : Int) := by omega
            go_upto_region 15 with (fail)
            clear hdel e1
            obtain ⟨-, q5, q6, -, -⟩ := HG1.out w3 HR3.out.o
            go_wp2_with fail
            refine (HNC.out w3 _ f1 _ _ _ u HR3.out (HLE.out f1 HU1.out) hun).mono ?_
            rintro e w4 ⟨rfl, n4, hw4⟩
            have hb4 : Below w3.heap.size w3 w4 := by rw [hw4]; exact below_draws _ _ _
            have HR4 := Lib.hid (HR3.out.below hb4)
            have HO4 : Hid (Only (fun k => k = ba ∨ k = w.heap.size ∨ w2.heap.size ≤ k) w2 w4) := HO3.out.trans (Only.of_below hb4)
            have q5' := cellB hb4 q5
            clear hb4 hw4 q5 q6 HR3 HO3
            have c1 := HR4.out.a.at' fL_len.symm u (by rw [fL_len]; exact hun)
            rw [fL_at hun] at c1
            have f1' := HR4.out.a.fz fL_len.symm u
            have HMT := Lib.hid (HNT.out f1 HU1.out u hun)
            by_cases hc : f1 u < needN g mo f1 u
            · as_aux_lemma =>
              have HBF : Hid (∀ W, Calls Try.prog 52 #[.int .i64 (f1 u : Int), .int .i64 (needN g mo f1 u : Int)] W (Quiet (.bool true) W)) := fun W => by
                have := befC_c W (f1 u : Int) (needN g mo f1 u : Int)
                rwa [decide_eq_true (by omega)] at this
              have HJ := Lib.hid (HRI.out.raise HE.out hun hc (fun v hv he => HBM.out u v hun hv he))
              obtain ⟨m, hm⟩ : ∃ m, needN g mo f1 u = m := ⟨_, rfl⟩
              rw [hm] at HBF HJ HMT
              rw [hm]
              obtain ⟨f2, hf2⟩ : ∃ f2 : Nat → Nat, f2 = fun x => if x = u then m else f1 x := ⟨_, rfl⟩
              rw [← hf2] at HJ
              have HF2 := Lib.hid hf2
              clear hc hf2 HRI
              clear hm
              generalize f1 u = fu at *
              go_upto_region 16 with (fail)
              go_wp2_with fail
              refine (HBF.out _).mono ?_
              rintro e w5 ⟨rfl, n5, hw5⟩
              have hb5 : Below w4.heap.size w4 w5 := by rw [hw5]; exact below_draws _ _ _
              have HR5 := Lib.hid (HR4.out.below hb5)
              have HO5 : Hid (Only (fun k => k = ba ∨ k = w.heap.size ∨ w2.heap.size ≤ k) w2 w5) := HO4.out.trans (Only.of_below hb5)
              have q5s := cellB hb5 q5'
              have c5 := cellB hb5 c1
              have f5 := HR5.out.a.fz fL_len.symm u
              clear hb5 hw5 q5' c1 f1' HR4 HO4 HBF
              go_upto_region 18 with (fail)
              have HR6 : Hid (RS w (w5.setCell ⟨ba, u, none⟩ (.int .i64 (m : Int))) ba n w2.heap.size f2 (rest ++ nx) (.slice ao nx.length ca) nx) := by
                have := HR5.out.put hba (v := u) (m := m)
                rw [HF2.out]; exact this
              have HO6 : Hid (Only (fun k => k = ba ∨ k = w.heap.size ∨ w2.heap.size ≤ k) w2 (w5.setCell ⟨ba, u, none⟩ (.int .i64 (m : Int)))) := HO5.out.trans (Only.set ba u _ (.inl rfl))
              clear q5s c5 f5 HR5 HO5 HF2
              generalize w5.setCell ⟨ba, u, none⟩ (.int .i64 (m : Int)) = w6 at *
              obtain ⟨-, -, q6, -, hA6, hI6⟩ := HG1.out w6 HR6.out.o
              obtain ⟨xa, xc, xb, xo, rfl, xA⟩ := hA6
              obtain rfl := xA.ad (by omega)
              have c6 := xA.el u hun
              have xn := xA.nb
              obtain ⟨sb, cb, esb⟩ := (hI6 u hun).shape
              rw [esb] at c6
              have HESB := Lib.hid esb
              have HBLn := HBN.out u
              clear hI6 xA esb
              obtain ⟨B, hB⟩ : ∃ B, bf.getD u [] = B := ⟨_, rfl⟩
              have HBV := Lib.hid hB
              have HBRu := Lib.hid (HBR.out u hun)
              rw [hB] at HBLn HJ c6 HESB HBRu
              clear hB
              obtain ⟨wm, rfl⟩ : ∃ wm, wm = wr := ⟨_, rfl⟩
              have HJ0 : Hid (RJ g n mo f f2 m rest nx (B.drop 0)) := HJ.out
              clear HJ
              go_wp2_with fail
              clear q6 c6
              go_loopg [3, 67] B.length (fun gh x i wr => ∃ (j : Nat) (nx : List Int) (ao : Option Addr) (co : Nat), gh = B.length - j ∧ i = .int .i64 (j : Int) ∧ x = .slice ao nx.length co ∧ j ≤ B.length ∧ Hid (RJ g n mo f f2 m rest nx (B.drop j)) ∧ Hid (RS w wr ba n w2.heap.size f2 (rest ++ nx) (.slice ao nx.length co) nx) ∧ Hid (Only (fun k => k = ba ∨ k = w.heap.size ∨ w2.heap.size ≤ k) w2 wr))
              case atStart => exact ⟨0, nx, ao, ca, rfl, rfl, rfl, by omega, HJ0, HR6, HO6⟩
              case round =>
                clear HJ0 HR6 HO6
                obtain ⟨j, nx, ao, ca, hgj, rfl, rfl, hj, HJ, HR, HO⟩ := hrel
                have HGJ := Lib.hid hgj
                clear hgj
                by_cases hjl : j < B.length
                · as_aux_lemma =>
                  have j1 : (j : Int) < (B.length : Int) := by omega
                  obtain ⟨v, hv, hvn⟩ := HBRu.out (B.getD j 0) (by rw [getD_lt _ _ _ hjl]; exact List.getElem_mem hjl)
                  have HDB : Hid (B.drop j = (v : Int) :: B.drop (j + 1)) := by show _ = _; rw [drop_cons hjl, hv]
                  rw [HDB.out] at HJ
                  obtain ⟨q1, q5, -, hPI, -, hBI⟩ := HG1.out wr HR.out.o
                  have hBI := hBI u hun
                  rw [HESB.out, HBV.out] at hBI
                  obtain ⟨bb, ob, db, -, fb⟩ := hBI.dat
                  obtain rfl := db (by omega)
                  have b1 := fb j hjl
                  rw [hv] at b1
                  obtain ⟨pb, po, dp, -, fp⟩ := hPI.dat
                  obtain rfl := dp (by omega)
                  have p1 := fp v hvn
                  rw [HPR.out v hvn] at p1
                  have c1 := HR.out.a.at' fL_len.symm v (by rw [fL_len]; exact hvn)
                  rw [fL_at hvn] at c1
                  have j2 : (v : Int) < (n : Int) := by omega
                  have HGT : Hid (∀ q, (Instr.lookup 78 (.map (some w.heap.size)) (.int .i64 (v : Int)) false).run Try.prog (wr.drewN q) = .ok (.bool (decide ((v : Int) ∈ rest ++ nx))) (wr.drewN q)) := fun q => (HR.out.m.below (below_draws _ _ q)).get (by unfold I64; omega)
                  have HAX : Hid (∀ q, Calls Try.prog 53 #[.pointer (some ⟨z, 0, none⟩), .int .i64 (m : Int), .int .i64 (prN g v : Int)] (wr.drewN q) (Quiet (.int .i64 (alongN mo m (prN g v) : Int)) (wr.drewN q))) := HAC.out wr _ f2 _ _ _ m v HR.out HMT.out hvn
                  have HBX : Hid (∀ W, Calls Try.prog 52 #[.int .i64 (f2 v : Int), .int .i64 (alongN mo m (prN g v) : Int)] W (Quiet (.bool (decide (f2 v < alongN mo m (prN g v)))) W)) := fun W => by
                    have := befC_c W (f2 v : Int) (alongN mo m (prN g v) : Int)
                    rwa [show decide ((f2 v : Int) < (alongN mo m (prN g v) : Int)) = decide (f2 v < alongN mo m (prN g v)) by simp] at this
                  have HVN := Lib.hid hvn
                  have HPS : Hid (¬ f2 v < alongN mo m (prN g v) → RJ g n mo f f2 m rest nx (B.drop (j + 1))) := fun h => HJ.out.pass (.inl h)
                  have hlen := HJ.out.len
                  clear hv hvn hPI hBI fb fp db dp
                  generalize hal : alongN mo m (prN g v) = al at *
                  have HALV := Lib.hid hal
                  clear hal
                  generalize prN g v = pv at *
                  generalize hfv : f2 v = fv at *
                  have HFV := Lib.hid hfv
                  clear hfv
                  by_cases hc : fv < al
                  · rw [decide_eq_true hc] at HBX
                    clear hc
                    by_cases hin : (v : Int) ∈ rest ++ nx
                    · have HJ2 := Lib.hid (HJ.out.pass (.inr hin))
                      have hget := HGT.out
                      rw [decide_eq_true hin] at hget
                      clear hin HGT HJ
                      go_upto_region 21 with (fail)
                      go_quiet (first | (go_at_call 53; refine (HAX.out _).mono ?_; rintro e w' ⟨rfl, n', rfl⟩; exact ⟨rfl, _, by rw [World.drewN_drewN]⟩) | (go_at_call 52; refine (HBX.out _).mono ?_; rintro e w' ⟨rfl, n', rfl⟩; exact ⟨rfl, _, by rw [World.drewN_drewN]⟩))
                      go_wp2
                      go_roundg (B.length - (j + 1))
                      case measure => have := HGJ.out; omega
                      case rel => exact ⟨j + 1, nx, ao, ca, rfl, by go_num, rfl, by omega, HJ2, HR.out.below (below_draws _ _ _), HO.out.trans (Only.of_below (below_draws _ _ _))⟩
                    · have HJ2 := Lib.hid (HJ.out.add HVN.out hin)
                      have HIN := Lib.hid hin
                      have hget := HGT.out
                      rw [decide_eq_false hin] at hget
                      clear hin HGT HJ
                      go_upto_region 21 with (fail)
                      go_quiet (first | (go_at_call 53; refine (HAX.out _).mono ?_; rintro e w' ⟨rfl, n', rfl⟩; exact ⟨rfl, _, by rw [World.drewN_drewN]⟩) | (go_at_call 52; refine (HBX.out _).mono ?_; rintro e w' ⟨rfl, n', rfl⟩; exact ⟨rfl, _, by rw [World.drewN_drewN]⟩))
                      have HR7 := Lib.hid (HR.out.below (below_draws wr _ nq))
                      have HO7 : Hid (Only (fun k => k = ba ∨ k = w.heap.size ∨ w2.heap.size ≤ k) w2 (wr.drewN nq)) := HO.out.trans (Only.of_below (below_draws _ _ _))
                      clear HR HO hget q1 q5 b1 p1 c1 HAX HBX
                      generalize wr.drewN nq = w7 at *
                      obtain ⟨w8, hrun, hm8, hg8⟩ := HR7.out.m.add (y := (v : Int)) (by unfold I64; omega) HIN.out (by rw [List.length_append]; omega)
                      have HR8 : Hid (RS w w8 ba n w2.heap.size f2 (rest ++ (nx ++ [(v : Int)])) (.slice ao nx.length ca) nx) := by
                        have := HR7.out.map hba hm8 hg8
                        rw [List.append_assoc] at this
                        exact this
                      have HO8 : Hid (Only (fun k => k = ba ∨ k = w.heap.size ∨ w2.heap.size ≤ k) w2 w8) := HO7.out.trans ((Only.of_grown hg8).mono fun k _ e => .inr (.inl (by cases e; rfl)))
                      have hln : nx.length < 17592186043904 := by omega
                      have hbs : w2.heap.size ≤ w8.heap.size := HR8.out.bx.2
                      have HX8 := Lib.hid HR8.out.x
                      clear hm8 hg8 HR7 HO7
                      go_wp2_with (at_builtin; refine app_int rfl _ _ (v : Int) rfl w2.heap.size _ _ HX8.out rfl _ (by simp) rfl hln hbs ?_; intro v' w' hown' hg hmv)
                      obtain ⟨ax, cx, hvx⟩ := hown'.slice
                      subst hvx
                      have HR9 := Lib.hid (HR8.out.push hba hown' hg)
                      have HO9 : Hid (Only (fun k => k = ba ∨ k = w.heap.size ∨ w2.heap.size ≤ k) w2 w') := HO8.out.trans ((Only.of_grown hg).mono fun k _ e => .inr (.inr (HR8.out.x.ge k e)))
                      clear hg hmv hrun
                      go_roundg (B.length - (j + 1))
                      case measure => have := HGJ.out; omega
                      case rel => exact ⟨j + 1, nx ++ [(v : Int)], ax, cx, rfl, by go_num, rfl, by omega, HJ2, HR9, HO9⟩
                  · have HJ2 := Lib.hid (HPS.out hc)
                    rw [decide_eq_false hc] at HBX
                    clear hc HGT HJ
                    go_upto_region 21 with (fail)
                    go_quiet (first | (go_at_call 53; refine (HAX.out _).mono ?_; rintro e w' ⟨rfl, n', rfl⟩; exact ⟨rfl, _, by rw [World.drewN_drewN]⟩) | (go_at_call 52; refine (HBX.out _).mono ?_; rintro e w' ⟨rfl, n', rfl⟩; exact ⟨rfl, _, by rw [World.drewN_drewN]⟩))
                    go_wp2
                    go_roundg (B.length - (j + 1))
                    case measure => have := HGJ.out; omega
                    case rel => exact ⟨j + 1, nx, ao, ca, rfl, by go_num, rfl, by omega, HJ2, HR.out.below (below_draws _ _ _), HO.out.trans (Only.of_below (below_draws _ _ _))⟩
                · as_aux_lemma =>
                  obtain rfl : j = B.length := by omega
                  have j1 : ¬ (B.length : Int) < (B.length : Int) := by omega
                  rw [List.drop_eq_nil_of_le (Nat.le_refl _)] at HJ
                  have HI2 := Lib.hid HJ.out.fin
                  go_wp2
                  go_roundg (l.length - (k + 1))
                  case measure => have := HGM.out; omega
                  case rel => exact ⟨k + 1, f2, nx, ao, ca, rfl, by go_num, rfl, by omega, by rw [HREST.out]; exact HI2, by rw [HREST.out]; exact HR, HO⟩
            · as_aux_lemma =>
              have HBF : Hid (∀ W, Calls Try.prog 52 #[.int .i64 (f1 u : Int), .int .i64 (needN g mo f1 u : Int)] W (Quiet (.bool false) W)) := fun W => by
                have := befC_c W (f1 u : Int) (needN g mo f1 u : Int)
                rwa [decide_eq_false (by omega)] at this
              have HI2 := Lib.hid (HRI.out.skip (by omega))
              clear hc HRI
              generalize needN g mo f1 u = m at *
              generalize f1 u = fu at *
              go_upto_region 16 with (fail)
              go_wp2_with fail
              refine (HBF.out _).mono ?_
              rintro e w5 ⟨rfl, n5, hw5⟩
              have hb5 : Below w4.heap.size w4 w5 := by rw [hw5]; exact below_draws _ _ _
              have HR5 := Lib.hid (HR4.out.below hb5)
              have HO5 : Hid (Only (fun k => k = ba ∨ k = w.heap.size ∨ w2.heap.size ≤ k) w2 w5) := HO4.out.trans (Only.of_below hb5)
              clear hb5 hw5 q5' c1 f1' HR4 HO4
              go_wp2
              go_roundg (l.length - (k + 1))
              case measure => have := HGM.out; omega
              case rel => exact ⟨k + 1, f1, nx, ao, ca, rfl, by go_num, rfl, by omega, by rw [HREST.out]; exact HI2, by rw [HREST.out]; exact HR5, HO5⟩
          · as_aux_lemma =>
            obtain rfl : k = l.length := by omega
            have i1 : ¬ (l.length : Int) < (l.length : Int) := by omega
            have hdn : l.drop l.length = [] := List.drop_eq_nil_of_le (Nat.le_refl _)
            rw [hdn] at HRI HR
            have HLS := Lib.hid (HRI.out.less HE.out HU0.out HLL.out)
            have HR' : Hid (RS w wr ba n w2.heap.size f1 nx (.slice ao nx.length ca) nx) := HR.out
            clear hdn HR
            go_wp2
            go_roundg (leftR mo f1 n nx)
            case measure => have := HGK.out; have := HLS.out; omega
            case rel => exact ⟨f1, nx, w2.heap.size, ao, ca, rfl, rfl, HRI.out.fin, HR'⟩

end Go.Proofs.Ytijkjhcigdfdgaa
