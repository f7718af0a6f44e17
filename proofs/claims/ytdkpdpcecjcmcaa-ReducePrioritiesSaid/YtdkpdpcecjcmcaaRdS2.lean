/- Trimming, merging and lowering twice; sizes; numbers of classes; runs (plain). -/
import Derived.Test.YtdkpdpcecjcmcaaRdS1
namespace Go.Proofs.Ytdkpdpcecjcmcaa

/-! The search of the trimmed automaton goes in step with the first one. -/
/-- The numbers below m. -/
def castR (m : Nat) : List Int := (List.range m).map Int.ofNat
theorem castR_len (m : Nat) : (castR m).length = m := by simp [castR]
theorem castR_succ (m : Nat) : castR (m + 1) = castR m ++ [(m : Int)] := by simp [castR, List.range_succ]
theorem castR_mem {m : Nat} {y : Int} : y ∈ castR m ↔ 0 ≤ y ∧ y < m := by
  simp only [castR, List.mem_map, List.mem_range]
  constructor
  · rintro ⟨x, hx, rfl⟩
    show 0 ≤ (x : Int) ∧ (x : Int) < m
    omega
  · rintro ⟨h1, h2⟩
    refine ⟨y.toNat, by omega, ?_⟩
    show (y.toNat : Int) = y
    omega
theorem castR_at {m j : Nat} (h : j < m) : (castR m).getD j 0 = j := by simp [castR, List.getD, h]
section
variable {a : Au} {k : Nat} {l o row : List Int} {y : Int}
theorem srchF_pre (a : Au) : ∀ (f n : Nat) (l : List Int), ∃ e, srchF a f n l = l ++ e
  | 0, _, l => ⟨[], by simp [srchF]⟩
  | f + 1, n, l => by
    show ∃ e, (if n < l.length then srchF a f (n + 1) (addR l (rowN a (l.getD n 0))) else l) = l ++ e
    split
    · obtain ⟨e, he⟩ := srchF_pre a f (n + 1) (addR l (rowN a (l.getD n 0)))
      obtain ⟨e2, he2⟩ := addR_pre (rowN a (l.getD n 0)) l
      exact ⟨e2 ++ e, by rw [he, he2, List.append_assoc]⟩
    · exact ⟨[], by simp⟩
theorem TrS.pre {n : Nat} (h : TrS a n l) : ∃ e, ordA a = l ++ e := by rw [← h.fu]; exact srchF_pre ..
/-- One more letter: a state that was met, or the next number. -/
theorem lock_one (hn : o.Nodup) (h : ∃ e, o = addI l y ++ e) : (y ∈ l ∧ o.idxOf y < l.length ∧ addI l y = l) ∨ (y ∉ l ∧ o.idxOf y = l.length ∧ addI l y = l ++ [y]) := by
  obtain ⟨e, rfl⟩ := h
  unfold addI at *
  by_cases hy : y ∈ l
  · rw [if_pos hy] at *
    exact .inl ⟨hy, by rw [idx_pre hy]; exact List.idxOf_lt_length_iff.2 hy, rfl⟩
  · rw [if_neg hy] at *
    refine .inr ⟨hy, ?_, rfl⟩
    rw [idx_pre (by simp), idxI_new hy]
theorem addI_lock (hn : o.Nodup) (h : ∃ e, o = addI l y ++ e) : addI (castR l.length) (o.idxOf y : Int) = castR (addI l y).length := by
  rcases lock_one hn h with ⟨-, h1, h2⟩ | ⟨-, h1, h2⟩
  · rw [h2]; unfold addI; rw [if_pos (castR_mem.2 (by omega))]
  · rw [h2]; unfold addI; rw [if_neg (fun e => by have := castR_mem.1 e; omega), List.length_append, h1]; exact (castR_succ _).symm
theorem addR_lock (hn : o.Nodup) : ∀ {row l : List Int}, (∃ e, o = addR l row ++ e) → addR (castR l.length) (idxR o row) = castR (addR l row).length
  | [], _, _ => rfl
  | y :: row, l, h => by
    obtain ⟨e, he⟩ := h
    obtain ⟨e2, he2⟩ := addR_pre row (addI l y)
    have h1 : addR l (y :: row) = addR (addI l y) row := rfl
    have h2 : addR (castR l.length) (idxR o (y :: row)) = addR (addI (castR l.length) (o.idxOf y : Int)) (idxR o row) := rfl
    rw [h2, addI_lock hn ⟨e2 ++ e, by rw [he, h1, he2, List.append_assoc]⟩, addR_lock hn (row := row) (l := addI l y) ⟨e, by rw [he, h1]⟩, h1]
theorem TrS.lock (hA : AuV a k) : ∀ n l, TrS a n l → TrS (trimA a) n (castR l.length) → n < l.length → TrS (trimA a) (n + 1) (castR (addR l (rowN a (l.getD n 0))).length) := fun n l h ht hn => by
  have ho := TrS.ord hA
  obtain ⟨e, he⟩ := (h.next hA hn).pre
  have h1 := ht.next hA.trim (by rw [castR_len]; exact hn)
  obtain ⟨e3, he3⟩ := h.pre
  have e0 : (ordA a).getD n 0 = l.getD n 0 := by rw [he3, getD_pre hn]
  have hnl : n < (ordA a).length := by rw [he3, List.length_append]; omega
  have e1 : rowN (trimA a) ((castR l.length).getD n 0) = idxR (ordA a) (rowN a (l.getD n 0)) := by
    rw [castR_at hn]
    show (trimA a).next.getD ((n : Int)).toNat [] = _
    rw [Int.toNat_natCast, trimA_nx hnl, e0]
  rw [e1, addR_lock ho.nd ⟨e, he⟩] at h1
  exact h1
theorem TrS.both (hA : AuV a k) : ∀ n l, TrS a n l → TrS (trimA a) n (castR l.length) → ∃ l', TrS a l'.length l' ∧ TrS (trimA a) l'.length (castR l'.length) := by
  suffices H : ∀ d n l, a.next.length - n ≤ d → TrS a n l → TrS (trimA a) n (castR l.length) → ∃ l', TrS a l'.length l' ∧ TrS (trimA a) l'.length (castR l'.length) from fun n l => H _ n l (Nat.le_refl _)
  intro d
  induction d with
  | zero =>
    intro n l hd h ht
    have h1 := h.len; have h2 := h.nl
    have : n = l.length := by omega
    subst this
    exact ⟨l, h, ht⟩
  | succ d ih =>
    intro n l hd h ht
    have h1 := h.len; have h2 := h.nl
    by_cases e : n < l.length
    · exact ih (n + 1) _ (by omega) (h.next hA e) (TrS.lock hA n l h ht e)
    · have : n = l.length := by omega
      subst this
      exact ⟨l, h, ht⟩
theorem ordA_trim (hA : AuV a k) : ordA (trimA a) = castR (ordA a).length := by
  have h0 : TrS (trimA a) 0 (castR [a.start].length) := TrS.start hA.trim
  obtain ⟨l, h, ht⟩ := TrS.both hA 0 _ (TrS.start hA) h0
  have h1 : ordA a = l := h.done
  have h2 := TrS.done (a := trimA a) (l := castR l.length) (by rw [castR_len]; exact ht)
  rw [h2, h1]
theorem castR_idx {m : Nat} {y : Int} (h0 : 0 ≤ y) (h1 : y < m) : ((castR m).idxOf y : Int) = y := by
  have hm : y ∈ castR m := castR_mem.2 ⟨h0, h1⟩
  have h2 := getD_idx hm
  have h3 := List.idxOf_lt_length_iff.2 hm
  rw [castR_len] at h3
  rw [castR_at h3] at h2
  exact h2
theorem trimA_idem (hA : AuV a k) : trimA (trimA a) = trimA a := by
  have ho := ordA_trim hA
  have hn := trim_len (a := a)
  have hp : (trimA a).prio.length = (ordA a).length := by simp [trimA]
  have e0 : trimA (trimA a) = ⟨(trimA a).letters, 0, (castR (ordA a).length).map fun s => idxR (castR (ordA a).length) (rowN (trimA a) s), (castR (ordA a).length).map (rowP (trimA a))⟩ := by
    rw [← ho]; rfl
  have e1 : (castR (ordA a).length).map (fun s => idxR (castR (ordA a).length) (rowN (trimA a) s)) = (trimA a).next := by
    apply List.ext_getElem (by rw [List.length_map, castR_len, hn])
    intro i h1 h2
    have hi : i < (ordA a).length := by omega
    have hr := rowN_rg hA.trim (s := (i : Int)) ⟨by omega, by omega⟩
    rw [List.getElem_map]
    have e2 : (castR (ordA a).length)[i]'(by rw [castR_len]; exact hi) = (i : Int) := by simp [castR]
    rw [e2]
    have e3 : rowN (trimA a) (i : Int) = (trimA a).next[i] := by
      show (trimA a).next.getD ((i : Int)).toNat [] = _
      rw [Int.toNat_natCast, getD_lt _ _ _ h2]
    rw [← e3]
    unfold idxR
    exact (List.map_congr_left (g := id) fun y hy => castR_idx (hr.2 y hy).1 (by have := (hr.2 y hy).2; rw [hn] at this; exact this)).trans (List.map_id _)
  have e2 : (castR (ordA a).length).map (rowP (trimA a)) = (trimA a).prio := by
    apply List.ext_getElem (by rw [List.length_map, castR_len, hp])
    intro i h1 h2
    have hi : i < (ordA a).length := by omega
    rw [List.getElem_map]
    have e2 : (castR (ordA a).length)[i]'(by rw [castR_len]; exact hi) = (i : Int) := by simp [castR]
    rw [e2]
    show (trimA a).prio.getD ((i : Int)).toNat [] = _
    rw [Int.toNat_natCast, getD_lt _ _ _ h2]
  rw [e0, e1, e2]; rfl
theorem trimF_idem (hA : AuV a k) : trimF (trimF a) = trimF a := by
  have h1 := hA.valid
  have h2 := hA.trim.valid
  unfold trimF
  rw [if_pos h1, if_pos h2, trimA_idem hA]
end

/-! Merging twice. -/
section
variable {a b : Au} {k n s t : Nat} {R : Nat → List Int}
theorem Bis.rows {Q : Nat → Nat → Prop} (h : Bis a b k Q) (hA : AuV a k) (hB : AuV b k) {s t : Nat} (hq : Q s t) (hs : s < a.next.length) (ht : t < b.next.length) : a.prio.getD s [] = b.prio.getD t [] := by
  have h1 := (hA.ln s hs).2
  have h2 := (hB.ln t ht).2
  apply List.ext_getElem (by omega)
  intro x hx1 hx2
  have := h.pr s t x hq (by omega)
  rwa [getD_lt _ _ _ hx1, getD_lt _ _ _ hx2] at this
theorem Bis.eqN {Q : Nat → Nat → Prop} (h : Bis a b k Q) (hA : AuV a k) (hB : AuV b k) (hQ : ∀ s t, Q s t → s < a.next.length ∧ t < b.next.length) : ∀ (d : Nat) {s t s' t' : Nat}, Q s t → Q s' t' → (Proofs.Ytdkpdpcecjcmcaa.eqN a k d s s' ↔ Proofs.Ytdkpdpcecjcmcaa.eqN b k d t t')
  | 0, s, t, s', t', h1, h2 => by
    show a.prio.getD s [] = a.prio.getD s' [] ↔ b.prio.getD t [] = b.prio.getD t' []
    rw [h.rows hA hB h1 (hQ _ _ h1).1 (hQ _ _ h1).2, h.rows hA hB h2 (hQ _ _ h2).1 (hQ _ _ h2).2]
  | d + 1, s, t, s', t', h1, h2 => by
    have e1 := Bis.eqN h hA hB hQ d h1 h2
    exact ⟨fun ⟨g1, g2⟩ => ⟨e1.1 g1, fun x hx => (Bis.eqN h hA hB hQ d (h.nx _ _ x h1 hx) (h.nx _ _ x h2 hx)).1 (g2 x hx)⟩, fun ⟨g1, g2⟩ => ⟨e1.2 g1, fun x hx => (Bis.eqN h hA hB hQ d (h.nx _ _ x h1 hx) (h.nx _ _ x h2 hx)).2 (g2 x hx)⟩⟩
/-- In the merged automaton different states are not equivalent. -/
theorem merge_diff (hA : AuV a k) {i j : Nat} (hi : i < (mergeA a).next.length) (hj : j < (mergeA a).next.length) (h : ∀ d, eqN (mergeA a) k d i j) : i = j := by
  obtain ⟨f, hf, ef, -, -⟩ := merge_row hi
  obtain ⟨g, hg, eg, -, -⟩ := merge_row hj
  have hb := merge_bis hA
  have hQ : ∀ s t, (s < a.next.length ∧ t = ((clsA a).getD s 0).toNat) → s < a.next.length ∧ t < (mergeA a).next.length := fun s t ⟨h1, h2⟩ => ⟨h1, by have := clsA_lt a h1; rw [merge_len]; omega⟩
  have := (clsA_eq hA hf hg).2 fun d => (hb.eqN hA hA.merge hQ d ⟨hf, by omega⟩ ⟨hg, by omega⟩).2 (h d)
  omega
theorem keys_inj (hR : ∀ s t, s < n → t < n → R s = R t → s = t) : ∀ m, m ≤ n → (keysG R m).length = m
  | 0, _ => rfl
  | m + 1, h => by
    have ih := keys_inj hR m (by omega)
    rw [keysG_succ, if_neg (fun e => by
      obtain ⟨s, hs, e2⟩ := keysG_mem.1 e
      have := hR s m (by omega) (by omega) e2
      omega), List.length_append, ih]; rfl
theorem class_inj (hR : ∀ s t, s < n → t < n → R s = R t → s = t) (hs : s < n) : (classL R n).getD s 0 = (s : Int) := by
  rw [classL_at hs, cls_stay (Nat.lt_succ_self s) (by omega), keysG_succ, if_neg (fun e => by
      obtain ⟨t, ht, e2⟩ := keysG_mem.1 e
      have := hR t s (by omega) hs e2
      omega), idxL_new (fun e => by
      obtain ⟨t, ht, e2⟩ := keysG_mem.1 e
      have := hR t s (by omega) hs e2
      omega), keys_inj hR s (by omega)]
theorem firsts_inj {c : List Int} (h : ∀ s, s < n → c.getD s 0 = (s : Int)) : ∀ m, m ≤ n → firstsC c m = List.range m
  | 0, _ => rfl
  | m + 1, hm => by
    have ih := firsts_inj h m (by omega)
    unfold firstsC
    rw [ih, if_neg (by rw [h m (by omega), List.length_range]; omega), List.range_succ]
theorem mergeA_idem (hA : AuV a k) : mergeA (mergeA a) = mergeA a := by
  have hM := hA.merge
  have hc : ∀ s, s < (mergeA a).next.length → (clsA (mergeA a)).getD s 0 = (s : Int) := fun s hs => by
    rw [clsA_row]
    refine class_inj (fun i j hi hj e => ?_) hs
    refine merge_diff hA hi hj fun d => ?_
    exact (eqN_done hM hi hj ((rowI_eq hM hi hj).1 e)) d
  have hf := firsts_inj hc _ (Nat.le_refl _)
  generalize mergeA a = m at *
  have hst := hM.st
  have hpn := hM.pn
  have e0 : (clsA m).getD m.start.toNat 0 = m.start := by rw [hc _ (by omega)]; omega
  have e1 : (List.range m.next.length).map (fun s => (m.next.getD s []).map fun y => (clsA m).getD y.toNat 0) = m.next := by
    apply List.ext_getElem (by simp)
    intro i h1 h2
    rw [List.getElem_map, List.getElem_range, getD_lt _ _ _ h2]
    rw [List.map_congr_left (g := id) fun y hy => by
      obtain ⟨x, hx, e⟩ := mem_getD hy
      have := hM.nx i x h2 (by have := (hM.ln i h2).1; rw [getD_lt _ _ _ h2] at this; omega)
      rw [getD_lt _ _ _ h2, e] at this
      show (clsA m).getD y.toNat 0 = y
      rw [hc _ (by omega)]; omega, List.map_id]
  have e2 : (List.range m.next.length).map (fun s => m.prio.getD s []) = m.prio := by
    apply List.ext_getElem (by simp [hpn])
    intro i h1 h2
    rw [List.getElem_map, List.getElem_range, getD_lt _ _ _ h2]
  unfold mergeA
  rw [hf, e0, e1, e2]
theorem mergeF_idem (hA : AuV a k) : mergeF (mergeF a) = mergeF a := by
  have h1 := hA.valid
  have h2 := hA.merge.valid
  unfold mergeF
  rw [if_pos h1, if_pos h2, mergeA_idem hA]

/-! Lowering twice; bounds. -/
theorem Val.congr {tg : Mv → Nat} {pr pr' : Mv → Int} {S : Mv → Prop} {b v : Int} {m : Mv} (h : Val tg pr S b m v) : (∀ x, S x → pr x = pr' x) → Val tg pr' S b m v := by
  induction h with
  | out h1 h2 => intro _; exact .out h1 h2
  | @least S b m h1 h2 =>
    intro he
    rw [he m h1.1]
    refine .least h1 ⟨⟨m, h1.self, rfl⟩, fun x hx => ?_⟩
    rw [← he m h1.1, ← he x hx.1]; exact h2.2 x hx
  | @rest S b m k v h1 h2 h3 h4 ih =>
    intro he
    have e : RestC tg pr' S m k = RestC tg pr S m k := set_ext fun x => ⟨fun hx => ⟨hx.1, by rw [he x hx.1.1]; exact hx.2⟩, fun hx => ⟨hx.1, by rw [← he x hx.1.1]; exact hx.2⟩⟩
    refine .rest h1 ⟨?_, fun x hx => by rw [← he x hx.1]; exact h2.2 x hx⟩ (by rw [← he m h1.1]; exact h3) ?_
    · obtain ⟨y, hy, e2⟩ := h2.1
      exact ⟨y, hy, by rw [← he y hy.1]; exact e2⟩
    · rw [e]; exact ih fun x hx => he x hx.1.1
theorem priosA_idem (a : Au) : priosA (priosA a) = priosA a := by
  have key : ∀ s x, s < a.next.length → x < a.letters.toNat → valF (priosA a) (s, x) = valF a (s, x) := fun s x hs hx => by
    refine valF_eq ?_
    have h1 := valF_is a (m := (s, x)) ⟨hs, hx⟩
    have h2 := h1.again (l := mvsU a.letters.toNat a.next.length 0) (f := valF a) (fun m hm => AllM.mem hm) fun m hm => valF_is a hm
    exact h2.congr fun m hm => (priosA_at a hm.1 hm.2).symm
  have e : (priosA (priosA a)).prio = (priosA a).prio := by
    show (List.range a.next.length).map (fun s => (List.range a.letters.toNat).map fun x => valF (priosA a) (s, x)) = (List.range a.next.length).map fun s => (List.range a.letters.toNat).map fun x => valF a (s, x)
    refine List.map_congr_left fun s hs => List.map_congr_left fun x hx => ?_
    exact key s x (List.mem_range.1 hs) (List.mem_range.1 hx)
  show (⟨a.letters, a.start, a.next, (priosA (priosA a)).prio⟩ : Au) = ⟨a.letters, a.start, a.next, (priosA a).prio⟩
  rw [e]
theorem priosF_idem (hA : AuV a k) : priosF (priosF a) = priosF a := by
  have h1 := hA.valid
  have h2 := hA.prios.valid
  unfold priosF
  rw [if_pos h1, if_pos h2, priosA_idem a]
theorem prios_bd (hA : AuV a k) {s x : Nat} (hs : s < a.next.length) (hx : x < k) : 0 ≤ ((priosA a).prio.getD s []).getD x 0 ∧ ((priosA a).prio.getD s []).getD x 0 ≤ ((a.next.length * k : Nat) : Int) ∧ ((priosA a).prio.getD s []).getD x 0 ≤ (a.prio.getD s []).getD x 0 := by
  have hk : a.letters.toNat = k := by have := hA.L; omega
  rw [priosA_at a hs (by omega)]
  have hv := valF_is a (m := (s, x)) ⟨hs, by show x < _; omega⟩
  have h1 := hv.ge
  have h2 := hv.le_pr fun m hm => (hA.pr m.1 m.2 hm.1 (by have := hm.2; omega)).1
  have h3 := hv.le_cnt (l := mvsU a.letters.toNat a.next.length 0) fun m hm => AllM.mem hm
  have h4 := cntM_len (S := AllM a.letters.toNat a) (mvsU a.letters.toNat a.next.length 0)
  rw [mvsU_len, hk] at h4
  rw [hk] at h3
  exact ⟨h1, by omega, h2⟩

/-! The greatest priority. -/
def grA (a : Au) : Int := a.prio.foldl (fun m row => row.foldl max m) 0
theorem foldMax_le {c : Int} : ∀ (row : List Int) (m : Int), row.foldl max m ≤ c ↔ m ≤ c ∧ ∀ x ∈ row, x ≤ c
  | [], m => by simp
  | x :: row, m => by
    rw [List.foldl_cons, foldMax_le row]
    simp only [List.mem_cons]
    constructor
    · rintro ⟨h1, h2⟩
      exact ⟨by omega, fun y hy => hy.elim (fun e => by omega) (h2 y)⟩
    · rintro ⟨h1, h2⟩
      have := h2 x (.inl rfl)
      exact ⟨by omega, fun y hy => h2 y (.inr hy)⟩
theorem foldMaxR_le {c : Int} : ∀ (rows : List (List Int)) (m : Int), rows.foldl (fun m row => row.foldl max m) m ≤ c ↔ m ≤ c ∧ ∀ row ∈ rows, ∀ x ∈ row, x ≤ c
  | [], m => by simp
  | row :: rows, m => by
    rw [List.foldl_cons, foldMaxR_le rows, foldMax_le]
    simp only [List.mem_cons]
    constructor
    · rintro ⟨⟨h1, h2⟩, h3⟩
      exact ⟨h1, fun r hr => hr.elim (fun e => by subst e; exact h2) (h3 r)⟩
    · rintro ⟨h1, h2⟩
      exact ⟨⟨h1, h2 row (.inl rfl)⟩, fun r hr => h2 r (.inr hr)⟩
theorem gr_le (hA : AuV a k) {c : Int} : grA a ≤ c ↔ 0 ≤ c ∧ ∀ s x, s < a.next.length → x < k → (a.prio.getD s []).getD x 0 ≤ c := by
  unfold grA
  rw [foldMaxR_le]
  have hp := hA.pn
  constructor
  · rintro ⟨h1, h2⟩
    refine ⟨h1, fun s x hs hx => ?_⟩
    have hl := (hA.ln s hs).2
    refine h2 (a.prio.getD s []) ?_ _ (getD_mem (by omega))
    rw [getD_lt _ _ _ (by omega)]; exact List.getElem_mem _
  · rintro ⟨h1, h2⟩
    refine ⟨h1, fun row hr x hx => ?_⟩
    obtain ⟨s, hs, rfl⟩ := List.getElem_of_mem hr
    obtain ⟨j, hj, rfl⟩ := mem_getD hx
    have hl := (hA.ln s (by omega)).2
    have := h2 s j (by omega) (by rw [getD_lt _ _ _ hs] at hl; omega)
    rwa [getD_lt _ _ _ hs] at this
theorem gr_bis {Q : Nat → Nat → Prop} (h : Bis a b k Q) (hA : AuV a k) (hB : AuV b k) (hQ : ∀ s, s < a.next.length → ∃ t, Q s t ∧ t < b.next.length) : grA a ≤ grA b := by
  have h0 := (gr_le hB (c := grA b)).1 (Int.le_refl _)
  refine (gr_le hA).2 ⟨h0.1, fun s x hs hx => ?_⟩
  obtain ⟨t, ht, hlt⟩ := hQ s hs
  rw [h.pr s t x ht hx]
  exact h0.2 t x hlt hx
theorem gr_trim (hA : AuV a k) : grA (trimA a) ≤ grA a := by
  refine gr_bis (trim_bis hA) hA.trim hA fun s hs => ⟨_, ⟨by rw [← trim_len]; exact hs, rfl⟩, ?_⟩
  have := (TrS.ord hA).at' (i := s) (by rw [← trim_len]; exact hs)
  omega
theorem gr_merge (hA : AuV a k) : grA (mergeA a) ≤ grA a := by
  have h0 := (gr_le hA (c := grA a)).1 (Int.le_refl _)
  refine (gr_le hA.merge).2 ⟨h0.1, fun s x hs hx => ?_⟩
  obtain ⟨f, hf, -, -, e⟩ := merge_row hs
  rw [e]; exact h0.2 f x hf hx
theorem gr_prios (hA : AuV a k) : grA (priosA a) ≤ grA a := by
  have h0 := (gr_le hA (c := grA a)).1 (Int.le_refl _)
  refine (gr_le hA.prios).2 ⟨h0.1, fun s x hs hx => ?_⟩
  have := (prios_bd hA (s := s) hs hx).2.2
  have := h0.2 s x hs hx
  omega
theorem reduce_eq (hA : AuV a k) : reduceF a = trimA (mergeA (priosA (mergeA (trimA a)))) ∧ AuV (reduceF a) k := by
  have h1 := hA.trim
  have h2 := h1.merge
  have h3 := h2.prios
  have h4 := h3.merge
  have e : reduceF a = trimA (mergeA (priosA (mergeA (trimA a)))) := by
    unfold reduceF
    simp only [trimF, mergeF, priosF, if_pos hA.valid, if_pos h1.valid, if_pos h2.valid, if_pos h3.valid, if_pos h4.valid]
  exact ⟨e, e ▸ h4.trim⟩
theorem gr_reduce (hA : AuV a k) : grA (reduceF a) ≤ grA (trimF a) := by
  rw [(reduce_eq hA).1]
  unfold trimF
  rw [if_pos hA.valid]
  have h1 := hA.trim
  have h2 := h1.merge
  have h3 := h2.prios
  have h4 := h3.merge
  have g1 := gr_trim h4
  have g2 := gr_merge h3
  have g3 := gr_prios h2
  have g4 := gr_merge h1
  omega
/-- Reducing yields no more states than trimming. -/
theorem reduce_le (a : Au) : (reduceF a).next.length ≤ (trimF a).next.length :=
  Nat.le_trans (trimF_n _) (Nat.le_trans (mergeF_n _) (Nat.le_trans (priosF_n _) (mergeF_n _)))
/-- The words of the reduced automaton. -/
theorem reduce_word (hA : AuV a k) {w : Ls} {x y : Bool} (hw : validI a.letters w = true) (ha : WordP a w x) (hb : WordP (reduceF a) w y) : y = x := by
  obtain ⟨h1, h2, -⟩ := valid_let hw
  have hL := hA.L
  rw [hL] at h1 h2
  have k1 := hA.trim
  have k2 := k1.merge
  have k3 := k2.prios
  have k4 := k3.merge
  rw [(reduce_eq hA).1] at hb
  have ex : ∀ {b : Au}, AuV b k → ∃ z, WordP b w z := fun {b} hb => by
    have hwb : validI b.letters w = true := by rw [hb.L, ← hL]; exact hw
    obtain ⟨i, j, hij, -, e⟩ := comes_back (f := stN b w) (r := castR b.next.length) fun i => castR_mem.2 (stN_bd hb.valid hwb i)
    obtain ⟨v, hv⟩ := min_ex (lsN b w) i (j - i) (by omega)
    exact ⟨_, i, j - i, v, by omega, by rw [show i + (j - i) = j by omega]; exact e.symm, hv, rfl⟩
  obtain ⟨z1, w1⟩ := ex k1
  obtain ⟨z2, w2⟩ := ex k2
  obtain ⟨z3, w3⟩ := ex k3
  obtain ⟨z4, w4⟩ := ex k4
  have e1 := (trim_bis hA).word h1 h2 w1 ha
  have e2 := (merge_bis k1).word h1 h2 w1 w2
  have e3 := prios_word k2 (by rw [k2.L, ← hL]; exact hw) w2 w3
  have e4 := (merge_bis k3).word h1 h2 w3 w4
  have e5 := (trim_bis k4).word h1 h2 hb w4
  rw [e5, ← e4, ← e3, ← e2, e1]

/-! Runs. -/
/-- The priorities of the moves on a word. -/
def runL (a : Au) : Int → List Int → List Int
  | _, [] => []
  | q, x :: ls => prL a q x :: runL a (nxL a q x) ls
theorem Bis.run {Q : Nat → Nat → Prop} (h : Bis a b k Q) : ∀ {ls : List Int} {p q : Int}, (∀ x ∈ ls, 0 ≤ x ∧ x < (k : Int)) → Q p.toNat q.toNat → runL a p ls = runL b q ls
  | [], _, _, _, _ => rfl
  | x :: ls, p, q, hl, hr => by
    have hx := hl x List.mem_cons_self
    have hx2 : x.toNat < k := by omega
    have e : prL a p x = prL b q x := h.pr _ _ _ hr hx2
    have := Bis.run h (ls := ls) (p := nxL a p x) (q := nxL b q x) (fun y hy => hl y (List.mem_cons_of_mem _ hy)) (h.nx _ _ _ hr hx2)
    show prL a p x :: _ = prL b q x :: _
    rw [e, this]
theorem run_trim (hA : AuV a k) {ls : List Int} (hl : ∀ x ∈ ls, 0 ≤ x ∧ x < (k : Int)) : runL (trimA a) (trimA a).start ls = runL a a.start ls := (trim_bis hA).run hl (trim_bis hA).st
theorem run_merge (hA : AuV a k) {ls : List Int} (hl : ∀ x ∈ ls, 0 ≤ x ∧ x < (k : Int)) : runL (mergeA a) (mergeA a).start ls = runL a a.start ls := ((merge_bis hA).run hl (merge_bis hA).st).symm

/-! The number of classes. -/
/-- The classes of the first i states. -/
def cntC (a : Au) (i : Nat) : Nat := (keysG (rowI a a.next.length) i).length
theorem cntC_all (a : Au) : cntC a a.next.length = (mergeA a).next.length := by
  rw [merge_len, clsA_row, firsts_len (Nat.le_refl _)]; rfl
theorem cntC_next (hA : AuV a k) {i : Nat} (hi : i < a.next.length) : ((∃ j, j < i ∧ ∀ d, eqN a k d i j) → cntC a (i + 1) = cntC a i) ∧ ((∀ j, j < i → ¬ ∀ d, eqN a k d i j) → cntC a (i + 1) = cntC a i + 1) := by
  have hr : ∀ j, j < i → (rowI a a.next.length j = rowI a a.next.length i ↔ ∀ d, eqN a k d i j) := fun j hj => by
    have h1 := clsA_eq hA hi (t := j) (by omega)
    rw [clsA_row] at h1
    rw [← h1, classL_eq hi (by omega)]
    exact eq_comm
  unfold cntC
  rw [keysG_succ]
  constructor
  · rintro ⟨j, hj, h⟩
    rw [if_pos (keysG_mem.2 ⟨j, hj, (hr j hj).2 h⟩)]
  · intro h
    rw [if_neg (fun e => by
      obtain ⟨j, hj, e2⟩ := keysG_mem.1 e
      exact h j hj ((hr j hj).1 e2)), List.length_append]; rfl
end

end Go.Proofs.Ytdkpdpcecjcmcaa
