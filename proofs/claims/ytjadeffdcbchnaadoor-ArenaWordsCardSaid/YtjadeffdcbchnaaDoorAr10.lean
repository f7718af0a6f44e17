/- The iterator over the places that follow one, as a sequence. -/
import Derived.RangeFuncKeeps
import Derived.Test.YtjadeffdcbchnaaDoorAr9
namespace Go.Proofs.YtjadeffdcbchnaaDoor
open Go.RowKit Go.Shelf

/-- A place of an automaton over inputs and letters. -/
structure PlOK (a : Au) (T : List (List Int)) (y : Pl) : Prop where
  st : 0 ≤ y.st ∧ y.st < a.next.length
  inn : y.inn < T.length
  rows : (a.next.getD y.st.toNat []).length = (a.prio.getD y.st.toNat []).length
  lets : ∀ i : Nat, i < T.length → ∀ v ∈ T.getD i [], 0 ≤ v ∧ v < (a.next.getD y.st.toNat []).length
  len : ∀ i : Nat, i < T.length → (T.getD i []).length ≤ 64

theorem next1_stops (F : Fence) (n : Nat) (h7 : F.fn 66) (hro : F.round = none) (hn : 1 ≤ n) (Bp Bb : Nat) (w0 : World) (a : Au) (T : List (List Int)) (y : Pl) (S : List Pl) (hS : S = succPl a T y) (hok : PlOK a T y) (hpl : a.prio.length = a.next.length) (hT64 : T.length ≤ 64)
    (Lt St tp : Int) (ao2 ao3 aot : Option Addr) (cap2 cap3 capt : Nat) (w : World) (hw : Below w0.heap.size w0 w)
    (hBp : w.heap[Bp]? = some (.cells (plC y) 48 (0, 0))) (hBb : w.heap[Bb]? = some (.cells #[.int .i64 Lt, .int .i64 St, .slice ao2 a.next.length cap2, .slice ao3 a.next.length cap3, .int .i64 tp, .slice aot T.length capt] 70 (0, 0)))
    (hN : IsRows w0 (.slice ao2 a.next.length cap2) a.next) (hP : IsRows w0 (.slice ao3 a.next.length cap3) a.prio) (hT : IsRows w0 (.slice aot T.length capt) T) :
    SeqStopsK F n Tryd.prog 66 #[.pointer (some ⟨Bp, 0, none⟩), .pointer (some ⟨Bb, 0, none⟩)] (encP S) (KpN w0.heap.size Bp Bb) (fun ys => ys = allF S.length) (fun pre => ∃ k, k ≤ S.length ∧ pre = (allF S.length).take k) S.length w := fun lY J Jx W hW hJ _ hY h0 => by
  have b1 := (hW.block _ (Array.getElem?_eq_some_iff.1 hBp).1).trans hBp
  have b2 := (hW.block _ (Array.getElem?_eq_some_iff.1 hBb).1).trans hBb
  by_cases hi : y.inn < 0
  · exact next1_free F n h7 hro hn lY Bp Bb w0.heap.size a T y S hS hi hT64 Lt St tp ao2 ao3 aot _ cap2 _ cap3 capt J Jx hY W b1 b2 h0
  · have hin := hok.inn
    have hiT : y.inn.toNat < T.length := by omega
    exact next1_bound F n h7 hro hn lY Bp Bb w0 a T y S hS ⟨by omega, hin⟩ hok.st hpl hok.rows (hok.lets _ hiT) (hok.len _ hiT) Lt St tp ao2 ao3 aot cap2 cap3 capt J Jx (fun pre W1 W2 hp hb => hJ pre W1 W2 none hp (below_grown hb) (by simp)) hY W (hw.trans (hW.mono hw.size)) b1 b2 hN hP hT h0

/-- The places that follow one are places. -/
structure AuOK (a : Au) (T : List (List Int)) : Prop where
  pl : a.prio.length = a.next.length
  rows : ∀ s : Nat, s < a.next.length → (a.next.getD s []).length = (a.prio.getD s []).length
  nx : ∀ s : Nat, s < a.next.length → ∀ x ∈ a.next.getD s [], 0 ≤ x ∧ x < a.next.length
  lets : ∀ s : Nat, s < a.next.length → ∀ i : Nat, i < T.length → ∀ v ∈ T.getD i [], 0 ≤ v ∧ v < (a.next.getD s []).length
  len : ∀ i : Nat, i < T.length → (T.getD i []).length ≤ 64
  t : 1 ≤ T.length ∧ T.length ≤ 64
theorem AuOK.pl' {a : Au} {T : List (List Int)} (h : AuOK a T) {y : Pl} (h1 : 0 ≤ y.st ∧ y.st < a.next.length) (h2 : y.inn < T.length) : PlOK a T y := by
  have hs : y.st.toNat < a.next.length := by omega
  exact ⟨h1, h2, h.rows _ hs, h.lets _ hs, h.len⟩
theorem AuOK.succ {a : Au} {T : List (List Int)} (h : AuOK a T) {y : Pl} (hy : PlOK a T y) : ∀ x ∈ succPl a T y, PlOK a T x := by
  intro x hx
  have hs : y.st.toNat < a.next.length := by have := hy.st; omega
  unfold succPl at hx
  split at hx
  · obtain ⟨i, hi, rfl⟩ := List.mem_map.1 hx
    have := List.mem_range.1 hi
    exact h.pl' hy.st (by show (i : Int) < _; omega)
  · rename_i hn
    have hin := hy.inn
    obtain ⟨v, hv, rfl⟩ := List.mem_map.1 hx
    have hvL := hy.lets _ (by omega) v hv
    have hvl : v.toNat < (a.next.getD y.st.toNat []).length := by omega
    refine h.pl' ?_ (by show (-1 : Int) < _; have := h.t; omega)
    show 0 ≤ (a.next.getD y.st.toNat []).getD v.toNat 0 ∧ _
    rw [getD_lt _ _ _ hvl]
    exact h.nx _ hs _ (List.getElem_mem hvl)

end Go.Proofs.YtjadeffdcbchnaaDoor
