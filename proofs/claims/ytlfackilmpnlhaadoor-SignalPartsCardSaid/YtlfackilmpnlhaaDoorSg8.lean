/- What Letters, Inputs, Outputs and the reference's side compute. -/
import Derived.Test.YtlfackilmpnlhaaDoorSg7
namespace Go.Proofs.YtlfackilmpnlhaaDoor
open Go.RowKit

def lettersI (l : List Sig) : Int := if validS l then prodC (fun _ => true) l else 0
def inputsI (l : List Sig) : Int := if validS l then prodC (fun s => s.inp) l else 0
def outputsI (l : List Sig) : Int := if validS l then prodC (fun s => !s.inp) l else 0

theorem Letters_c (w : World) (vl : Value) (l : List Sig) (hK : Keys w) (hl : IsSigs w vl l) : Calls Tryd.prog 19 #[vl] w (Calm (.int .i64 (lettersI l)) w) := by
  have h := count0_c w vl l hK hl
  obtain ⟨ao, cap, b, off, rfl, hl⟩ := hl
  have H : Hid (Calls Tryd.prog 39 #[.slice ao l.length cap, .func (.func 40) #[] #[]] w (Calm (.int .i64 (lettersI l)) w)) := h
  clear h hl hK
  go_enter Tryd.func19, Tryd.ntmps19
  go_wp2_with fail
  refine H.out.mono ?_
  rintro e w1 ⟨rfl, hb⟩
  go_wp2
  go_ret
  exact ⟨rfl, hb⟩
theorem Inputs_c (w : World) (vl : Value) (l : List Sig) (hK : Keys w) (hl : IsSigs w vl l) : Calls Tryd.prog 21 #[vl] w (Calm (.int .i64 (inputsI l)) w) := by
  have h := count1_c w vl l hK hl
  obtain ⟨ao, cap, b, off, rfl, hl⟩ := hl
  have H : Hid (Calls Tryd.prog 39 #[.slice ao l.length cap, .func (.func 41) #[] #[]] w (Calm (.int .i64 (inputsI l)) w)) := h
  clear h hl hK
  go_enter Tryd.func21, Tryd.ntmps21
  go_wp2_with fail
  refine H.out.mono ?_
  rintro e w1 ⟨rfl, hb⟩
  go_wp2
  go_ret
  exact ⟨rfl, hb⟩
theorem Outputs_c (w : World) (vl : Value) (l : List Sig) (hK : Keys w) (hl : IsSigs w vl l) : Calls Tryd.prog 23 #[vl] w (Calm (.int .i64 (outputsI l)) w) := by
  have h := count2_c w vl l hK hl
  obtain ⟨ao, cap, b, off, rfl, hl⟩ := hl
  have H : Hid (Calls Tryd.prog 39 #[.slice ao l.length cap, .func (.func 43) #[] #[]] w (Calm (.int .i64 (outputsI l)) w)) := h
  clear h hl hK
  go_enter Tryd.func23, Tryd.ntmps23
  go_wp2_with fail
  refine H.out.mono ?_
  rintro e w1 ⟨rfl, hb⟩
  go_wp2
  go_ret
  exact ⟨rfl, hb⟩

end Go.Proofs.YtlfackilmpnlhaaDoor
