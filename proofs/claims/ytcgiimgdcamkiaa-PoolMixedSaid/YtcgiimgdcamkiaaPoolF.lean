/-
  The walk over an act's Step, and its loop 'run', out of what first, second, third leave; the state of a pool as a whole.
-/
import Derived.Test.YtcgiimgdcamkiaaPoolE
namespace Go.Proofs.Ytcgiimgdcamkiaa
open Go.RowKit
set_option linter.unusedVariables false

/-- What a Step leaves. -/
def StepP (ab : Nat) (vs : List Value) (b : Bool) (R : World → Prop) (e : Ending) (w' : World) : Prop := e = .returned (.bool b) ∧ Blk w' ab vs 108 ∧ R w'

set_option maxHeartbeats 400000 in
theorem stepP_0 (ab pp : Nat) (who slot top next slot' ph' top' next' : Int) (give : Bool) (R : World → Prop) (w : World) (ha : Blk w ab (actP pp who give slot 0 top next) 108)
    (hc : Calls Try.prog 58 #[.pointer (some ⟨ab, 0, none⟩)] w fun e w' => e = .returned (.tuple #[]) ∧ Blk w' ab (actP pp who give slot' ph' top' next') 108 ∧ R w') :
    Calls Try.prog 39 #[.pointer (some ⟨ab, 0, none⟩)] w (StepP ab (actP pp who give slot' ph' top' next') (ph' == 3) R) := by
  have H := Lib.hid hc
  have a4 := ha.cell (o := 4) rfl
  clear hc
  go_enter Try.func39, Try.ntmps39
  go_wp2_with (go_at_call 58; refine H.out.mono ?_; rintro e w1 ⟨rfl, hA, hR⟩; have b4 := hA.cell (o := 4) rfl)
  go_ret
  exact ⟨rfl, hA, hR⟩

set_option maxHeartbeats 400000 in
theorem stepP_1 (ab pp : Nat) (who slot top next slot' ph' top' next' : Int) (give : Bool) (R : World → Prop) (w : World) (ha : Blk w ab (actP pp who give slot 1 top next) 108)
    (hc : Calls Try.prog 59 #[.pointer (some ⟨ab, 0, none⟩)] w fun e w' => e = .returned (.tuple #[]) ∧ Blk w' ab (actP pp who give slot' ph' top' next') 108 ∧ R w') :
    Calls Try.prog 39 #[.pointer (some ⟨ab, 0, none⟩)] w (StepP ab (actP pp who give slot' ph' top' next') (ph' == 3) R) := by
  have H := Lib.hid hc
  have a4 := ha.cell (o := 4) rfl
  clear hc
  go_enter Try.func39, Try.ntmps39
  go_wp2_with (go_at_call 59; refine H.out.mono ?_; rintro e w1 ⟨rfl, hA, hR⟩; have b4 := hA.cell (o := 4) rfl)
  go_ret
  exact ⟨rfl, hA, hR⟩

set_option maxHeartbeats 400000 in
theorem stepP_2 (ab pp : Nat) (who slot top next slot' ph' top' next' : Int) (give : Bool) (R : World → Prop) (w : World) (ha : Blk w ab (actP pp who give slot 2 top next) 108)
    (hc : Calls Try.prog 60 #[.pointer (some ⟨ab, 0, none⟩)] w fun e w' => e = .returned (.tuple #[]) ∧ Blk w' ab (actP pp who give slot' ph' top' next') 108 ∧ R w') :
    Calls Try.prog 39 #[.pointer (some ⟨ab, 0, none⟩)] w (StepP ab (actP pp who give slot' ph' top' next') (ph' == 3) R) := by
  have H := Lib.hid hc
  have a4 := ha.cell (o := 4) rfl
  clear hc
  go_enter Try.func39, Try.ntmps39
  go_wp2_with (go_at_call 60; refine H.out.mono ?_; rintro e w1 ⟨rfl, hA, hR⟩; have b4 := hA.cell (o := 4) rfl)
  go_ret
  exact ⟨rfl, hA, hR⟩
end Go.Proofs.Ytcgiimgdcamkiaa
