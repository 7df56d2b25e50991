/-
  PoolMixed: small contracts.
-/
import Derived.Test.YtcgiimgdcamkiaaFreeP
namespace Go.Proofs.Ytcgiimgdcamkiaa
open Go.RowKit
set_option linter.unusedVariables false

/-- 'run' of an act that is over. -/
theorem runP_over (ab pp : Nat) (who slot top next : Int) (give : Bool) (w : World) (ha : Blk w ab (actP pp who give slot 3 top next) 108) :
    Calls Try.prog 43 #[.pointer (some ⟨ab, 0, none⟩)] w fun e w' => e = .returned (.int .i64 0) ∧ w = w' := by
  have HO := Lib.hid (overP_any ab pp who slot 3 top next give w ha true rfl)
  clear ha
  go_enter Try.func43, Try.ntmps43
  go_wp2_with fail
  go_loopw [3] (fun i wr => i = .int .i64 0 ∧ wr = w) (fun i _ => 1 - (intOf i).toNat)
  case atStart => exact ⟨rfl, rfl⟩
  case round =>
    obtain ⟨rfl, rfl⟩ := hrel
    go_wp2_with (go_at_call 38; refine HO.out.mono ?_; rintro e w' ⟨rfl, rfl⟩)
    go_ret
    exact ⟨rfl, rfl⟩
end Go.Proofs.Ytcgiimgdcamkiaa
