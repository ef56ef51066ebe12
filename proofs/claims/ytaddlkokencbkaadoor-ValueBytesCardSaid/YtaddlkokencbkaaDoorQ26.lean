/- Printed by this session's myprint.py out of the translation: functions of the program as Lean functions, and that the program's calls come to them. -/
import Derived.Test.YtaddlkokencbkaaDoorQ0
import Derived.Test.YtaddlkokencbkaaDoorUtf
namespace Go.Proofs.YtaddlkokencbkaaDoor.Q
open Go.RowKit Go.Proofs.YtaddlkokencbkaaDoorW.PrintWords Go.Proofs.YtaddlkokencbkaaDoorW.PrintLast Go.Proofs.YtaddlkokencbkaaDoorW.PrintMore
attribute [local go_sem] max2_int min2_int max_two min_two max_three min_three max_four min_four   -- for this text's walks alone
set_option linter.unusedVariables false
set_option linter.unusedSimpArgs false

/-! ### pantographref03_utf8: function 49 -/
def pantographref03_utf8.f (a0 : ByteArray) : Option (Bool) := if a0.size ≤ 140737488355328 then some (Utf.u8ok a0) else none
theorem pantographref03_utf8.calls (a0 : ByteArray) (r : Bool) (w : World) (h : pantographref03_utf8.f a0 = some r) :
    Calls Tryd.prog 49 #[.string a0] w fun e w' => e = .returned (.bool r) ∧ Drawn0 w w' := by
  unfold pantographref03_utf8.f at h
  split at h
  · obtain rfl := Option.some.inj h
    exact Utf.utf8_calls a0 (by assumption) w
  · cases h

end Go.Proofs.YtaddlkokencbkaaDoor.Q
