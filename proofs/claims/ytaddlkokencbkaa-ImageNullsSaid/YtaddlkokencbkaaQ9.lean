/- Printed by this session's myprint.py out of the translation: functions of the program as Lean functions, and that the program's calls come to them. -/
import Derived.Test.YtaddlkokencbkaaQ0
import Derived.Test.YtaddlkokencbkaaRefA
namespace Go.Proofs.Ytaddlkokencbkaa.Q
open Go.RowKit Go.Proofs.YtaddlkokencbkaaW.PrintWords Go.Proofs.YtaddlkokencbkaaW.PrintLast Go.Proofs.YtaddlkokencbkaaW.PrintMore
attribute [local go_sem] max2_int min2_int max_two min_two max_three min_three max_four min_four   -- for this text's walks alone
set_option linter.unusedVariables false
set_option linter.unusedSimpArgs false

/-! ### pantographref01_digits: function 40 -/
def pantographref01_digits.f (a0 : Int) : Option (List Int) := if 0 ≤ a0 ∧ a0 ≤ 18446744073709551615 then some (Exact.digs a0.toNat) else none
theorem pantographref01_digits.calls (a0 : Int) (r : List Int) (w : World) (h : pantographref01_digits.f a0 = some r) :
    Calls Try.prog 40 #[.int .u64 a0] w fun e w' => ∃ v0_ : Value, e = .returned v0_ ∧ Kd.R (Kd.int .u8) 5 w' w.heap.size (fun _ => True) v0_ r ∧ Below w.heap.size w w' := by
  unfold pantographref01_digits.f at h
  split at h
  · rename_i hc
    obtain rfl := Option.some.inj h
    exact RefA.digits_calls a0 w hc.1 hc.2
  · cases h

end Go.Proofs.Ytaddlkokencbkaa.Q
