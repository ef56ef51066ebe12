/- Plain laws of the reference's numbers and texts as bytes. -/
import Derived.Test.YtaddlkokencbkaaQ5
import Derived.Test.YtaddlkokencbkaaQ5
import Derived.Test.YtaddlkokencbkaaPlain
import Derived.Test.YtaddlkokencbkaaOpenA
namespace Go.Proofs.Ytaddlkokencbkaa.RefB
open Go.RowKit Go.Proofs.YtaddlkokencbkaaW.PrintWords Go.Proofs.YtaddlkokencbkaaW.PrintLast Go.Proofs.YtaddlkokencbkaaW.PrintMore Go.Proofs.Ytaddlkokencbkaa.Q Go.Proofs.Ytaddlkokencbkaa.Plain Go.Proofs.Ytaddlkokencbkaa.Exact Go.Proofs.Ytaddlkokencbkaa.OpenA
set_option linter.unusedVariables false
theorem digits_f {x : Int} (h0 : 0 ≤ x) (h1 : x ≤ 18446744073709551615) : pantographref01_digits.f x = some (digs x.toNat) := by
  unfold pantographref01_digits.f
  rw [if_pos ⟨h0, h1⟩]
theorem number_f {n : Int} (h0 : 0 ≤ n) (h1 : n ≤ 9223372036854775807) : pantographref01_Number.f n = some (digs n.toNat) := by
  have e : IntKind.u64.wrap n = n := by rw [IntKind.wrap_u64]; omega
  unfold pantographref01_Number.f
  rw [e, digits_f h0 (by omega), Option.bind_some]
theorem signed_f {n : Int} (h : RangeI n) : pantographref01_Signed.f n = some (digs (Lib.zigzag n)) := by
  unfold RangeI at h
  unfold pantographref01_Signed.f Lib.zigzag
  by_cases c : n ≥ 0
  · have e : IntKind.u64.wrap (2 * (IntKind.u64.wrap n)) = 2 * n := by rw [IntKind.wrap_u64, IntKind.wrap_u64]; omega
    rw [if_pos c, if_pos c, e, digits_f (by omega) (by omega), Option.bind_some]
  · have e1 : wrap64 (-(wrap64 (n + 1))) = -(n + 1) := by unfold wrap64; omega
    have e : IntKind.u64.wrap ((IntKind.u64.wrap (2 * (IntKind.u64.wrap (-(n + 1))))) + 1) = -2 * n - 1 := by rw [IntKind.wrap_u64, IntKind.wrap_u64, IntKind.wrap_u64]; omega
    rw [if_neg c, if_neg c, e1, e, digits_f (by omega) (by omega), Option.bind_some]
theorem text_f {s : ByteArray} (h : s.size ≤ 70368744177664) : pantographref01_Text.f s = some (digs s.size ++ bytesOf s) := by
  unfold pantographref01_Text.f
  have := digs_len10 (n := s.size) (by omega)
  rw [number_f (by omega) (by omega), Option.bind_some, Int.toNat_natCast, if_pos (by omega)]
end Go.Proofs.Ytaddlkokencbkaa.RefB
