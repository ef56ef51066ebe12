/- The document's May is the program's. -/
import Derived.Test.YtaddlkokencbkaaDoorU8V
import Derived.Test.YtaddlkokencbkaaDoorMMay
import Derived.Test.YtaddlkokencbkaaDoorQ5
namespace Go.Proofs.YtaddlkokencbkaaDoor.May3
open Go.RowKit Go.Proofs.YtaddlkokencbkaaDoorW.PrintWords Go.Proofs.YtaddlkokencbkaaDoorW.PrintLast Go.Proofs.YtaddlkokencbkaaDoorW.PrintMore Go.Proofs.YtaddlkokencbkaaDoor.Q Go.Proofs.YtaddlkokencbkaaDoor.May
set_option linter.unusedVariables false
set_option linter.unusedSimpArgs false
/-- The document's May is the program's. -/
theorem may_f (k n : Int) (s : ByteArray) (hs : s.size ≤ 140737488355328) : pantographref03_May.f k n s = some (mayB k n s) := by
  have he : (s.toList == ([] : List UInt8)) = s.toList.isEmpty := by cases s.toList <;> rfl
  have he2 : (s.toList = ([] : List UInt8)) ↔ s.toList.isEmpty = true := by cases s.toList <;> simp
  have hs2 : pantographref03_utf8.f s = some (Utf.u8ok s) := by unfold pantographref03_utf8.f; first | rw [if_pos hs] | rfl
  unfold pantographref03_May.f mayB
  simp only [he, he2, hs2]
  by_cases c0 : k = 0
  · by_cases h : n = 0 <;> simp [c0, h]
  by_cases c1 : k = 1
  · by_cases h : n = 0
    · by_cases g : s.toList.isEmpty = true <;> simp [c1, h, g]
    · by_cases g : s.toList.isEmpty = true
      · by_cases q : n = 1 <;> simp [c1, h, g, q]
      · simp [c1, h, g]
  by_cases c2 : k = 2
  · simp [c2]
  by_cases c3 : k = 3
  · rw [U8V.u8ok_valid]
    by_cases h : n = 0 <;> by_cases g : Lib.validD s.data.toList = true <;> simp [c3, h, g]
  by_cases c4 : k = 4
  · by_cases h : n = 0 <;> simp [c4, h]
  · simp [c0, c1, c2, c3, c4]
theorem refmay_calls (k n : Int) (s : ByteArray) (b : Bool) (w : World) (hs : s.size ≤ 140737488355328) (h : mayB k n s = b) :
    Calls Tryd.prog 32 #[.agg #[.int .i64 k, .int .i64 n, .string s]] w fun e w' => e = .returned (.bool b) ∧ Below w.heap.size w w' :=
  pantographref03_May.calls k n s b w (by rw [← h]; exact may_f k n s hs)
end Go.Proofs.YtaddlkokencbkaaDoor.May3
