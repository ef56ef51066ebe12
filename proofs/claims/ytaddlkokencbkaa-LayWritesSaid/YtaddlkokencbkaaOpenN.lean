/- Arguments opened: slices of whole numbers as lists. -/
import Derived.Test.YtaddlkokencbkaaProg
import Derived.Test.YtaddlkokencbkaaWMore
import Derived.Deep.Slices
import Derived.Deep.Fields
import Derived.ChangeSame
import Derived.ProofKit
import Derived.OpenShut
import Derived.ShutString
namespace Go.Proofs.Ytaddlkokencbkaa.OpenN
open Go.RowKit Go.Proofs.YtaddlkokencbkaaW.PrintWords Go.Proofs.YtaddlkokencbkaaW.PrintLast
open Go.ChangeShapes Go.WideShapes Go.Deep
set_option linter.unusedVariables false
def RangeI (x : Int) : Prop := -9223372036854775808 ≤ x ∧ x ≤ 9223372036854775807
theorem rangeI_of {x : Int} (h : (Lit.int .i64 x).wf = true) : RangeI x := by
  simp [Lit.wf, IntKind.min, IntKind.max, IntKind.bits, IntKind.signed] at h
  unfold RangeI
  omega
section
variable {H : Type} {enc : TypeId × Value → H} {w : World} {spare : Nat → Bool} {held : Bool}
theorem open_nums {T E : TypeId} {k : IntKind} (hT : Try.prog.underlying T = some (.slice E)) (hE : Try.prog.underlying E = some (.int k)) (hc : Try.prog.cellsOf E = 1) {base fuel : Nat} {cs : List Value} {x : DataW H × List MemPlace}
    (h : DataW.trod enc Try.prog w base spare held fuel T cs = some x) :
    ∃ (A : Option Addr) (c : Nat) (l : List Int), cs = [.slice A l.length c] ∧ l.length ≤ c ∧ Kd.C (Kd.int k) w A l.length l ∧ ∀ y ∈ l, (Lit.int k y).wf = true := by
  rcases open_ints hT hE hc h with ⟨rfl, _⟩ | ⟨a, len, cap, zs, rfl, _, hl, hm, hz, _, hcell, hwz⟩
  · exact ⟨none, 0, [], rfl, Nat.le_refl _, Kd.C_nil _ _, fun y hy => by cases hy⟩
  · have hzl : len ≤ zs.length := by rw [hz]; split <;> omega
    have hlt : (zs.take len).length = len := by rw [List.length_take]; omega
    refine ⟨some a, cap, zs.take len, ?_, ?_, Kd.C_of_reads (d := (0 : Int)) (h1 := fun _ => rfl) ⟨rfl, ?_, fun _ => ⟨a, rfl, fun j hj => ?_⟩⟩, fun y hy => hwz y (List.mem_of_mem_take hy)⟩
    · rw [hlt]
    · rw [hlt]; exact hl
    · rw [hlt]; simp only [maxLen] at hm; omega
    · rw [hlt] at hj
      rw [hcell j (by omega)]
      simp [List.getD_eq_getElem?_getD, hj]
end
end Go.Proofs.Ytaddlkokencbkaa.OpenN
