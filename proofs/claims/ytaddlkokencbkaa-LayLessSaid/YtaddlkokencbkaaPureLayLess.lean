/- The pure statement of the law LayLess: of two numbers from 0 on the lesser one has no more bytes, and two have the same bytes just if they are the same. No condition. -/
import Derived.Test.YtaddlkokencbkaaQ7
import Derived.Test.YtaddlkokencbkaaPlain
set_option linter.unusedVariables false
namespace Go.Proofs.Ytaddlkokencbkaa.Pure
open Go.RowKit Go.Proofs.Ytaddlkokencbkaa.Q Go.Proofs.YtaddlkokencbkaaW.PrintWords Go.Proofs.YtaddlkokencbkaaW.PrintLast Go.Proofs.Ytaddlkokencbkaa.Plain Go.Proofs.Ytaddlkokencbkaa.Exact

theorem lives : pantographlaw01_lives.f = some true := by
  have h1 : lay_Number.f ([] : List Int) 300 = some [172, 2] := by
    unfold lay_Number.f Lay.lim
    rw [if_pos (by simp)]
    have : (IntKind.u64.wrap 300).toNat = 300 := by rw [IntKind.wrap_u64]; omega
    rw [this, digs_big (n := 300) (by omega), digs_small (by omega)]
    rfl
  have h2 : lay_Signed.f ([] : List Int) (-3) = some [5] := by
    unfold lay_Signed.f Lay.lim
    rw [if_pos (by simp)]
    have : Lib.zigzag (-3) = 5 := by decide
    rw [this, digs_small (by omega)]
    rfl
  unfold pantographlaw01_lives.f
  rw [h1, h2]
  decide

theorem number {x : Int} (h0 : 0 ≤ x) (h1 : x ≤ 9223372036854775807) : lay_Number.f ([] : List Int) x = some (digs x.toNat) := by
  unfold lay_Number.f Lay.lim
  rw [if_pos (by simp)]
  have : (IntKind.u64.wrap x).toNat = x.toNat := by rw [IntKind.wrap_u64]; omega
  rw [this, List.nil_append]

theorem same {x y : Int} (hx : 0 ≤ x) (hy : 0 ≤ y) : (((strOfNums (digs x.toNat)).toList == (strOfNums (digs y.toNat)).toList) == (x == y)) = true := by
  rw [str_beq (digs_bytes _) (digs_bytes _)]
  have : (digs x.toNat = digs y.toNat) ↔ x = y := ⟨fun h => by have := digs_eq h; omega, fun h => by rw [h]⟩
  rw [beq_iff_eq, Bool.eq_iff_iff, decide_eq_true_iff, beq_iff_eq]
  exact this

theorem tail {x y : Int} (hx : 0 ≤ x) (hy : 0 ≤ y) (L R : Option Bool) (hl : L = some true) (hr : R = some true) :
    (if x > y then L else if ((digs x.toNat).length : Int) ≤ ((digs y.toNat).length : Int) then R else some false) = some true := by
  split
  · exact hl
  · have := digs_mono x.toNat y.toNat (by omega)
    rw [if_pos (by omega)]
    exact hr

theorem flip {x : Int} (h1 : -9223372036854775808 ≤ x) (h2 : x < 0) : wrap64 (-(wrap64 (x + 1))) = -(x + 1) := by
  unfold wrap64
  omega

theorem j0 {x y : Int} (hx : 0 ≤ x) (hx1 : x ≤ 9223372036854775807) (hy0 : -9223372036854775808 ≤ y) (hy1 : y ≤ 9223372036854775807) (k : Nat) : pantographlaw01_LayLess.j0 (k + 1) x y = some true := by
  simp only [pantographlaw01_LayLess.j0]
  by_cases h : y < 0
  · rw [if_pos h, flip hy0 h, number hx hx1, number (x := -(y + 1)) (by omega) (by omega)]
    simp only [Option.bind_some]
    rw [if_pos (same hx (by omega)), lives]
    exact tail hx (by omega) _ _ rfl rfl
  · rw [if_neg h, number hx hx1, number (x := y) (by omega) hy1]
    simp only [Option.bind_some]
    rw [if_pos (same hx (by omega)), lives]
    exact tail hx (by omega) _ _ rfl rfl

theorem wf_range {x : Int} (h : (Lit.int .i64 x).wf = true) : -9223372036854775808 ≤ x ∧ x ≤ 9223372036854775807 := by
  simp [Lit.wf, IntKind.min, IntKind.max, IntKind.bits, IntKind.signed] at h
  omega

theorem LayLess : pantographlaw01_LayLess.Pure := by
  intro a b ha hb
  have := wf_range ha
  have := wf_range hb
  refine ⟨1, ?_⟩
  unfold pantographlaw01_LayLess.f
  by_cases h : a < 0
  · rw [if_pos h, flip (by omega) h]
    exact j0 (by omega) (by omega) (by omega) (by omega) 0
  · rw [if_neg h]
    exact j0 (by omega) (by omega) (by omega) (by omega) 0

end Go.Proofs.Ytaddlkokencbkaa.Pure
