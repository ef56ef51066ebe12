/- Plain law: pantographref04.Row is rowOf. -/
import Derived.Test.YtaddlkokencbkaaDoorQ6
import Derived.Test.YtaddlkokencbkaaDoorImg
namespace Go.Proofs.YtaddlkokencbkaaDoor.Img
open Go.RowKit Go.Proofs.YtaddlkokencbkaaDoorW.PrintWords Go.Proofs.YtaddlkokencbkaaDoorW.PrintLast Go.Proofs.YtaddlkokencbkaaDoorW.PrintMore Go.Proofs.YtaddlkokencbkaaDoor.Q Go.Proofs.YtaddlkokencbkaaDoor.Plain Go.Proofs.YtaddlkokencbkaaDoor.Exact Go.Proofs.YtaddlkokencbkaaDoor.OpenA
set_option linter.unusedVariables false
theorem row_l0 (l : List S69) (a : Int) (m : List S51) (hl : l.length ≤ 1000) : ∀ (d i : Nat), l.length - i = d → i ≤ l.length →
    Ev (fun k => pantographref04_Row.l0 k m (rowOf l m i) (i : Int) l a) (rowOf l m l.length) := by
  intro d
  induction d with
  | zero =>
    intro i hd hi
    obtain rfl : i = l.length := by omega
    refine Ev.step (f := fun _ => some (rowOf l m l.length)) (fun k => ?_) (Ev.now _)
    simp only [pantographref04_Row.l0]
    rw [if_neg (by omega)]
  | succ d ih =>
    intro i hd hi
    have e : wrap64 ((i : Int) + 1) = ((i + 1 : Nat) : Int) := by unfold wrap64; omega
    have hlen : (rowOf l m i).length < 4398046511104 := by rw [rowOf_length]; omega
    refine Ev.step (fun k => ?_) (ih (i + 1) (by omega) (by omega))
    simp only [pantographref04_Row.l0]
    rw [if_pos (by omega), rowOf_snoc]
    by_cases hm : (i : Int) < (m.length : Int)
    · rw [if_pos hm, if_pos (by omega)]
      by_cases h2 : (rd_T69 l (i : Int)).f2 = true
      · rw [if_pos h2]
        by_cases h3 : Int.tmod (rd_T51 m (i : Int)).f0 3 = 0
        · rw [if_pos h3, if_pos hlen, e, rowV, if_pos ⟨h2, h3⟩]
        · rw [if_neg h3, rowV, if_neg (fun h => h3 h.2)]
          simp only [pantographref03_Good.f, Option.bind_some]
          rw [if_pos hlen, e]
      · rw [if_neg h2, rowV, if_neg (fun h => h2 h.1)]
        simp only [pantographref03_Good.f, Option.bind_some]
        rw [if_pos hlen, e]
    · rw [if_neg hm, if_pos (by omega), rd_out m i (by omega)]
      by_cases h2 : (rd_T69 l (i : Int)).f2 = true
      · rw [if_pos h2, if_pos (by decide), if_pos hlen, e, rowV, if_pos ⟨h2, by decide⟩]
      · rw [if_neg h2, rowV, if_neg (fun h => h2 h.1)]
        simp only [pantographref03_Good.f, Option.bind_some]
        rw [if_pos hlen, e]
theorem row_f (l : List S69) (a : Int) (m : List S51) (hl : l.length ≤ 1000) : Ev (fun k => pantographref04_Row.f k l a m) (rowOf l m l.length) :=
  Ev.congr (fun k => by unfold pantographref04_Row.f; rfl) (row_l0 l a m hl l.length 0 (by omega) (by omega))
end Go.Proofs.YtaddlkokencbkaaDoor.Img
