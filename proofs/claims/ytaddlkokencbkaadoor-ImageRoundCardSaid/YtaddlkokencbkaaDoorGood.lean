/- The contract of pantographref03.Good: a value that may be, made of any. -/
import Derived.Test.YtaddlkokencbkaaDoorProg
import Derived.Test.YtaddlkokencbkaaDoorUtf
import Derived.Outline
namespace Go.Proofs.YtaddlkokencbkaaDoor.Good
open Go.RowKit Go.Proofs.YtaddlkokencbkaaDoorW.PrintWords Go.Proofs.YtaddlkokencbkaaDoorW.PrintLast Go.Proofs.YtaddlkokencbkaaDoorW.PrintMore
set_option linter.unusedVariables false
set_option linter.unusedSimpArgs false

/-- The first 40 bytes. -/
def cut40 (t : ByteArray) : ByteArray := if (t.size : Int) > 40 then t.extract 0 40 else t
def kindOf (k : Int) : Int := if k < 0 then Int.tmod (wrap64 (-(wrap64 (k + 1)))) 5 else Int.tmod k 5
def goodV (k n : Int) (t : ByteArray) : Int × Int × ByteArray :=
  (kindOf k, if kindOf k = 1 then (if Int.tmod n 2 = 0 then 0 else 1) else if kindOf k = 2 then n else 0,
    if kindOf k = 3 then (if Utf.u8ok (cut40 t) = true then cut40 t else ⟨#[]⟩) else if kindOf k = 4 then cut40 t else ⟨#[]⟩)

theorem cut40_size (t : ByteArray) : (cut40 t).size ≤ 40 := by
  unfold cut40
  split
  · simp only [ByteArray.size_extract]; omega
  · omega

theorem gv {k n : Int} {t : ByteArray} {K : Int} {T : ByteArray} (hK : kindOf k = K) (hT : cut40 t = T) :
    goodV k n t = (K, if K = 1 then (if Int.tmod n 2 = 0 then 0 else 1) else if K = 2 then n else 0, if K = 3 then (if Utf.u8ok T = true then T else ⟨#[]⟩) else if K = 4 then T else ⟨#[]⟩) := by
  subst hK
  subst hT
  rfl
theorem ends {k n : Int} {t : ByteArray} {K N : Int} {T : ByteArray} (h : goodV k n t = (K, N, T)) :
    Ending.returned (.agg #[.int .i64 K, .int .i64 N, .string T]) = Ending.returned (.agg #[.int .i64 (goodV k n t).1, .int .i64 (goodV k n t).2.1, .string (goodV k n t).2.2]) := by rw [h]

set_option maxHeartbeats 4000000 in
set_option maxRecDepth 100000 in
theorem good_calls (k n : Int) (t : ByteArray) (w : World) :
    Calls Tryd.prog 28 #[.agg #[.int .i64 k, .int .i64 n, .string t]] w fun e w' => e = .returned (.agg #[.int .i64 (goodV k n t).1, .int .i64 (goodV k n t).2.1, .string (goodV k n t).2.2]) ∧ Below w.heap.size w w' := by
  obtain ⟨T, hT⟩ : ∃ T, T = cut40 t := ⟨_, rfl⟩
  have hTs : T.size ≤ 140737488355328 := by rw [hT]; have := cut40_size t; omega
  by_cases c1 : k < 0
  · have d1 : decide (k < 0) = true := decide_eq_true c1
    have eK : kindOf k = Int.tmod (wrap64 (-(wrap64 (k + 1)))) 5 := by unfold kindOf; rw [if_pos c1]
    have HK := Aside0.mk eK
    clear eK c1
    by_cases c2 : (t.size : Int) > 40
    · have d2 : decide (40 < (t.size : Int)) = true := decide_eq_true c2
      have d3 : decide (40 < t.size) = true := decide_eq_true (by omega)
      have c3 : 40 ≤ t.size := by omega
      have c4 : (40 : Int) ≤ (t.size : Int) := by omega
      have eT : T = t.extract 0 40 := by rw [hT]; unfold cut40; rw [if_pos c2]
      subst eT
      have HT := Aside0.mk hT
      clear hT c2
      go_enter Tryd.func28, Tryd.ntmps28
      go_wp2_with (first | (go_at_call 49; refine (Utf.utf8_calls _ hTs _).mono ?_; rintro e w' ⟨rfl, ⟨nd, rfl⟩⟩))
      all_goals (refine bodyPost_ret (v := .agg #[_, _, _]) (by simp [results, Tryd.results28, go_sem]; exact ⟨rfl, rfl, rfl⟩) rfl ⟨ends ?_, ?_⟩)
      all_goals first | (rw [gv HK.out HT.out.symm]; simp only [beq_iff_eq, bne_iff_ne, beq_eq_false_iff_ne, bne_eq_false_iff_eq] at *; simp [*]; done) | (repeat (first | exact Below.refl _ _ | refine Below.setCell ?_ (by first | (simp; done) | (simp; omega)) _ | refine Below.alloc ?_ (by first | (simp; done) | (simp; omega)) _ | apply pw_below_drewN))
    · have d2 : decide (40 < (t.size : Int)) = false := decide_eq_false c2
      have d3 : decide (40 < t.size) = false := decide_eq_false (by omega)
      have eT : T = t := by rw [hT]; unfold cut40; rw [if_neg c2]
      subst eT
      have HT := Aside0.mk hT
      clear hT c2
      go_enter Tryd.func28, Tryd.ntmps28
      go_wp2_with (first | (go_at_call 49; refine (Utf.utf8_calls _ hTs _).mono ?_; rintro e w' ⟨rfl, ⟨nd, rfl⟩⟩))
      all_goals (refine bodyPost_ret (v := .agg #[_, _, _]) (by simp [results, Tryd.results28, go_sem]; exact ⟨rfl, rfl, rfl⟩) rfl ⟨ends ?_, ?_⟩)
      all_goals first | (rw [gv HK.out HT.out.symm]; simp only [beq_iff_eq, bne_iff_ne, beq_eq_false_iff_ne, bne_eq_false_iff_eq] at *; simp [*]; done) | (repeat (first | exact Below.refl _ _ | refine Below.setCell ?_ (by first | (simp; done) | (simp; omega)) _ | refine Below.alloc ?_ (by first | (simp; done) | (simp; omega)) _ | apply pw_below_drewN))
  · have d1 : decide (k < 0) = false := decide_eq_false c1
    have eK : kindOf k = Int.tmod k 5 := by unfold kindOf; rw [if_neg c1]
    have HK := Aside0.mk eK
    clear eK c1
    by_cases c2 : (t.size : Int) > 40
    · have d2 : decide (40 < (t.size : Int)) = true := decide_eq_true c2
      have d3 : decide (40 < t.size) = true := decide_eq_true (by omega)
      have c3 : 40 ≤ t.size := by omega
      have c4 : (40 : Int) ≤ (t.size : Int) := by omega
      have eT : T = t.extract 0 40 := by rw [hT]; unfold cut40; rw [if_pos c2]
      subst eT
      have HT := Aside0.mk hT
      clear hT c2
      go_enter Tryd.func28, Tryd.ntmps28
      go_wp2_with (first | (go_at_call 49; refine (Utf.utf8_calls _ hTs _).mono ?_; rintro e w' ⟨rfl, ⟨nd, rfl⟩⟩))
      all_goals (refine bodyPost_ret (v := .agg #[_, _, _]) (by simp [results, Tryd.results28, go_sem]; exact ⟨rfl, rfl, rfl⟩) rfl ⟨ends ?_, ?_⟩)
      all_goals first | (rw [gv HK.out HT.out.symm]; simp only [beq_iff_eq, bne_iff_ne, beq_eq_false_iff_ne, bne_eq_false_iff_eq] at *; simp [*]; done) | (repeat (first | exact Below.refl _ _ | refine Below.setCell ?_ (by first | (simp; done) | (simp; omega)) _ | refine Below.alloc ?_ (by first | (simp; done) | (simp; omega)) _ | apply pw_below_drewN))
    · have d2 : decide (40 < (t.size : Int)) = false := decide_eq_false c2
      have d3 : decide (40 < t.size) = false := decide_eq_false (by omega)
      have eT : T = t := by rw [hT]; unfold cut40; rw [if_neg c2]
      subst eT
      have HT := Aside0.mk hT
      clear hT c2
      go_enter Tryd.func28, Tryd.ntmps28
      go_wp2_with (first | (go_at_call 49; refine (Utf.utf8_calls _ hTs _).mono ?_; rintro e w' ⟨rfl, ⟨nd, rfl⟩⟩))
      all_goals (refine bodyPost_ret (v := .agg #[_, _, _]) (by simp [results, Tryd.results28, go_sem]; exact ⟨rfl, rfl, rfl⟩) rfl ⟨ends ?_, ?_⟩)
      all_goals first | (rw [gv HK.out HT.out.symm]; simp only [beq_iff_eq, bne_iff_ne, beq_eq_false_iff_ne, bne_eq_false_iff_eq] at *; simp [*]; done) | (repeat (first | exact Below.refl _ _ | refine Below.setCell ?_ (by first | (simp; done) | (simp; omega)) _ | refine Below.alloc ?_ (by first | (simp; done) | (simp; omega)) _ | apply pw_below_drewN))
end Go.Proofs.YtaddlkokencbkaaDoor.Good
