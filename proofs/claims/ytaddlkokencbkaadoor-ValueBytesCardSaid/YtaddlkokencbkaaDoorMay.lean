/- value.May, by hand: which values may be. -/
import Derived.Test.YtaddlkokencbkaaDoorShelf
import Derived.Test.YtaddlkokencbkaaDoorExact
import Derived.Test.YtaddlkokencbkaaDoorWMore
namespace Go.Proofs.YtaddlkokencbkaaDoor.May
open Go.RowKit Go.Proofs.YtaddlkokencbkaaDoorW.PrintWords Go.Proofs.YtaddlkokencbkaaDoorW.PrintLast Go.Proofs.YtaddlkokencbkaaDoorW.PrintMore Go.Proofs.YtaddlkokencbkaaDoor.Shelf
set_option linter.unusedVariables false
set_option linter.unusedSimpArgs false
theorem Tabs.below {w w1 : World} (h : Tabs w) (hb : Below w.heap.size w w1) : Tabs w1 :=
  ⟨fun c hc => pw_cell_below hb (h.1 c hc), fun i hi => ⟨pw_cell_below hb (h.2 i hi).1, pw_cell_below hb (h.2 i hi).2⟩⟩
def mayB (k n : Int) (s : ByteArray) : Bool :=
  if k = 0 then decide (n = 0) && s.toList.isEmpty
  else if k = 1 then (decide (n = 0) || decide (n = 1)) && s.toList.isEmpty
  else if k = 2 then s.toList.isEmpty
  else if k = 3 then decide ((s.size : Int) ≤ 4096) && decide (n = 0) && Lib.validD s.data.toList
  else if k = 4 then decide ((s.size : Int) ≤ 4096) && decide (n = 0)
  else false
theorem vbool {a b : Bool} (h : a = b) : Ending.returned (.bool a) = .returned (.bool b) := by rw [h]
set_option maxHeartbeats 2000000 in
theorem may_calls (k n : Int) (s : ByteArray) (w : World) (hs : s.size ≤ 140737488355000) (hT : Tabs w) :
    Calls Tryd.prog 31 #[.agg #[.int .i64 k, .int .i64 n, .string s]] w fun e w' => e = .returned (.bool (mayB k n s)) ∧ Below w.heap.size w w' := by
  have HT := Aside0.mk (fun o => Tabs.below hT (below_alloc (Below.refl w.heap.size w) o))
  clear hT
  obtain ⟨V, hV⟩ : ∃ V, Lib.validD s.data.toList = V := ⟨_, rfl⟩
  obtain ⟨r, hr⟩ : ∃ r, mayB k n s = r := ⟨_, rfl⟩
  have HV := Aside0.mk hV
  have HM := Aside0.mk hr
  clear hV
  rw [hr]
  clear hr
  go_enter Tryd.func31, Tryd.ntmps31
  go_wp2_with (first | (go_at_call 54; refine (valid_calls s _ (by omega) (HT.out _)).mono ?_; rintro e w1 ⟨rfl, hb⟩; rw [HV.out]; have HB := Aside0.mk (below_step (below_alloc (Below.refl w.heap.size w) _) hb); clear hb))
  all_goals
    go_ret
    have HV := HV.out
    have HM := HM.out
    refine ⟨vbool (a := _) ?_, ?_⟩
    rotate_left
    first | exact HB.out | exact below_alloc (Below.refl _ _) _
    rw [← HM]
    unfold mayB
    clear HM HT
    first | (simp_all; done) | (subst HV; simp_all; done) | (simp_all; omega) | (by_cases hn0 : n = 0 <;> simp_all; done)
end Go.Proofs.YtaddlkokencbkaaDoor.May
