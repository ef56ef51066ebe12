/- value.Show, by hand. -/
import Derived.Test.YtaddlkokencbkaaDoorMay
import Derived.Test.YtaddlkokencbkaaDoorQ23
import Derived.Lib.AppendIntMem
namespace Go.Proofs.YtaddlkokencbkaaDoor.Show
open Go.RowKit Go.Proofs.YtaddlkokencbkaaDoorW.PrintWords Go.Proofs.YtaddlkokencbkaaDoorW.PrintLast Go.Proofs.YtaddlkokencbkaaDoorW.PrintMore Go.Proofs.YtaddlkokencbkaaDoor.Shelf Go.Proofs.YtaddlkokencbkaaDoor.May Go.Proofs.YtaddlkokencbkaaDoor.Q
set_option linter.unusedVariables false
set_option linter.unusedSimpArgs false
theorem var_below {P : Program} {w w' : World} {n : String} {cs : Array Value} (h : w.var? P n = some cs) (hb : Below w.heap.size w w') : w'.var? P n = some cs := by
  unfold World.var? at h ⊢
  cases hg : P.globalNamed n with
  | none => rw [hg] at h; cases h
  | some g =>
    rw [hg] at h
    simp only [Option.bind_some] at h ⊢
    have hlt : g < w.heap.size := by
      rcases Nat.lt_or_ge g w.heap.size with h1 | h1
      · exact h1
      · rw [Array.getElem?_eq_none h1] at h
        cases h
    rw [hb.block g hlt]
    exact h
theorem Pow.below {w w1 : World} (h : Pow w) (hb : Below w.heap.size w w1) : Pow w1 := var_below h hb
theorem grown {w w1 : World} {k : Nat} {os : Array Obj} (h : w1 = Sort.grow (w.drewN k) os) : Below w.heap.size w w1 := by
  subst h
  exact Lib.below_grow _ _ (Nat.le_refl _) k os
/-- The text of a value, q the quoted text. -/
def showS (k n : Int) (q : ByteArray) : ByteArray :=
  if k = 0 then ⟨#[110, 117, 108, 108]⟩ else if k = 1 then ⟨(Lib.formatBool (n == 1)).toArray⟩ else if k = 2 then ⟨(Lib.itoa n).toArray⟩ else q
theorem vstr {a b : ByteArray} (h : a = b) : Ending.returned (.string a) = .returned (.string b) := by rw [h]
set_option maxHeartbeats 2000000 in
theorem show_calls (K : Nat) (k n : Int) (s q : ByteArray) (w : World) (h0 : -9223372036854775808 ≤ n) (h1 : n ≤ 9223372036854775807) (hP : Pow w) (hq : value_quoted.f K s = some q) :
    Calls Tryd.prog 29 #[.agg #[.int .i64 k, .int .i64 n, .string s]] w fun e w' => e = .returned (.string (showS k n q)) ∧ Below w.heap.size w w' := by
  have HP := Aside0.mk (fun o => Pow.below hP (below_alloc (Below.refl w.heap.size w) o))
  have HQ := Aside0.mk hq
  clear hP hq
  obtain ⟨r, hr⟩ : ∃ r, showS k n q = r := ⟨_, rfl⟩
  have HM := Aside0.mk hr
  rw [hr]
  clear hr
  have HA := Aside0.mk (fun o => below_alloc (Below.refl w.heap.size w) o)
  go_enter Tryd.func29, Tryd.ntmps29
  go_wp2_with (first | (go_at_call 51; refine (itoa_calls n h0 h1 _ (HP.out _)).mono ?_; rintro e w1 ⟨rfl, kk, os, hw⟩; have HB := Aside0.mk (below_step (HA.out _) (grown hw)); clear hw) | (go_at_call 50; refine (bool_calls _ _).mono ?_; rintro e w1 ⟨rfl, rfl⟩) | (go_at_call 52; refine (value_quoted.calls K s q _ HQ.out).mono ?_; rintro e w1 ⟨rfl, hb⟩; have HB := Aside0.mk (below_step (HA.out _) hb); clear hb))
  all_goals
    go_ret
    have HM := HM.out
    refine ⟨vstr (a := _) ?_, ?_⟩
    rotate_left
    first | exact HB.out | exact HA.out _
    rw [← HM]
    unfold showS
    clear HM HP HQ
    simp_all
end Go.Proofs.YtaddlkokencbkaaDoor.Show
