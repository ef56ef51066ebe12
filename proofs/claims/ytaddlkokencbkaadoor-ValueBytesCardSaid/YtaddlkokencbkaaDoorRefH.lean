/- Contracts of pantographref01.Number, Signed, Text, walked. -/
import Derived.Test.YtaddlkokencbkaaDoorRefA
import Derived.Test.YtaddlkokencbkaaDoorLay
namespace Go.Proofs.YtaddlkokencbkaaDoor.RefH
open Go.RowKit Go.Proofs.YtaddlkokencbkaaDoorW.PrintWords Go.Proofs.YtaddlkokencbkaaDoorW.PrintLast Go.Proofs.YtaddlkokencbkaaDoorW.PrintMore Go.Proofs.YtaddlkokencbkaaDoor.Exact
set_option linter.unusedVariables false
set_option linter.unusedSimpArgs false
theorem number_calls (n : Int) (w : World) (h0 : 0 ≤ n) (h1 : n ≤ 9223372036854775807) :
    Calls Tryd.prog 84 #[.int .i64 n] w fun e w' => ∃ v : Value, e = .returned v ∧ Kd.R (Kd.int .u8) 5 w' w.heap.size (fun _ => True) v (digs n.toNat) ∧ Below w.heap.size w w' := by
  go_enter Tryd.func84, Tryd.ntmps84
  go_wp2_with (first | (go_at_call 83; refine (RefA.digits_calls n w h0 (by omega)).mono ?_; rintro e w1 ⟨v, rfl, ho, hb⟩; have HO := Aside0.mk ho; have HB := Aside0.mk hb; clear ho hb))
  go_ret
  exact ⟨_, rfl, HO.out, HB.out⟩
theorem signed_calls (n : Int) (w : World) (h1 : -9223372036854775808 ≤ n) (h2 : n ≤ 9223372036854775807) :
    Calls Tryd.prog 61 #[.int .i64 n] w fun e w' => ∃ v : Value, e = .returned v ∧ Kd.R (Kd.int .u8) 5 w' w.heap.size (fun _ => True) v (digs (Lib.zigzag n)) ∧ Below w.heap.size w w' := by
  have HZ := Aside0.mk (Lib.zigzag_lt h1 h2)
  by_cases hn : 0 ≤ n
  · have EZ : Aside0 ((2 * n).toNat = Lib.zigzag n) := ⟨by unfold Lib.zigzag; rw [if_pos hn]⟩
    go_enter Tryd.func61, Tryd.ntmps61
    go_wp2_with (first | (go_at_call 83; refine (RefA.digits_calls (2 * n) w (by omega) (by omega)).mono ?_; rintro e w1 ⟨v, rfl, ho, hb⟩; rw [EZ.out] at ho; have HO := Aside0.mk ho; have HB := Aside0.mk hb; clear ho hb))
    go_ret
    exact ⟨_, rfl, HO.out, HB.out⟩
  · have EZ : Aside0 ((-2 * n - 1).toNat = Lib.zigzag n) := ⟨by unfold Lib.zigzag; rw [if_neg hn]⟩
    go_enter Tryd.func61, Tryd.ntmps61
    go_wp2_with (first | (go_at_call 83; refine (RefA.digits_calls (2 * (-(n + 1)) + 1) w (by omega) (by omega)).mono ?_; rintro e w1 ⟨v, rfl, ho, hb⟩; rw [show (2 * (-(n + 1)) + 1).toNat = Lib.zigzag n by rw [← EZ.out]; congr 1; omega] at ho; have HO := Aside0.mk ho; have HB := Aside0.mk hb; clear ho hb))
    go_ret
    exact ⟨_, rfl, HO.out, HB.out⟩
theorem text_calls (s : ByteArray) (w : World) (hs : s.size ≤ 140737488355000) :
    Calls Tryd.prog 62 #[.string s] w fun e w' => ∃ v : Value, e = .returned v ∧ Kd.R (Kd.int .u8) 5 w' w.heap.size (fun _ => True) v (digs s.size ++ bytesOf s) ∧ Below w.heap.size w w' := by
  have HL : Aside0 ((digs s.size).length + s.size ≤ 140737488355328) := ⟨by have := digs_len10 (n := s.size) (by omega); omega⟩
  go_enter Tryd.func62, Tryd.ntmps62
  go_wp2_with (first | (go_at_call 84; refine (number_calls (s.size : Int) w (by omega) (by omega)).mono ?_; rintro e w1 ⟨v1, rfl, ho, hb⟩; rw [Int.toNat_natCast] at ho; have HO := Aside0.mk ho; have HB := Aside0.mk hb; have hsz := hb.size; clear ho hb) | (at_builtin; refine print_append_str (w0 := w) w.heap.size rfl (.tmp 5) (.tmp 6) 25 9 5 rfl Tryd.underlying25 Tryd.underlying9 Lay.info5 v1 (digs s.size) s rfl rfl ?aO ?aB ?aS ?aL ?_; (case aO => exact Kd.own_of_R HO.out); (case aB => exact HB.out); (case aS => exact hsz); (case aL => exact HL.out); intro v2 w2 ho0 hb hg; have HO2 := Aside0.mk ho0; have HB2 := Aside0.mk hb; clear ho0 hb hg HB))
  go_ret
  exact ⟨_, rfl, Kd.R_of_own (h1 := fun _ => rfl) (ok := fun _ => True) HO2.out (fun _ _ => trivial), HB2.out⟩
end Go.Proofs.YtaddlkokencbkaaDoor.RefH
