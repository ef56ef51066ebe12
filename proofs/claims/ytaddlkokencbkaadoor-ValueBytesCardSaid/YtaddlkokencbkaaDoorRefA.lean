/- The contract of pantographref01.digits: the digits of a number from 0 on. -/
import Derived.Test.YtaddlkokencbkaaDoorProg
import Derived.Test.YtaddlkokencbkaaDoorExact
import Derived.Test.YtaddlkokencbkaaDoorWMore
namespace Go.Proofs.YtaddlkokencbkaaDoor.RefA
open Go.RowKit Go.Proofs.YtaddlkokencbkaaDoorW.PrintWords Go.Proofs.YtaddlkokencbkaaDoorW.PrintLast Go.Proofs.YtaddlkokencbkaaDoorW.PrintMore Go.Proofs.YtaddlkokencbkaaDoor.Exact
set_option linter.unusedVariables false
set_option linter.unusedSimpArgs false

theorem info5 : (Tryd.prog.info? 5).map (fun i => (i.zero, i.size, i.bytes)) = some (some (.int .u8 0), 1, 1) := by kernel_rfl

def RelR (n : Nat) (w : World) (v0 v3 : Value) (wr : World) : Prop :=
  ∃ (pre : List Int) (x : Int), v0 = .int .u64 x ∧ 0 ≤ x ∧ x ≤ 18446744073709551615 ∧ digs n = pre ++ digs x.toNat ∧ Kd.R (Kd.int .u8) 5 wr w.heap.size (fun _ => True) v3 pre ∧ Below w.heap.size w wr

theorem digs_more {pre : List Int} {n : Nat} {x : Int} (h0 : 0 ≤ x) (hb : 128 ≤ x) (h : digs n = pre ++ digs x.toNat) : digs n = (pre ++ [x % 128 + 128]) ++ digs (x / 128).toNat := by
  rw [h, digs_big (n := x.toNat) (by omega), List.append_assoc, List.singleton_append]
  congr 2
  · omega
  · congr 1
    omega
theorem digs_last {pre : List Int} {n : Nat} {x : Int} (h0 : 0 ≤ x) (hb : x < 128) (h : digs n = pre ++ digs x.toNat) : pre ++ [x % 128] = digs n := by
  rw [h, digs_small (n := x.toNat) (by omega)]
  congr 2
  omega

set_option maxHeartbeats 1000000 in
theorem digits_calls (y : Int) (w : World) (hy0 : 0 ≤ y) (hy1 : y ≤ 18446744073709551615) :
    Calls Tryd.prog 83 #[.int .u64 y] w fun e w' => ∃ v0_ : Value, e = .returned v0_ ∧ Kd.R (Kd.int .u8) 5 w' w.heap.size (fun _ => True) v0_ (digs y.toNat) ∧ Below w.heap.size w w' := by
  have hl10 : (digs y.toNat).length ≤ 10 := digs_len10 (by omega)
  go_enter Tryd.func83, Tryd.ntmps83
  go_wp2
  go_loopw [0, 3, 4] (fun v0 v3 v4 wr => RelR y.toNat w v0 v3 wr) (fun v0 _ _ _ => (intOf v0).toNat)
  case atStart => exact ⟨[], y, rfl, hy0, hy1, rfl, Kd.R_nil _ _ _ _ _, Below.refl _ _⟩
  case round =>
    obtain ⟨pre, x, rfl, hx0, hx1, he, ho, hb⟩ := hrel
    have hlen : pre.length + (digs x.toNat).length ≤ 10 := by
      have := congrArg List.length he
      simp only [List.length_append] at this
      omega
    have hpos := digs_pos x.toNat
    have LM : Aside0 (pre.length + 1 ≤ 140737488355010) := ⟨by omega⟩
    have HE := Aside0.mk he
    have HB := Aside0.mk hb
    have HO0 := Aside0.mk ho
    have hsz := hb.size
    clear he hb ho hlen hpos hl10
    by_cases hx : 128 ≤ x
    · have c1 : ((x / 128) == 0) = false := by simp; omega
      go_wp2_with (first | (at_builtin; refine R_append_num (w0 := w) w.heap.size rfl (.tmp 16) (.tmp 19) 25 5 .u8 1 rfl Tryd.underlying25 info5 (by omega) u3 pre _ rfl rfl ?aO ?aB ?aS ?aL ?_; (case aO => exact HO0.out); (case aB => exact HB.out); (case aS => exact hsz); (case aL => have := LM.out; omega); intro v1 w1 ho hb hg; have HO := Aside0.mk ho; have HB2 := Aside0.mk hb; clear ho hb hg HB))
      go_roundw
      case rel => exact ⟨_, x / 128, by go_num, by omega, by omega, digs_more hx0 hx HE.out, HO.out, HB2.out⟩
      case measure => simp [intOf]; omega
    · have c1 : ((x / 128) == 0) = true := by simp; omega
      go_wp2_with (first | (at_builtin; refine R_append_num (w0 := w) w.heap.size rfl (.tmp 12) (.tmp 14) 25 5 .u8 1 rfl Tryd.underlying25 info5 (by omega) u3 pre _ rfl rfl ?aO ?aB ?aS ?aL ?_; (case aO => exact HO0.out); (case aB => exact HB.out); (case aS => exact hsz); (case aL => have := LM.out; omega); intro v1 w1 ho hb hg; have HO := Aside0.mk ho; have HB2 := Aside0.mk hb; clear ho hb hg HB))
      go_ret
      exact ⟨_, rfl, by rw [← digs_last hx0 (by omega) HE.out]; exact HO.out, HB2.out⟩
end Go.Proofs.YtaddlkokencbkaaDoor.RefA
