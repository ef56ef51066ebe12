/- The law's own helpers few and lives. -/
import Derived.Test.YtaddlkokencbkaaRd
namespace Go.Proofs.Ytaddlkokencbkaa.Few
open Go.RowKit Go.Proofs.YtaddlkokencbkaaW.PrintWords Go.Proofs.YtaddlkokencbkaaW.PrintLast Go.Proofs.YtaddlkokencbkaaW.PrintMore Go.Proofs.Ytaddlkokencbkaa.Exact Go.Proofs.Ytaddlkokencbkaa.Rd Go.Proofs.Ytaddlkokencbkaa.Lay
set_option linter.unusedVariables false
set_option linter.unusedSimpArgs false
theorem C_cell {w : World} {A : Option Addr} {n : Nat} {xs : List Int} (h : Kd.C (Kd.int .u8) w A n xs) (j : Nat) (hj : j < n) : ∃ ad, A = some ad ∧ w.cell? (ad.add j) = some (.int .u8 (xs.getD j 0)) := by
  obtain ⟨ad, cs, e, hcl, hk, hc⟩ := Kd.C_get h 0 j (by omega) (by omega)
  match cs, hcl with
  | [u], _ =>
    have h2 := hc 0 u rfl
    obtain rfl : u = .int .u8 (xs.getD j 0) := by
      have := hk
      simpa [Kd.int, Kd.scalar] using this
    refine ⟨ad, e, ?_⟩
    rw [show (Kd.int .u8).sz = 1 from rfl] at h2
    simpa using h2
theorem add0 (ad : Addr) : ad.add 0 = ad := by simp [Addr.add]
theorem add1 (ad : Addr) (k : Nat) : ad.add (k + 1) = ⟨ad.block, ad.off + (k + 1), none⟩ := by simp [Addr.add]
theorem wf_u8 {l : List Int} (h : ∀ y ∈ l, (Lit.int .u8 y).wf = true) : ∀ y ∈ l, 0 ≤ y ∧ y < 256 := fun y hy => by
  have := h y hy
  simp [Lit.wf, IntKind.min, IntKind.max, IntKind.signed, IntKind.bits] at this
  omega
theorem few_calls2 (w : World) (A : Option Addr) (l : List Int) (c : Nat) (hc : l.length ≤ c) :
    Calls Try.prog 15 #[.slice A l.length c] w fun r w' => r = .returned (.slice A (l.take 100).length c) ∧ w = w' := by
  by_cases hl : 100 < l.length
  · have c1 : decide ((l.length : Int) > 100) = true := decide_eq_true (by omega)
    have E : Aside0 ((l.take 100).length = 100) := ⟨by rw [List.length_take]; omega⟩
    go_enter Try.func15, Try.ntmps15
    go_wp2
    go_ret
    exact ⟨by rw [E.out]; rfl, rfl⟩
  · have c1 : decide ((l.length : Int) > 100) = false := decide_eq_false (by omega)
    have E : Aside0 ((l.take 100).length = l.length) := ⟨by rw [List.length_take]; omega⟩
    go_enter Try.func15, Try.ntmps15
    go_wp2
    go_ret
    exact ⟨by rw [E.out]; rfl, rfl⟩
theorem few_calls (w : World) (A : Option Addr) (l : List Int) (c : Nat) (h : Kd.C (Kd.int .u8) w A l.length l) (hc : l.length ≤ c) :
    Calls Try.prog 15 #[.slice A l.length c] w fun r w' => r = .returned (.slice A (l.take 100).length c) ∧ w = w' := few_calls2 w A l c hc
theorem d300 : digs (IntKind.u64.wrap 300).toNat = [172, 2] := by
  rw [show (IntKind.u64.wrap 300).toNat = 300 by decide, digs_big (by omega), digs_small (by omega)]
  rfl
theorem d3 : digs (Lib.zigzag (-3)) = [5] := by
  rw [show Lib.zigzag (-3) = 5 by decide, digs_small (by omega)]
  rfl
theorem lives_calls (w : World) : Calls Try.prog 14 #[] w fun r w' => r = .returned (.bool true) ∧ Below w.heap.size w w' := by
  go_enter Try.func14, Try.ntmps14
  go_wp2_with (first | (go_at_call 13; refine (number_calls none 0 [] 300 w (Kd.C_nil _ _) (by simp) (by simp)).mono ?_; rintro e w1 ⟨v, rfl, ho, hb⟩; rw [List.nil_append, d300] at ho; obtain ⟨A, c, rfl, hc, hC⟩ := Kd.R_reads ho; obtain ⟨ad, rfl, q0⟩ := C_cell hC 0 (by simp); obtain ⟨ad', e', q1⟩ := C_cell hC 1 (by simp); obtain rfl := Option.some.inj e'; have HB := Aside0.mk hb; have Q0 := Aside0.mk q0; have Q1 := Aside0.mk q1; clear ho hb hC q0 q1 e' hc) | (go_at_call 17; refine (signed_calls none 0 [] (-3) w1 (Kd.C_nil _ _) (by simp) (by simp) (by omega) (by omega)).mono ?_; rintro e w2 ⟨v, rfl, ho, hb⟩; rw [List.nil_append, d3] at ho; obtain ⟨A2, c2, rfl, hc, hC⟩ := Kd.R_reads ho; obtain ⟨ad2, rfl, r0⟩ := C_cell hC 0 (by simp); have q0 := pw_cell_below hb Q0.out; have q1 := pw_cell_below hb Q1.out; have HB2 := Aside0.mk (below_step HB.out hb); rw [add0] at q0 r0; rw [add1 _ 0] at q1; simp at q0 q1 r0; clear ho hb hC hc))
  go_ret
  exact ⟨rfl, HB2.out⟩
end Go.Proofs.Ytaddlkokencbkaa.Few
