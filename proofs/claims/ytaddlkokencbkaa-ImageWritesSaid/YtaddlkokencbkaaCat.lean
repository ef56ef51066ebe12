/- Contracts of slices.Grow at nil and of slices.Concat at rows of bytes: the rows, one behind the other, in new memory. -/
import Derived.Test.YtaddlkokencbkaaProg
import Derived.Test.YtaddlkokencbkaaLay
import Derived.Lib.AppendZeros
import Derived.WalkSpells
namespace Go.Proofs.Ytaddlkokencbkaa.Cat
open Go.RowKit Go.Proofs.YtaddlkokencbkaaW.PrintWords Go.Proofs.YtaddlkokencbkaaW.PrintLast Go.Proofs.YtaddlkokencbkaaW.PrintMore Go.Proofs.Ytaddlkokencbkaa.Exact
set_option linter.unusedVariables false
set_option linter.unusedSimpArgs false

theorem own_empty (w : World) (cur : Array Value) (cap : Nat) (hc : cur.size = cap) (hm : cap ≤ maxLen) : Kd.R (Kd.int .u8) 5 (w.alloc (.cells cur 5)) w.heap.size (fun _ => True) (.slice (some ⟨w.heap.size, 0, none⟩) 0 cap) [] :=
  Kd.R_of_own (h1 := fun _ => rfl) (ok := fun _ => True) (xs := []) ⟨rfl, .inr ⟨w.heap.size, cap, cur, rfl, Nat.le_refl _, heap_alloc_new w _, Nat.zero_le _, hm, by omega, by simp [encs]⟩⟩ (fun _ _ => trivial)

set_option maxHeartbeats 1000000 in
theorem grow_calls (n : Nat) (w : World) (h1 : n ≤ Lay.lim) :
    Calls Try.prog 53 #[.slice none 0 0, .int .i64 (n : Int)] w fun e w' => ∃ v0_ : Value, e = .returned v0_ ∧ Kd.R (Kd.int .u8) 5 w' w.heap.size (fun _ => True) v0_ [] ∧ Below w.heap.size w w' := by
  unfold Lay.lim at h1
  obtain ⟨i0, hi, hz0, hz1, hz2⟩ := info_parts Lay.info5
  have hi' := Aside0.mk hi
  have hz0' := Aside0.mk hz0
  have hz1' := Aside0.mk hz1
  have hz2' := Aside0.mk hz2
  clear hi hz0 hz1 hz2
  by_cases hn : n = 0
  · subst hn
    go_enter Try.func53, Try.ntmps53
    go_wp2
    go_ret
    exact ⟨_, rfl, Kd.R_nil _ _ _ _ _, Below.refl _ _⟩
  · have c1 : decide (0 < (n : Int)) = true := by simp; omega
    have hn0 : (0 : Int) < n := by omega
    have NZ := Aside0.mk hn
    clear hn
    go_enter Try.func53, Try.ntmps53
    go_wp2_with (first | (at_builtin; refine Lib.wpList_append_run _ rfl (.tmp 20) (.tmp 21) 22 3 rfl (.slice none 0 0) (.int .i64 (n : Int)) rfl rfl _ _ (Lib.run_append_nil_zeros w 22 3 _ 5 i0 (.int .u8 0) .i64 .i64 Try.underlying22 Try.underlying3 hi'.out hz0'.out n ?aN ?aS ?aM ?aB) ?_; (case aN => omega); (case aS => have := hz1'.out; omega); (case aM => omega); (case aB => rw [hz2'.out]; omega)))
    go_ret
    have hge := grownCap_ge w n 0 5
    refine ⟨_, rfl, Kd.R_drew (own_empty w _ _ ?_ (grownCap_le_maxLen w n 0 5 (by simp only [maxLen]; omega))), below_drew (below_alloc (Below.refl _ _) _)⟩
    simp only [Array.size_append, size_zeroCells]
    show n * 1 + (grownCap w n 0 5 - n) * 1 = _
    omega

def ByteRows (w : World) (A : Option Addr) (l : List (List Int)) : Prop := Kd.C (Kd.slice 5 (Kd.int .u8)) w A l.length l
def total (l : List (List Int)) : Nat := l.flatten.length
theorem total_take (l : List (List Int)) (k : Nat) (h : k < l.length) : total (l.take (k + 1)) = total (l.take k) + (l.getD k []).length := by
  unfold total
  rw [List.take_succ_eq_append_getElem h, List.flatten_append, List.length_append]
  simp [List.getD_eq_getElem?_getD, h]
theorem total_le (l : List (List Int)) (k : Nat) : total (l.take k) ≤ total l := by
  unfold total
  conv => rhs; rw [← List.take_append_drop k l, List.flatten_append, List.length_append]
  omega
theorem flatten_take (l : List (List Int)) (k : Nat) (h : k < l.length) : (l.take (k + 1)).flatten = (l.take k).flatten ++ l.getD k [] := by
  rw [List.take_succ_eq_append_getElem h, List.flatten_append]
  simp [List.getD_eq_getElem?_getD, h]
theorem row_at {w : World} {A : Option Addr} {l : List (List Int)} (h : ByteRows w A l) (k : Nat) (hk : k < l.length) :
    ∃ ad A1 c1, A = some ad ∧ w.cell? (ad.add k) = some (.slice A1 (l.getD k []).length c1) ∧ (l.getD k []).length ≤ c1 ∧ Kd.C (Kd.int .u8) w A1 (l.getD k []).length (l.getD k []) := by
  obtain ⟨ad, c, rfl, hl, ⟨A1, c1, rfl, hc, hC⟩, hcell⟩ := Kd.C_get h [] (k : Int) (by omega) (by omega)
  simp only [Int.toNat_natCast] at hc hC hcell
  exact ⟨ad, A1, c1, rfl, by simpa [show (Kd.slice 5 (Kd.int .u8)).sz = 1 from rfl] using hcell 0 _ rfl, hc, hC⟩

def RelS (A0 : Option Addr) (l0 : List (List Int)) (w : World) (v3 v11 : Value) : Prop :=
  ∃ k : Nat, k ≤ l0.length ∧ v11 = .int .i64 (k : Int) ∧ v3 = .int .i64 ((total (l0.take k) : Nat) : Int)
def RelA (A0 : Option Addr) (l0 : List (List Int)) (w : World) (v6 v27 : Value) (wr : World) : Prop :=
  ∃ k : Nat, k ≤ l0.length ∧ v27 = .int .i64 (k : Int) ∧ Kd.R (Kd.int .u8) 5 wr w.heap.size (fun _ => True) v6 (l0.take k).flatten ∧ Below w.heap.size w wr

set_option maxHeartbeats 1000000 in
theorem concat_calls (A0 : Option Addr) (c0 : Nat) (l0 : List (List Int)) (w : World) (hr0 : ByteRows w A0 l0) (hc0 : l0.length ≤ c0) (hl : total l0 ≤ Lay.lim) :
    Calls Try.prog 51 #[.slice A0 l0.length c0] w fun e w' => ∃ v0_ : Value, e = .returned v0_ ∧ Kd.R (Kd.int .u8) 5 w' w.heap.size (fun _ => True) v0_ l0.flatten ∧ Below w.heap.size w w' := by
  have hm : l0.length ≤ 9223372036854775807 := hr0.2.1
  have HR := Aside0.mk hr0
  clear hr0
  unfold Lay.lim at hl
  go_enter Try.func51, Try.ntmps51
  go_wp2
  go_loop [3, 5, 11] (fun v3 _ v11 => RelS A0 l0 w v3 v11) (fun _ _ v11 => l0.length - (intOf v11).toNat)
  case atStart => exact ⟨0, Nat.zero_le _, rfl, rfl⟩
  case round =>
    obtain ⟨k, hk, rfl, rfl⟩ := hrel
    have hT := total_le l0 k
    by_cases hlt : k < l0.length
    · have c1 : decide (k < l0.length) = true := decide_eq_true hlt
      obtain ⟨ad, A1, c1', rfl, hcell, hc1, _⟩ := row_at HR.out k hlt
      have hT2 := total_le l0 (k + 1)
      have HT := Aside0.mk (total_take l0 k hlt)
      have h3 : total (l0.take k) + (l0.getD k []).length ≤ 140737488355000 := by rw [← HT.out]; omega
      generalize hm : (l0.getD k []).length = m at *
      go_wp2
      go_round
      case rel => exact ⟨k + 1, by omega, by go_num, by rw [HT.out]; go_num⟩
      case measure => simp [intOf]; omega
    · have c1 : decide (k < l0.length) = false := decide_eq_false hlt
      have e1 : l0.take k = l0 := List.take_of_length_le (by omega)
      rw [e1]
      clear e1 hT
      have hT : total l0 ≤ Lay.lim := by unfold Lay.lim; exact hl
      go_wp2_with (first | (go_at_call 53; go_must (refine (grow_calls (total l0) _ hT).mono ?_); rintro e w1 ⟨v1, rfl, ho, hb⟩; have HO := Aside0.mk ho; have HB := Aside0.mk hb; clear ho hb))
      go_loopw [6, 8, 27] (fun v6 _ v27 wr => RelA A0 l0 w v6 v27 wr) (fun _ _ v27 _ => l0.length - (intOf v27).toNat)
      case atStart => exact ⟨0, Nat.zero_le _, rfl, HO.out, HB.out⟩
      case round =>
        obtain ⟨k, hk, rfl, ho, hb⟩ := hrel
        have hcr : ByteRows wr A0 l0 := Kd.C_below HR.out hb
        have HO1 := Aside0.mk ho
        have HB1 := Aside0.mk hb
        have hsz := hb.size
        clear ho hb
        by_cases hlt : k < l0.length
        · have c1 : decide (k < l0.length) = true := decide_eq_true hlt
          obtain ⟨ad, A1, c1', rfl, hcell, hc1, hC⟩ := row_at hcr k hlt
          have HC := Aside0.mk hC
          have hT2 := total_le l0 (k + 1)
          have HF := Aside0.mk (flatten_take l0 k hlt)
          have HL : Aside0 ((l0.take k).flatten.length + (l0.getD k []).length ≤ 140737488355328) := ⟨by have h := total_take l0 k hlt; unfold total at h hT2 hl; omega⟩
          clear hcr hC hT2
          generalize hm : (l0.getD k []) = m at *
          go_wp2_with (first | (at_builtin; refine R_append_row (w0 := w) w.heap.size rfl (.tmp 31) (.tmp 32) 22 5 .u8 1 rfl Try.underlying22 Lay.info5 (by decide) u6 (l0.take k).flatten m A1 m.length c1' rfl rfl ?aO ?aR ?aB ?aS ?aL ?_; (case aO => exact HO1.out); (case aR => exact HC.out); (case aB => exact HB1.out); (case aS => exact hsz); (case aL => have := HL.out; omega); intro v2 w2 ho hb hg; have HO2 := Aside0.mk ho; have HB2 := Aside0.mk hb; clear ho hb hg))
          go_roundw
          case rel => exact ⟨k + 1, by omega, by go_num, by rw [HF.out]; exact HO2.out, HB2.out⟩
          case measure => simp [intOf]; omega
        · have c1 : decide (k < l0.length) = false := decide_eq_false hlt
          have e1 : l0.take k = l0 := List.take_of_length_le (by omega)
          rw [e1] at HO1
          clear e1 hcr
          go_wp2
          go_ret
          exact ⟨_, rfl, HO1.out, HB1.out⟩
end Go.Proofs.Ytaddlkokencbkaa.Cat
