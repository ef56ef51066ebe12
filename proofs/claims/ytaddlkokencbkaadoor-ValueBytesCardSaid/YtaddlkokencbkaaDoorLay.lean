/- Contracts of lay.digits (over a slice without spare room), lay.own, lay.Number, lay.Signed, lay.Text: the bytes behind what there is, in new memory. -/
import Derived.Test.YtaddlkokencbkaaDoorProg
import Derived.Test.YtaddlkokencbkaaDoorExact
import Derived.Test.YtaddlkokencbkaaDoorWMore
namespace Go.Proofs.YtaddlkokencbkaaDoor.Lay
open Go.RowKit Go.Proofs.YtaddlkokencbkaaDoorW.PrintWords Go.Proofs.YtaddlkokencbkaaDoorW.PrintLast Go.Proofs.YtaddlkokencbkaaDoorW.PrintMore Go.Proofs.YtaddlkokencbkaaDoor.Exact
set_option linter.unusedVariables false
set_option linter.unusedSimpArgs false

theorem info5 : (Tryd.prog.info? 5).map (fun i => (i.zero, i.size, i.bytes)) = some (some (.int .u8 0), 1, 1) := by kernel_rfl

/-- What the slice holds on the way: the one that came in, or a row of the call's own. -/
def St (A0 : Option Addr) (l0 : List Int) (base : Nat) (wr : World) (v : Value) (pre : List Int) : Prop :=
  (v = .slice A0 l0.length l0.length ∧ pre = l0 ∧ Kd.C (Kd.int .u8) wr A0 l0.length l0) ∨ Kd.R (Kd.int .u8) 5 wr base (fun _ => True) v pre

def RelD (A0 : Option Addr) (l0 : List Int) (n : Nat) (w : World) (v0 v1 : Value) (wr : World) : Prop :=
  ∃ (pre : List Int) (x : Int), v1 = .int .u64 x ∧ 0 ≤ x ∧ x ≤ 18446744073709551615 ∧ l0 ++ digs n = pre ++ digs x.toNat ∧ St A0 l0 w.heap.size wr v0 pre ∧ Below w.heap.size w wr

theorem digs_more {l0 pre : List Int} {n : Nat} {x : Int} (h0 : 0 ≤ x) (hb : 128 ≤ x) (h : l0 ++ digs n = pre ++ digs x.toNat) : l0 ++ digs n = (pre ++ [Go.bits .or .u8 (x % 256) 128]) ++ digs (x / 128).toNat := by
  obtain ⟨m, rfl⟩ := Int.eq_ofNat_of_zero_le h0
  rw [h, byte_or, digs_big (n := (m : Int).toNat) (by omega), List.append_assoc]
  congr 2
theorem digs_last {l0 pre : List Int} {n : Nat} {x : Int} (h0 : 0 ≤ x) (hb : x < 128) (h : l0 ++ digs n = pre ++ digs x.toNat) : pre ++ [x] = l0 ++ digs n := by
  rw [h, digs_small (n := x.toNat) (by omega)]
  congr 2
  omega

set_option maxHeartbeats 1000000 in
theorem digits_calls (A0 : Option Addr) (l0 : List Int) (y : Int) (w : World) (hr0 : Kd.C (Kd.int .u8) w A0 l0.length l0) (hy0 : 0 ≤ y) (hy1 : y ≤ 18446744073709551615) (hl : l0.length ≤ 140737488355000) :
    Calls Tryd.prog 80 #[.slice A0 l0.length l0.length, .int .u64 y] w fun e w' => ∃ v0_ : Value, e = .returned v0_ ∧ Kd.R (Kd.int .u8) 5 w' w.heap.size (fun _ => True) v0_ (l0 ++ digs y.toNat) ∧ Below w.heap.size w w' := by
  have hl10 : (digs y.toNat).length ≤ 10 := digs_len10 (by omega)
  have HC0 := Aside0.mk hr0
  clear hr0
  go_enter Tryd.func80, Tryd.ntmps80
  go_wp2
  go_loopw [0, 1] (fun v0 v1 wr => RelD A0 l0 y.toNat w v0 v1 wr) (fun _ v1 _ => (intOf v1).toNat)
  case atStart => exact ⟨l0, y, rfl, hy0, hy1, rfl, .inl ⟨rfl, rfl, HC0.out⟩, Below.refl _ _⟩
  case round =>
    obtain ⟨pre, x, rfl, hx0, hx1, he, hst, hb⟩ := hrel
    have hlen : pre.length + (digs x.toNat).length ≤ 140737488355010 := by
      have := congrArg List.length he
      simp only [List.length_append] at this
      omega
    have hpos := digs_pos x.toNat
    have LM : Aside0 (pre.length + 1 ≤ 140737488355010) := ⟨by omega⟩
    have HE := Aside0.mk he
    have HB := Aside0.mk hb
    have hsz := hb.size
    clear he hb hlen hpos hl10
    rcases hst with ⟨rfl, rfl, hc⟩ | ho
    · have HC := Aside0.mk hc
      clear hc
      by_cases hx : 128 ≤ x
      · have c1 : decide (128 ≤ x) = true := decide_eq_true hx
        go_wp2_with (first | (at_builtin; refine append_exact (w0 := w) w.heap.size rfl (.tmp 7) (.tmp 11) 25 5 .u8 1 rfl Tryd.underlying25 info5 A0 pre (Go.bits .or .u8 (x % 256) 128) rfl rfl ?aO ?aB ?aS ?aL ?aM ?_; (case aO => exact HC.out); (case aB => exact HB.out); (case aS => exact hsz); (case aL => have := LM.out; omega); (case aM => have := LM.out; omega); intro v1 w1 ho hb hg; have HO := Aside0.mk ho; have HB2 := Aside0.mk hb; clear ho hb hg HB))
        go_roundw
        case rel => exact ⟨_, x / 128, by go_num, by omega, by omega, digs_more hx0 hx HE.out, .inr HO.out, HB2.out⟩
        case measure => simp [intOf]; omega
      · have c1 : decide (128 ≤ x) = false := decide_eq_false hx
        go_wp2_with (first | (at_builtin; refine append_exact (w0 := w) w.heap.size rfl (.tmp 15) (.tmp 18) 25 5 .u8 1 rfl Tryd.underlying25 info5 A0 pre x rfl rfl ?aO ?aB ?aS ?aL ?aM ?_; (case aO => exact HC.out); (case aB => exact HB.out); (case aS => exact hsz); (case aL => have := LM.out; omega); (case aM => have := LM.out; omega); intro v1 w1 ho hb hg; have HO := Aside0.mk ho; have HB2 := Aside0.mk hb; clear ho hb hg HB))
        go_ret
        exact ⟨_, rfl, by rw [← digs_last hx0 (by omega) HE.out]; exact HO.out, HB2.out⟩
    · have HO0 := Aside0.mk ho
      clear ho
      by_cases hx : 128 ≤ x
      · have c1 : decide (128 ≤ x) = true := decide_eq_true hx
        go_wp2_with (first | (at_builtin; refine Kd.R_append (Kd.int .u8) (w0 := w) w.heap.size rfl (.tmp 7) (.tmp 11) 25 5 (.int .u8 0) 1 rfl Tryd.underlying25 info5 rfl (by decide) (by omega) u0 pre (Go.bits .or .u8 (x % 256) 128) [.int .u8 (Go.bits .or .u8 (x % 256) 128)] (fun _ => True) (fun _ => False) rfl rfl ?aP (fun _ hk => hk.elim) (fun _ _ => trivial) ?aO ?aB ?aS ?aL ?_; (case aP => rfl); (case aO => exact HO0.out); (case aB => exact HB.out); (case aS => exact hsz); (case aL => have := LM.out; omega); intro v1 w1 ho hb hg hat; have HO := Aside0.mk ho; have HB2 := Aside0.mk hb; clear ho hb hg hat HB))
        go_roundw
        case rel => exact ⟨_, x / 128, by go_num, by omega, by omega, digs_more hx0 hx HE.out, .inr HO.out, HB2.out⟩
        case measure => simp [intOf]; omega
      · have c1 : decide (128 ≤ x) = false := decide_eq_false hx
        go_wp2_with (first | (at_builtin; refine Kd.R_append (Kd.int .u8) (w0 := w) w.heap.size rfl (.tmp 15) (.tmp 18) 25 5 (.int .u8 0) 1 rfl Tryd.underlying25 info5 rfl (by decide) (by omega) u0 pre x [.int .u8 x] (fun _ => True) (fun _ => False) rfl rfl ?aP (fun _ hk => hk.elim) (fun _ _ => trivial) ?aO ?aB ?aS ?aL ?_; (case aP => rfl); (case aO => exact HO0.out); (case aB => exact HB.out); (case aS => exact hsz); (case aL => have := LM.out; omega); intro v1 w1 ho hb hg hat; have HO := Aside0.mk ho; have HB2 := Aside0.mk hb; clear ho hb hg hat HB))
        go_ret
        exact ⟨_, rfl, by rw [← digs_last hx0 (by omega) HE.out]; exact HO.out, HB2.out⟩

theorem own_calls (A0 : Option Addr) (n c0 : Nat) (w : World) (hc : n ≤ c0) (hm : n ≤ 9223372036854775807) :
    Calls Tryd.prog 81 #[.slice A0 n c0] w fun e w' => e = .returned (.slice A0 n n) ∧ w = w' := by
  have e : (A0.map fun x => x.add 0) = A0 := by cases A0 <;> simp [Addr.add]
  have E := Aside0.mk e
  clear e
  go_enter Tryd.func81, Tryd.ntmps81
  go_wp2
  go_ret
  exact ⟨by first | rfl | simp [E.out], rfl⟩

def lim : Nat := 140737488355000
theorem u64_range (a : Int) : 0 ≤ IntKind.u64.wrap a ∧ IntKind.u64.wrap a ≤ 18446744073709551615 := by simp only [IntKind.wrap_u64]; omega

theorem number_calls (A0 : Option Addr) (c0 : Nat) (l0 : List Int) (a1 : Int) (w : World) (hr0 : Kd.C (Kd.int .u8) w A0 l0.length l0) (hc0 : l0.length ≤ c0) (hl : l0.length ≤ lim) :
    Calls Tryd.prog 82 #[.slice A0 l0.length c0, .int .i64 a1] w fun e w' => ∃ v0_ : Value, e = .returned v0_ ∧ Kd.R (Kd.int .u8) 5 w' w.heap.size (fun _ => True) v0_ (l0 ++ digs (IntKind.u64.wrap a1).toNat) ∧ Below w.heap.size w w' := by
  have HC0 := Aside0.mk hr0
  have hm := hr0.2.1
  have hu := u64_range a1
  unfold lim at hl
  clear hr0
  go_enter Tryd.func82, Tryd.ntmps82
  go_wp2_with (first | (go_at_call 81; refine (own_calls A0 _ c0 _ hc0 hm).mono ?_; rintro e w' ⟨rfl, rfl⟩) | (go_at_call 80; refine (digits_calls A0 l0 (IntKind.u64.wrap a1) _ HC0.out hu.1 hu.2 hl).mono ?_; rintro e w' ⟨v1, rfl, ho, hb⟩; have HO := Aside0.mk ho; have HB := Aside0.mk hb; clear ho hb))
  go_ret
  exact ⟨_, rfl, HO.out, HB.out⟩
theorem zig_range {a : Int} (h1 : -9223372036854775808 ≤ a) (h2 : a ≤ 9223372036854775807) :
    0 ≤ bits .xor .u64 (IntKind.u64.wrap (IntKind.u64.wrap a * 2)) (IntKind.u64.wrap (a / 9223372036854775808)) ∧ bits .xor .u64 (IntKind.u64.wrap (IntKind.u64.wrap a * 2)) (IntKind.u64.wrap (a / 9223372036854775808)) ≤ 18446744073709551615 := by
  rw [zig_eq h1 h2]
  have := Lib.zigzag_lt h1 h2
  omega
theorem signed_calls (A0 : Option Addr) (c0 : Nat) (l0 : List Int) (a1 : Int) (w : World) (hr0 : Kd.C (Kd.int .u8) w A0 l0.length l0) (hc0 : l0.length ≤ c0) (hl : l0.length ≤ lim) (h1 : -9223372036854775808 ≤ a1) (h2 : a1 ≤ 9223372036854775807) :
    Calls Tryd.prog 59 #[.slice A0 l0.length c0, .int .i64 a1] w fun e w' => ∃ v0_ : Value, e = .returned v0_ ∧ Kd.R (Kd.int .u8) 5 w' w.heap.size (fun _ => True) v0_ (l0 ++ digs (Lib.zigzag a1)) ∧ Below w.heap.size w w' := by
  have HC0 := Aside0.mk hr0
  have hm := hr0.2.1
  have HZ := Aside0.mk (zig_range h1 h2)
  have HE := Aside0.mk (zig_eq h1 h2)
  unfold lim at hl
  clear hr0
  go_enter Tryd.func59, Tryd.ntmps59
  go_wp2_with (first | (go_at_call 81; refine (own_calls A0 _ c0 _ hc0 hm).mono ?_; rintro e w' ⟨rfl, rfl⟩) | (go_at_call 80; refine (digits_calls A0 l0 _ _ HC0.out HZ.out.1 HZ.out.2 hl).mono ?_; rintro e w' ⟨v1, rfl, ho, hb⟩; have HO := Aside0.mk ho; have HB := Aside0.mk hb; clear ho hb))
  go_ret
  exact ⟨_, rfl, by have h := HO.out; rw [HE.out, Int.toNat_natCast] at h; exact h, HB.out⟩
theorem text_calls (A0 : Option Addr) (c0 : Nat) (l0 : List Int) (a1 : ByteArray) (w : World) (hr0 : Kd.C (Kd.int .u8) w A0 l0.length l0) (hc0 : l0.length ≤ c0) (hl : l0.length + a1.size ≤ lim) :
    Calls Tryd.prog 60 #[.slice A0 l0.length c0, .string a1] w fun e w' => ∃ v0_ : Value, e = .returned v0_ ∧ Kd.R (Kd.int .u8) 5 w' w.heap.size (fun _ => True) v0_ (l0 ++ digs a1.size ++ bytesOf a1) ∧ Below w.heap.size w w' := by
  have HC0 := Aside0.mk hr0
  have hs : a1.size ≤ 140737488355000 := by unfold lim at hl; omega
  have HL : Aside0 ((l0 ++ digs a1.size).length + a1.size ≤ 140737488355328) := ⟨by
    have := digs_len10 (n := a1.size) (by omega)
    unfold lim at hl
    simp only [List.length_append]
    omega⟩
  have hl1 : l0.length ≤ lim := by omega
  have e : (IntKind.u64.wrap (a1.size : Int)).toNat = a1.size := by rw [IntKind.wrap_u64]; omega
  have HE := Aside0.mk e
  clear hr0 hl e
  go_enter Tryd.func60, Tryd.ntmps60
  go_wp2_with (first | (go_at_call 82; refine (number_calls A0 c0 l0 (a1.size : Int) _ HC0.out hc0 hl1).mono ?_; rintro e w' ⟨v1, rfl, ho, hb⟩; rw [HE.out] at ho; have HO := Aside0.mk ho; have HB := Aside0.mk hb; have hsz := hb.size; clear ho hb) | (at_builtin; refine print_append_str (w0 := w) w.heap.size rfl (.tmp 8) (.tmp 9) 25 9 5 rfl Tryd.underlying25 Tryd.underlying9 info5 v1 (l0 ++ digs a1.size) a1 rfl rfl ?aO ?aB ?aS ?aL ?_; (case aO => exact Kd.own_of_R HO.out); (case aB => exact HB.out); (case aS => exact hsz); (case aL => exact HL.out); intro v2 w2 ho0 hb hg; have HO2 := Aside0.mk ho0; have HB2 := Aside0.mk hb; clear ho0 hb hg HB))
  go_ret
  exact ⟨_, rfl, Kd.R_of_own (h1 := fun _ => rfl) (ok := fun _ => True) HO2.out (fun _ _ => trivial), HB2.out⟩
end Go.Proofs.YtaddlkokencbkaaDoor.Lay
