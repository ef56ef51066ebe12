/- What a reader's digits, Number, Signed and Text tell. -/
import Derived.Test.YtaddlkokencbkaaDoorRd
import Derived.Laws.BitsAllLaws
namespace Go.Proofs.YtaddlkokencbkaaDoor.RdN
open Go.RowKit Go.Proofs.YtaddlkokencbkaaDoorW.PrintWords Go.Proofs.YtaddlkokencbkaaDoorW.PrintLast Go.Proofs.YtaddlkokencbkaaDoorW.PrintMore Go.Proofs.YtaddlkokencbkaaDoor.Exact Go.Proofs.YtaddlkokencbkaaDoor.Rd
set_option linter.unusedVariables false
set_option linter.unusedSimpArgs false

/-- A number of 64 bits: k rounds are left, n is what there is of it; the value, what is left, the error. -/
def dg : Nat → Nat → List Int → Nat × List Int × Int
  | 0, _, _ => (0, [], 2)
  | _ + 1, _, [] => (0, [], 4)
  | k + 1, n, x :: l =>
    if k = 0 ∧ 1 < (x % 128).toNat then (0, [], 2)
    else if x < 128 then (if x = 0 ∧ k < 9 then (0, [], 2) else (n + (x % 128).toNat * 128 ^ (9 - k), l, 0))
    else dg k (n + (x % 128).toNat * 128 ^ (9 - k)) l
def fin (l0 : List Int) (e : Int) (r : Nat × List Int × Int) : Nat × List Int × Int := if e ≠ 0 then (0, l0, e) else if r.2.2 = 0 then r else (0, l0, r.2.2)
def rdD (l : List Int) (e : Int) : Nat × List Int × Int := fin l e (dg 10 0 l)

def RelR (g : Nat) (w : World) (l0 : List Int) (e : Int) (v3 v12 : Value) (wr : World) : Prop :=
  ∃ (i n : Nat) (A : Option Addr) (l : List Int) (c : Nat), v3 = .int .u64 (n : Int) ∧ v12 = .int .i64 (i : Int) ∧ i ≤ 10 ∧ n < 128 ^ i ∧ (∀ x ∈ l, 0 ≤ x ∧ x < 256) ∧ Rd wr g A l c e ∧ Off g w wr ∧ (e = 0 ∨ i = 0) ∧ fin l0 e (dg (10 - i) n l) = rdD l0 e

theorem pow128 (i : Nat) : (128 : Nat) ^ i = 2 ^ (7 * i) := by rw [Nat.pow_mul]
theorem andNot128 {x : Int} (h0 : 0 ≤ x) (h1 : x < 256) : bits .andNot .u8 x 128 = ((x % 128).toNat : Int) := by
  have h : ∀ m : Fin 256, bits .andNot .u8 ((m.val : Nat) : Int) 128 = ((((m.val : Nat) : Int) % 128).toNat : Int) := by decide +kernel
  obtain ⟨m, rfl⟩ := Int.eq_ofNat_of_zero_le h0
  exact h ⟨m, by omega⟩
theorem or_digit {n d i : Nat} (hn : n < 128 ^ i) (hd : d < 128) (hi : i ≤ 8 ∨ i = 9 ∧ d ≤ 1) :
    bits .or .u64 (n : Int) (IntKind.u64.wrap ((d : Int) * 2 ^ (7 * i))) = ((n + d * 128 ^ i : Nat) : Int) ∧ n + d * 128 ^ i < 128 ^ (i + 1) ∧ n + d * 128 ^ i < 18446744073709551616 := by
  have hp : 128 ^ i ≤ 128 ^ 9 := Nat.pow_le_pow_right (by omega) (by omega)
  have hp' : (128 : Nat) ^ 9 = 9223372036854775808 := by decide
  have hs : d * 128 ^ i < 18446744073709551616 ∧ n + d * 128 ^ i < 18446744073709551616 := by
    rcases hi with hi | ⟨rfl, h⟩
    · have h8 : 128 ^ i ≤ 128 ^ 8 := Nat.pow_le_pow_right (by omega) hi
      have h8' : (128 : Nat) ^ 8 = 72057594037927936 := by decide
      have : d * 128 ^ i ≤ 127 * 128 ^ 8 := Nat.mul_le_mul (by omega) h8
      omega
    · have : d * 128 ^ 9 ≤ 1 * 128 ^ 9 := Nat.mul_le_mul h (Nat.le_refl _)
      omega
  have e2 : IntKind.u64.wrap ((d : Int) * 2 ^ (7 * i)) = ((d * 128 ^ i : Nat) : Int) := by
    rw [show ((d : Int) * 2 ^ (7 * i)) = ((d * 128 ^ i : Nat) : Int) by rw [pow128]; simp, IntKind.wrap_u64]
    omega
  refine ⟨?_, ?_, hs.2⟩
  · rw [e2, u64_or_nat _ _ (by omega) hs.1]
    congr 1
    rw [pow128] at hn ⊢
    have := Nat.two_pow_add_eq_or_of_lt hn d
    rw [Nat.mul_comm d, Nat.or_comm, ← this, Nat.add_comm]
  · have : (d + 1) * 128 ^ i ≤ 128 * 128 ^ i := Nat.mul_le_mul (by omega) (Nat.le_refl _)
    rw [Nat.pow_succ, Nat.mul_comm (128 ^ i) 128]
    rw [Nat.add_mul, Nat.one_mul] at this
    omega
theorem C_off' {W W1 : World} {g c n : Nat} {A : Option Addr} {l xs : List Int} {e : Int} {B : Option Addr} (hb : Rd W g A l c e) (h : Kd.C (Kd.int .u8) W B n xs) (k : Off g W W1) : Kd.C (Kd.int .u8) W1 B n xs := C_off hb.1 h k

set_option maxHeartbeats 2000000 in
theorem digits_calls (w : World) (g : Nat) (A0 : Option Addr) (l0 : List Int) (c0 : Nat) (e : Int) (h : Rd w g A0 l0 c0 e) (hb : ∀ x ∈ l0, 0 ≤ x ∧ x < 256) :
    Calls Tryd.prog 86 #[.pointer (some ⟨g, 0, none⟩)] w fun r w' => ∃ A' c', r = .returned (.int .u64 (rdD l0 e).1) ∧ Rd w' g A' (rdD l0 e).2.1 c' (rdD l0 e).2.2 ∧ Off g w w' := by
  have H := Aside0.mk h
  have HB := Aside0.mk hb
  have h0 := h.cell0
  have f0 := h.frozen 0
  have qn := eql_nil
  clear h hb
  go_enter Tryd.func86, Tryd.ntmps86
  go_wp2
  go_loopw [3, 12] (fun v3 v12 wr => RelR g w l0 e v3 v12 wr) (fun _ v12 _ => (10 - intOf v12).toNat)
  case atStart => exact ⟨0, 0, _, _, _, rfl, rfl, by omega, by decide, HB.out, H.out, Off.refl _ _, .inr rfl, rfl⟩
  case round =>
    obtain ⟨i, n, A, l, c, rfl, rfl, hi, hn, hb, hr, ho, hei, hf⟩ := hrel
    have HR := Aside0.mk hr
    have HO := Aside0.mk ho
    have HF := Aside0.mk hf
    have HBL := Aside0.mk hb
    have HC0 := Aside0.mk (C_off' H.out H.out.C ho)
    have hcc0 := H.out.2.2
    have k0 := hr.cell0
    have kf0 := hr.frozen 0
    clear hr ho hf hb h0 f0
    by_cases hi10 : i = 10
    · subst hi10
      obtain rfl : e = 0 := by omega
      have E : Aside0 (rdD l0 0 = (0, l0, 2)) := ⟨HF.out.symm⟩
      have HX := HR
      have HCX := HC0
      have HOX := HO
      clear HF
      go_wp2_with (first | (go_at_call 88; refine (fail_calls _ g A0 l0 c0 0 2 (HX.out.set0 HCX.out hcc0)).mono ?_; rintro r w' ⟨rfl, hr2, ho2⟩; rw [failE_0] at hr2; have HF2 := Aside0.mk hr2; have HO2 := Aside0.mk ho2; clear hr2 ho2))
      go_ret
      exact ⟨A0, c0, by rw [E.out]; rfl, by rw [E.out]; exact HF2.out, (HOX.out.set _ _).trans HO2.out⟩
    have hi9 : i ≤ 9 := by omega
    have c0_ : decide ((i : Int) < 10) = true := decide_eq_true (by omega)
    by_cases hy : e = 0 ∧ 0 < l.length
    case neg =>
      have hne : e ≠ 0 ∨ (1 : Int) > l.length := by omega
      have E : Aside0 ((rdD l0 e).1 = 0 ∧ (rdD l0 e).2.1 = l0 ∧ (rdD l0 e).2.2 = failE e 4) := ⟨by
        rw [← HF.out]
        by_cases he : e = 0
        · subst he
          obtain rfl : l = [] := List.eq_nil_of_length_eq_zero (by omega)
          obtain ⟨k, hk⟩ : ∃ k, 10 - i = k + 1 := ⟨9 - i, by omega⟩
          rw [hk]
          exact ⟨rfl, rfl, rfl⟩
        · unfold fin
          rw [if_pos he, failE_ne he]
          exact ⟨rfl, rfl, rfl⟩⟩
      clear HF hy
      go_wp2_with (first | (go_at_call 85; refine (take_no _ g A l c e 1 HR.out hne).mono ?_; rintro r w1 ⟨rfl, hr, ho⟩; have HX := Aside0.mk hr; have HOX := Aside0.mk (HO.out.trans ho); have HCX := Aside0.mk (C_off' HR.out HC0.out ho); have x0 := hr.cell0; have xf0 := hr.frozen 0; clear hr ho))
      go_ret
      exact ⟨A0, c0, by rw [E.out.1]; rfl, by rw [E.out.2.1, E.out.2.2]; exact HX.out.set0 HCX.out hcc0, HOX.out.set _ _⟩
    obtain ⟨rfl, hl⟩ := hy
    cases l with
    | nil => simp at hl
    | cons x l =>
    obtain ⟨ad, cs, rfl, hcl, hk, hc⟩ := Kd.C_get HR.out.C 0 0 (by omega) (by omega)
    match cs, hcl with
    | [u], _ =>
    have h2 := hc 0 u rfl
    obtain rfl : u = .int .u8 x := by
      have := hk
      simpa [Kd.int, Kd.scalar] using this
    have hx := HBL.out x (by simp)
    have HC : Aside0 (wr.cell? ad = some (.int .u8 x)) := ⟨by simpa [Addr.add] using h2⟩
    have HNE := Aside0.mk (C_apart HR.out.1 HR.out.C ad rfl hl)
    have HBL2 : Aside0 (∀ y ∈ l, 0 ≤ y ∧ y < 256) := ⟨fun y hy => HBL.out y (List.mem_cons_of_mem _ hy)⟩
    clear hc h2 hk hei
    have ean := andNot128 hx.1 hx.2
    obtain ⟨d, hd⟩ : ∃ d : Nat, (x % 128).toNat = d := ⟨_, rfl⟩
    have hdl : d < 128 := by omega
    rw [hd] at ean
    obtain ⟨k, hk⟩ : ∃ k, 10 - i = k + 1 := ⟨9 - i, by omega⟩
    have HF1 : Aside0 (fin l0 0 (if k = 0 ∧ 1 < d then (0, [], 2) else if x < 128 then (if x = 0 ∧ k < 9 then (0, [], 2) else (n + d * 128 ^ i, l, 0)) else dg k (n + d * 128 ^ i) l) = rdD l0 0) := ⟨by
      have := HF.out
      rw [hk] at this
      unfold dg at this
      rw [hd, show 9 - k = i by omega] at this
      exact this⟩
    clear HF
    by_cases h1 : k = 0 ∧ 1 < d
    · have c1 : ((i : Int) == 9) = true := beq_iff_eq.2 (by omega)
      have c2 : decide ((d : Int) > 1) = true := decide_eq_true (by omega)
      have E : Aside0 (rdD l0 0 = (0, l0, 2)) := ⟨by rw [← HF1.out, if_pos h1]; rfl⟩
      clear HF1 h1
      go_wp2_with (first | (go_at_call 85; refine (take_yes _ g (some ad) (x :: l) c 1 HR.out (by simp)).mono ?_; rintro r w1 ⟨rfl, hr, ho⟩; have HX := Aside0.mk hr; have HOX := Aside0.mk (HO.out.trans ho); have hcc := cell_off HC.out HNE.out ho; have HCX := Aside0.mk (C_off' HR.out HC0.out ho); have x0 := hr.cell0; have xf0 := hr.frozen 0; clear hr ho) | (go_at_call 88; refine (fail_calls _ g A0 l0 c0 0 2 (HX.out.set0 HCX.out hcc0)).mono ?_; rintro r w' ⟨rfl, hr2, ho2⟩; rw [failE_0] at hr2; have HF2 := Aside0.mk hr2; have HO2 := Aside0.mk ho2; clear hr2 ho2))
      go_ret
      exact ⟨A0, c0, by rw [E.out]; rfl, by rw [E.out]; exact HF2.out, (HOX.out.set _ _).trans HO2.out⟩
    have ho := or_digit (i := i) hn hdl (by omega)
    have HF2 : Aside0 (fin l0 0 (if x < 128 then (if x = 0 ∧ k < 9 then (0, [], 2) else (n + d * 128 ^ i, l, 0)) else dg k (n + d * 128 ^ i) l) = rdD l0 0) := ⟨by rw [← HF1.out, if_neg h1]⟩
    clear HF1
    have ho1 := ho.1
    have HN := Aside0.mk ho.2
    clear ho
    generalize n + d * 128 ^ i = n2 at *
    by_cases h128 : x < 128
    · have c3 : decide (x < 128) = true := decide_eq_true h128
      by_cases hz : x = 0 ∧ k < 9
      · obtain ⟨hx0, hk9⟩ := hz
        have c5 : (x == 0) = true := beq_iff_eq.2 hx0
        have c4 : decide ((i : Int) > 0) = true := decide_eq_true (by omega)
        have E : Aside0 (rdD l0 0 = (0, l0, 2)) := ⟨by rw [← HF2.out, if_pos (by omega), if_pos ⟨hx0, hk9⟩]; rfl⟩
        clear HF2 hx0
        by_cases h9 : i = 9
        · have c1 : ((i : Int) == 9) = true := beq_iff_eq.2 (by omega)
          have c2 : decide ((d : Int) > 1) = false := decide_eq_false (by omega)
          go_wp2_with (first | (go_at_call 85; refine (take_yes _ g (some ad) (x :: l) c 1 HR.out (by simp)).mono ?_; rintro r w1 ⟨rfl, hr, ho⟩; have HX := Aside0.mk hr; have HOX := Aside0.mk (HO.out.trans ho); have hcc := cell_off HC.out HNE.out ho; have HCX := Aside0.mk (C_off' HR.out HC0.out ho); have x0 := hr.cell0; have xf0 := hr.frozen 0; clear hr ho) | (go_at_call 88; refine (fail_calls _ g A0 l0 c0 0 2 (HX.out.set0 HCX.out hcc0)).mono ?_; rintro r w' ⟨rfl, hr2, ho2⟩; rw [failE_0] at hr2; have HF2 := Aside0.mk hr2; have HO2 := Aside0.mk ho2; clear hr2 ho2))
          go_ret
          exact ⟨A0, c0, by rw [E.out]; rfl, by rw [E.out]; exact HF2.out, (HOX.out.set _ _).trans HO2.out⟩
        · have c1 : ((i : Int) == 9) = false := beq_eq_false_iff_ne.2 (by omega)
          go_wp2_with (first | (go_at_call 85; refine (take_yes _ g (some ad) (x :: l) c 1 HR.out (by simp)).mono ?_; rintro r w1 ⟨rfl, hr, ho⟩; have HX := Aside0.mk hr; have HOX := Aside0.mk (HO.out.trans ho); have hcc := cell_off HC.out HNE.out ho; have HCX := Aside0.mk (C_off' HR.out HC0.out ho); have x0 := hr.cell0; have xf0 := hr.frozen 0; clear hr ho) | (go_at_call 88; refine (fail_calls _ g A0 l0 c0 0 2 (HX.out.set0 HCX.out hcc0)).mono ?_; rintro r w' ⟨rfl, hr2, ho2⟩; rw [failE_0] at hr2; have HF2 := Aside0.mk hr2; have HO2 := Aside0.mk ho2; clear hr2 ho2))
          go_ret
          exact ⟨A0, c0, by rw [E.out]; rfl, by rw [E.out]; exact HF2.out, (HOX.out.set _ _).trans HO2.out⟩
      · have E : Aside0 (rdD l0 0 = (n2, l, 0)) := ⟨by rw [← HF2.out, if_pos h128, if_neg hz]; rfl⟩
        have hz2 : x ≠ 0 ∨ i = 0 := by omega
        clear HF2
        have c4 : (x == 0) = false ∨ (x == 0) = true ∧ ¬ 0 < i := by
          by_cases hx0 : x = 0
          · exact .inr ⟨beq_iff_eq.2 hx0, by omega⟩
          · exact .inl (beq_eq_false_iff_ne.2 hx0)
        have c12 : ((i : Int) == 9) = false ∨ ((i : Int) == 9) = true ∧ decide ((d : Int) > 1) = false := by
          by_cases h9 : i = 9
          · exact .inr ⟨beq_iff_eq.2 (by omega), decide_eq_false (by omega)⟩
          · exact .inl (beq_eq_false_iff_ne.2 (by omega))
        clear hz hz2 hk h1
        rcases c4 with c4 | ⟨c4, c5⟩ <;> rcases c12 with c1 | ⟨c1, c2⟩
        all_goals
          go_wp2_with (first | (go_at_call 85; refine (take_yes _ g (some ad) (x :: l) c 1 HR.out (by simp)).mono ?_; rintro r w1 ⟨rfl, hr, ho⟩; have HX := Aside0.mk hr; have HOX := Aside0.mk (HO.out.trans ho); have hcc := cell_off HC.out HNE.out ho; have HCX := Aside0.mk (C_off' HR.out HC0.out ho); have x0 := hr.cell0; have xf0 := hr.frozen 0; clear hr ho))
          go_ret
          exact ⟨_, _, by rw [E.out]; rfl, by rw [E.out]; exact HX.out, HOX.out⟩
    · have c3 : decide (x < 128) = false := decide_eq_false h128
      have E : Aside0 (fin l0 0 (dg k n2 l) = rdD l0 0) := ⟨by rw [← HF2.out, if_neg h128]⟩
      clear HF2
      have c12 : ((i : Int) == 9) = false ∨ ((i : Int) == 9) = true ∧ decide ((d : Int) > 1) = false := by
        by_cases h9 : i = 9
        · exact .inr ⟨beq_iff_eq.2 (by omega), decide_eq_false (by omega)⟩
        · exact .inl (beq_eq_false_iff_ne.2 (by omega))
      have HK := Aside0.mk hk
      clear hk h1
      rcases c12 with c1 | ⟨c1, c2⟩
      all_goals
        go_wp2_with (first | (go_at_call 85; refine (take_yes _ g (some ad) (x :: l) c 1 HR.out (by simp)).mono ?_; rintro r w1 ⟨rfl, hr, ho⟩; have HX := Aside0.mk hr; have HOX := Aside0.mk (HO.out.trans ho); have hcc := cell_off HC.out HNE.out ho; have HCX := Aside0.mk (C_off' HR.out HC0.out ho); have x0 := hr.cell0; have xf0 := hr.frozen 0; clear hr ho))
        go_roundw
        case rel => exact ⟨i + 1, n2, _, l, _, rfl, by go_num, by omega, HN.out.1, HBL2.out, HX.out, HOX.out, .inl rfl, by rw [show 10 - (i + 1) = k by have := HK.out; omega]; exact E.out⟩
        case measure => simp [intOf]; omega
end Go.Proofs.YtaddlkokencbkaaDoor.RdN
