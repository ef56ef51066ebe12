/- Texts of this claim, one behind the other: RdN, RdT, RdP. -/
import Derived.Test.YtaddlkokencbkaaDoorRd
import Derived.Laws.BitsAllLaws
import Derived.Lib.Zigzag
/- What a reader's digits, Number, Signed and Text tell. -/
namespace Go.Proofs.YtaddlkokencbkaaDoor.RdN
open Go.RowKit Go.Proofs.YtaddlkokencbkaaDoorW.PrintWords Go.Proofs.YtaddlkokencbkaaDoorW.PrintLast Go.Proofs.YtaddlkokencbkaaDoorW.PrintMore Go.Proofs.YtaddlkokencbkaaDoor.Exact Go.Proofs.YtaddlkokencbkaaDoor.Rd
set_option linter.unusedVariables false
set_option linter.unusedSimpArgs false

/-- A number of 64 bits: k rounds are left, n is what there is of it; the value, what is left, the error. -/
def dg : Nat → Nat → List Int → Nat × List Int × Int
  | 0, _, _ => (0, [], 2)
  | _ + 1, _, [] => (0, [], 4)
  | k + 1, n, x :: l =>
    if k = 0 ∧ 1 < (x % 128).toNat then (0, [], 2)
    else if x < 128 then (if x = 0 ∧ k < 9 then (0, [], 2) else (n + (x % 128).toNat * 128 ^ (9 - k), l, 0))
    else dg k (n + (x % 128).toNat * 128 ^ (9 - k)) l
def fin (l0 : List Int) (e : Int) (r : Nat × List Int × Int) : Nat × List Int × Int := if e ≠ 0 then (0, l0, e) else if r.2.2 = 0 then r else (0, l0, r.2.2)
def rdD (l : List Int) (e : Int) : Nat × List Int × Int := fin l e (dg 10 0 l)

def RelR (g : Nat) (w : World) (l0 : List Int) (e : Int) (v3 v12 : Value) (wr : World) : Prop :=
  ∃ (i n : Nat) (A : Option Addr) (l : List Int) (c : Nat), v3 = .int .u64 (n : Int) ∧ v12 = .int .i64 (i : Int) ∧ i ≤ 10 ∧ n < 128 ^ i ∧ (∀ x ∈ l, 0 ≤ x ∧ x < 256) ∧ Rd wr g A l c e ∧ Off g w wr ∧ (e = 0 ∨ i = 0) ∧ fin l0 e (dg (10 - i) n l) = rdD l0 e

theorem pow128 (i : Nat) : (128 : Nat) ^ i = 2 ^ (7 * i) := by rw [Nat.pow_mul]
theorem andNot128 {x : Int} (h0 : 0 ≤ x) (h1 : x < 256) : bits .andNot .u8 x 128 = ((x % 128).toNat : Int) := by
  have h : ∀ m : Fin 256, bits .andNot .u8 ((m.val : Nat) : Int) 128 = ((((m.val : Nat) : Int) % 128).toNat : Int) := by decide +kernel
  obtain ⟨m, rfl⟩ := Int.eq_ofNat_of_zero_le h0
  exact h ⟨m, by omega⟩
theorem or_digit {n d i : Nat} (hn : n < 128 ^ i) (hd : d < 128) (hi : i ≤ 8 ∨ i = 9 ∧ d ≤ 1) :
    bits .or .u64 (n : Int) (IntKind.u64.wrap ((d : Int) * 2 ^ (7 * i))) = ((n + d * 128 ^ i : Nat) : Int) ∧ n + d * 128 ^ i < 128 ^ (i + 1) ∧ n + d * 128 ^ i < 18446744073709551616 := by
  have hp : 128 ^ i ≤ 128 ^ 9 := Nat.pow_le_pow_right (by omega) (by omega)
  have hp' : (128 : Nat) ^ 9 = 9223372036854775808 := by decide
  have hs : d * 128 ^ i < 18446744073709551616 ∧ n + d * 128 ^ i < 18446744073709551616 := by
    rcases hi with hi | ⟨rfl, h⟩
    · have h8 : 128 ^ i ≤ 128 ^ 8 := Nat.pow_le_pow_right (by omega) hi
      have h8' : (128 : Nat) ^ 8 = 72057594037927936 := by decide
      have : d * 128 ^ i ≤ 127 * 128 ^ 8 := Nat.mul_le_mul (by omega) h8
      omega
    · have : d * 128 ^ 9 ≤ 1 * 128 ^ 9 := Nat.mul_le_mul h (Nat.le_refl _)
      omega
  have e2 : IntKind.u64.wrap ((d : Int) * 2 ^ (7 * i)) = ((d * 128 ^ i : Nat) : Int) := by
    rw [show ((d : Int) * 2 ^ (7 * i)) = ((d * 128 ^ i : Nat) : Int) by rw [pow128]; simp, IntKind.wrap_u64]
    omega
  refine ⟨?_, ?_, hs.2⟩
  · rw [e2, u64_or_nat _ _ (by omega) hs.1]
    congr 1
    rw [pow128] at hn ⊢
    have := Nat.two_pow_add_eq_or_of_lt hn d
    rw [Nat.mul_comm d, Nat.or_comm, ← this, Nat.add_comm]
  · have : (d + 1) * 128 ^ i ≤ 128 * 128 ^ i := Nat.mul_le_mul (by omega) (Nat.le_refl _)
    rw [Nat.pow_succ, Nat.mul_comm (128 ^ i) 128]
    rw [Nat.add_mul, Nat.one_mul] at this
    omega
theorem C_off' {W W1 : World} {g c n : Nat} {A : Option Addr} {l xs : List Int} {e : Int} {B : Option Addr} (hb : Rd W g A l c e) (h : Kd.C (Kd.int .u8) W B n xs) (k : Off g W W1) : Kd.C (Kd.int .u8) W1 B n xs := C_off hb.1 h k

set_option maxHeartbeats 2000000 in
theorem digits_calls (w : World) (g : Nat) (A0 : Option Addr) (l0 : List Int) (c0 : Nat) (e : Int) (h : Rd w g A0 l0 c0 e) (hb : ∀ x ∈ l0, 0 ≤ x ∧ x < 256) :
    Calls Tryd.prog 86 #[.pointer (some ⟨g, 0, none⟩)] w fun r w' => ∃ A' c', r = .returned (.int .u64 (rdD l0 e).1) ∧ Rd w' g A' (rdD l0 e).2.1 c' (rdD l0 e).2.2 ∧ Off g w w' := by
  have H := Aside0.mk h
  have HB := Aside0.mk hb
  have h0 := h.cell0
  have f0 := h.frozen 0
  have qn := eql_nil
  clear h hb
  go_enter Tryd.func86, Tryd.ntmps86
  go_wp2
  go_loopw [3, 12] (fun v3 v12 wr => RelR g w l0 e v3 v12 wr) (fun _ v12 _ => (10 - intOf v12).toNat)
  case atStart => exact ⟨0, 0, _, _, _, rfl, rfl, by omega, by decide, HB.out, H.out, Off.refl _ _, .inr rfl, rfl⟩
  case round =>
    obtain ⟨i, n, A, l, c, rfl, rfl, hi, hn, hb, hr, ho, hei, hf⟩ := hrel
    have HR := Aside0.mk hr
    have HO := Aside0.mk ho
    have HF := Aside0.mk hf
    have HBL := Aside0.mk hb
    have HC0 := Aside0.mk (C_off' H.out H.out.C ho)
    have hcc0 := H.out.2.2
    have k0 := hr.cell0
    have kf0 := hr.frozen 0
    clear hr ho hf hb h0 f0
    by_cases hi10 : i = 10
    · subst hi10
      obtain rfl : e = 0 := by omega
      have E : Aside0 (rdD l0 0 = (0, l0, 2)) := ⟨HF.out.symm⟩
      have HX := HR
      have HCX := HC0
      have HOX := HO
      clear HF
      go_wp2_with (first | (go_at_call 88; refine (fail_calls _ g A0 l0 c0 0 2 (HX.out.set0 HCX.out hcc0)).mono ?_; rintro r w' ⟨rfl, hr2, ho2⟩; rw [failE_0] at hr2; have HF2 := Aside0.mk hr2; have HO2 := Aside0.mk ho2; clear hr2 ho2))
      go_ret
      exact ⟨A0, c0, by rw [E.out]; rfl, by rw [E.out]; exact HF2.out, (HOX.out.setA H.out.cell0 (SubA.refl _)).trans HO2.out⟩
    have hi9 : i ≤ 9 := by omega
    have c0_ : decide ((i : Int) < 10) = true := decide_eq_true (by omega)
    by_cases hy : e = 0 ∧ 0 < l.length
    case neg =>
      have hne : e ≠ 0 ∨ (1 : Int) > l.length := by omega
      have E : Aside0 ((rdD l0 e).1 = 0 ∧ (rdD l0 e).2.1 = l0 ∧ (rdD l0 e).2.2 = failE e 4) := ⟨by
        rw [← HF.out]
        by_cases he : e = 0
        · subst he
          obtain rfl : l = [] := List.eq_nil_of_length_eq_zero (by omega)
          obtain ⟨k, hk⟩ : ∃ k, 10 - i = k + 1 := ⟨9 - i, by omega⟩
          rw [hk]
          exact ⟨rfl, rfl, rfl⟩
        · unfold fin
          rw [if_pos he, failE_ne he]
          exact ⟨rfl, rfl, rfl⟩⟩
      clear HF hy
      go_wp2_with (first | (go_at_call 85; refine (take_no _ g A l c e 1 HR.out hne).mono ?_; rintro r w1 ⟨rfl, hr, ho⟩; have HX := Aside0.mk hr; have HOX := Aside0.mk (HO.out.trans ho); have HCX := Aside0.mk (C_off' HR.out HC0.out ho); have x0 := hr.cell0; have xf0 := hr.frozen 0; clear hr ho))
      go_ret
      exact ⟨A0, c0, by rw [E.out.1]; rfl, by rw [E.out.2.1, E.out.2.2]; exact HX.out.set0 HCX.out hcc0, HOX.out.setA H.out.cell0 (SubA.refl _)⟩
    obtain ⟨rfl, hl⟩ := hy
    cases l with
    | nil => simp at hl
    | cons x l =>
    obtain ⟨ad, cs, rfl, hcl, hk, hc⟩ := Kd.C_get HR.out.C 0 0 (by omega) (by omega)
    match cs, hcl with
    | [u], _ =>
    have h2 := hc 0 u rfl
    obtain rfl : u = .int .u8 x := by
      have := hk
      simpa [Kd.int, Kd.scalar] using this
    have hx := HBL.out x (by simp)
    have HC : Aside0 (wr.cell? ad = some (.int .u8 x)) := ⟨by simpa [Addr.add] using h2⟩
    have HNE := Aside0.mk (C_apart HR.out.1 HR.out.C ad rfl hl)
    have HBL2 : Aside0 (∀ y ∈ l, 0 ≤ y ∧ y < 256) := ⟨fun y hy => HBL.out y (List.mem_cons_of_mem _ hy)⟩
    clear hc h2 hk hei
    have ean := andNot128 hx.1 hx.2
    obtain ⟨d, hd⟩ : ∃ d : Nat, (x % 128).toNat = d := ⟨_, rfl⟩
    have hdl : d < 128 := by omega
    rw [hd] at ean
    obtain ⟨k, hk⟩ : ∃ k, 10 - i = k + 1 := ⟨9 - i, by omega⟩
    have HF1 : Aside0 (fin l0 0 (if k = 0 ∧ 1 < d then (0, [], 2) else if x < 128 then (if x = 0 ∧ k < 9 then (0, [], 2) else (n + d * 128 ^ i, l, 0)) else dg k (n + d * 128 ^ i) l) = rdD l0 0) := ⟨by
      have := HF.out
      rw [hk] at this
      unfold dg at this
      rw [hd, show 9 - k = i by omega] at this
      exact this⟩
    clear HF
    by_cases h1 : k = 0 ∧ 1 < d
    · have c1 : ((i : Int) == 9) = true := beq_iff_eq.2 (by omega)
      have c2 : decide ((d : Int) > 1) = true := decide_eq_true (by omega)
      have E : Aside0 (rdD l0 0 = (0, l0, 2)) := ⟨by rw [← HF1.out, if_pos h1]; rfl⟩
      clear HF1 h1
      go_wp2_with (first | (go_at_call 85; refine (take_yes _ g (some ad) (x :: l) c 1 HR.out (by simp)).mono ?_; rintro r w1 ⟨rfl, hr, ho⟩; have HX := Aside0.mk hr; have HOX := Aside0.mk (HO.out.trans ho); have hcc := cell_off HC.out HNE.out ho; have HCX := Aside0.mk (C_off' HR.out HC0.out ho); have x0 := hr.cell0; have xf0 := hr.frozen 0; clear hr ho) | (go_at_call 88; refine (fail_calls _ g A0 l0 c0 0 2 (HX.out.set0 HCX.out hcc0)).mono ?_; rintro r w' ⟨rfl, hr2, ho2⟩; rw [failE_0] at hr2; have HF2 := Aside0.mk hr2; have HO2 := Aside0.mk ho2; clear hr2 ho2))
      go_ret
      exact ⟨A0, c0, by rw [E.out]; rfl, by rw [E.out]; exact HF2.out, (HOX.out.setA H.out.cell0 (SubA.refl _)).trans HO2.out⟩
    have ho := or_digit (i := i) hn hdl (by omega)
    have HF2 : Aside0 (fin l0 0 (if x < 128 then (if x = 0 ∧ k < 9 then (0, [], 2) else (n + d * 128 ^ i, l, 0)) else dg k (n + d * 128 ^ i) l) = rdD l0 0) := ⟨by rw [← HF1.out, if_neg h1]⟩
    clear HF1
    have ho1 := ho.1
    have HN := Aside0.mk ho.2
    clear ho
    generalize n + d * 128 ^ i = n2 at *
    by_cases h128 : x < 128
    · have c3 : decide (x < 128) = true := decide_eq_true h128
      by_cases hz : x = 0 ∧ k < 9
      · obtain ⟨hx0, hk9⟩ := hz
        have c5 : (x == 0) = true := beq_iff_eq.2 hx0
        have c4 : decide ((i : Int) > 0) = true := decide_eq_true (by omega)
        have E : Aside0 (rdD l0 0 = (0, l0, 2)) := ⟨by rw [← HF2.out, if_pos (by omega), if_pos ⟨hx0, hk9⟩]; rfl⟩
        clear HF2 hx0
        by_cases h9 : i = 9
        · have c1 : ((i : Int) == 9) = true := beq_iff_eq.2 (by omega)
          have c2 : decide ((d : Int) > 1) = false := decide_eq_false (by omega)
          go_wp2_with (first | (go_at_call 85; refine (take_yes _ g (some ad) (x :: l) c 1 HR.out (by simp)).mono ?_; rintro r w1 ⟨rfl, hr, ho⟩; have HX := Aside0.mk hr; have HOX := Aside0.mk (HO.out.trans ho); have hcc := cell_off HC.out HNE.out ho; have HCX := Aside0.mk (C_off' HR.out HC0.out ho); have x0 := hr.cell0; have xf0 := hr.frozen 0; clear hr ho) | (go_at_call 88; refine (fail_calls _ g A0 l0 c0 0 2 (HX.out.set0 HCX.out hcc0)).mono ?_; rintro r w' ⟨rfl, hr2, ho2⟩; rw [failE_0] at hr2; have HF2 := Aside0.mk hr2; have HO2 := Aside0.mk ho2; clear hr2 ho2))
          go_ret
          exact ⟨A0, c0, by rw [E.out]; rfl, by rw [E.out]; exact HF2.out, (HOX.out.setA H.out.cell0 (SubA.refl _)).trans HO2.out⟩
        · have c1 : ((i : Int) == 9) = false := beq_eq_false_iff_ne.2 (by omega)
          go_wp2_with (first | (go_at_call 85; refine (take_yes _ g (some ad) (x :: l) c 1 HR.out (by simp)).mono ?_; rintro r w1 ⟨rfl, hr, ho⟩; have HX := Aside0.mk hr; have HOX := Aside0.mk (HO.out.trans ho); have hcc := cell_off HC.out HNE.out ho; have HCX := Aside0.mk (C_off' HR.out HC0.out ho); have x0 := hr.cell0; have xf0 := hr.frozen 0; clear hr ho) | (go_at_call 88; refine (fail_calls _ g A0 l0 c0 0 2 (HX.out.set0 HCX.out hcc0)).mono ?_; rintro r w' ⟨rfl, hr2, ho2⟩; rw [failE_0] at hr2; have HF2 := Aside0.mk hr2; have HO2 := Aside0.mk ho2; clear hr2 ho2))
          go_ret
          exact ⟨A0, c0, by rw [E.out]; rfl, by rw [E.out]; exact HF2.out, (HOX.out.setA H.out.cell0 (SubA.refl _)).trans HO2.out⟩
      · have E : Aside0 (rdD l0 0 = (n2, l, 0)) := ⟨by rw [← HF2.out, if_pos h128, if_neg hz]; rfl⟩
        have hz2 : x ≠ 0 ∨ i = 0 := by omega
        clear HF2
        have c4 : (x == 0) = false ∨ (x == 0) = true ∧ ¬ 0 < i := by
          by_cases hx0 : x = 0
          · exact .inr ⟨beq_iff_eq.2 hx0, by omega⟩
          · exact .inl (beq_eq_false_iff_ne.2 hx0)
        have c12 : ((i : Int) == 9) = false ∨ ((i : Int) == 9) = true ∧ decide ((d : Int) > 1) = false := by
          by_cases h9 : i = 9
          · exact .inr ⟨beq_iff_eq.2 (by omega), decide_eq_false (by omega)⟩
          · exact .inl (beq_eq_false_iff_ne.2 (by omega))
        clear hz hz2 hk h1
        rcases c4 with c4 | ⟨c4, c5⟩ <;> rcases c12 with c1 | ⟨c1, c2⟩
        all_goals
          go_wp2_with (first | (go_at_call 85; refine (take_yes _ g (some ad) (x :: l) c 1 HR.out (by simp)).mono ?_; rintro r w1 ⟨rfl, hr, ho⟩; have HX := Aside0.mk hr; have HOX := Aside0.mk (HO.out.trans ho); have hcc := cell_off HC.out HNE.out ho; have HCX := Aside0.mk (C_off' HR.out HC0.out ho); have x0 := hr.cell0; have xf0 := hr.frozen 0; clear hr ho))
          go_ret
          exact ⟨_, _, by rw [E.out]; rfl, by rw [E.out]; exact HX.out, HOX.out⟩
    · have c3 : decide (x < 128) = false := decide_eq_false h128
      have E : Aside0 (fin l0 0 (dg k n2 l) = rdD l0 0) := ⟨by rw [← HF2.out, if_neg h128]⟩
      clear HF2
      have c12 : ((i : Int) == 9) = false ∨ ((i : Int) == 9) = true ∧ decide ((d : Int) > 1) = false := by
        by_cases h9 : i = 9
        · exact .inr ⟨beq_iff_eq.2 (by omega), decide_eq_false (by omega)⟩
        · exact .inl (beq_eq_false_iff_ne.2 (by omega))
      have HK := Aside0.mk hk
      clear hk h1
      rcases c12 with c1 | ⟨c1, c2⟩
      all_goals
        go_wp2_with (first | (go_at_call 85; refine (take_yes _ g (some ad) (x :: l) c 1 HR.out (by simp)).mono ?_; rintro r w1 ⟨rfl, hr, ho⟩; have HX := Aside0.mk hr; have HOX := Aside0.mk (HO.out.trans ho); have hcc := cell_off HC.out HNE.out ho; have HCX := Aside0.mk (C_off' HR.out HC0.out ho); have x0 := hr.cell0; have xf0 := hr.frozen 0; clear hr ho))
        go_roundw
        case rel => exact ⟨i + 1, n2, _, l, _, rfl, by go_num, by omega, HN.out.1, HBL2.out, HX.out, HOX.out, .inl rfl, by rw [show 10 - (i + 1) = k by have := HK.out; omega]; exact E.out⟩
        case measure => simp [intOf]; omega
end Go.Proofs.YtaddlkokencbkaaDoor.RdN

/- What a reader's Number, Signed and Text tell. -/
namespace Go.Proofs.YtaddlkokencbkaaDoor.RdN
open Go.RowKit Go.Proofs.YtaddlkokencbkaaDoorW.PrintWords Go.Proofs.YtaddlkokencbkaaDoorW.PrintLast Go.Proofs.YtaddlkokencbkaaDoorW.PrintMore Go.Proofs.YtaddlkokencbkaaDoor.Exact Go.Proofs.YtaddlkokencbkaaDoor.Rd
set_option linter.unusedVariables false
set_option linter.unusedSimpArgs false

theorem dg_lt : ∀ (k n : Nat) (l : List Int), k ≤ 10 → n < 128 ^ (10 - k) → (dg k n l).1 < 18446744073709551616
  | 0, _, _, _, _ => by simp [dg]
  | _ + 1, _, [], _, _ => by simp [dg]
  | k + 1, n, x :: l, hk, hn => by
    have hd : (x % 128).toNat < 128 := by omega
    unfold dg
    generalize (x % 128).toNat = d at *
    have e9 : 10 - (k + 1) = 9 - k := by omega
    rw [e9] at hn
    by_cases h1 : k = 0 ∧ 1 < d
    · rw [if_pos h1]; simp
    rw [if_neg h1]
    have ho := or_digit (i := 9 - k) hn hd (by omega)
    by_cases h2 : x < 128
    · rw [if_pos h2]
      split
      · simp
      · exact ho.2.2
    · rw [if_neg h2]
      exact dg_lt k _ l (by omega) (by rw [show 10 - k = 9 - k + 1 by omega]; exact ho.2.1)
theorem rdD_lt (l : List Int) (e : Int) : (rdD l e).1 < 18446744073709551616 := by
  have := dg_lt 10 0 l (by omega) (by decide)
  unfold rdD fin
  split
  · simp
  · split
    · exact this
    · simp

def rdN (l : List Int) (e : Int) : Nat × List Int × Int :=
  if 9223372036854775807 < (rdD l e).1 then (0, l, failE (rdD l e).2.2 2) else rdD l e

theorem number_calls (w : World) (g : Nat) (A0 : Option Addr) (l0 : List Int) (c0 : Nat) (e : Int) (h : Rd w g A0 l0 c0 e) (hb : ∀ x ∈ l0, 0 ≤ x ∧ x < 256) :
    Calls Tryd.prog 87 #[.pointer (some ⟨g, 0, none⟩)] w fun r w' => ∃ A' c', r = .returned (.int .i64 (rdN l0 e).1) ∧ Rd w' g A' (rdN l0 e).2.1 c' (rdN l0 e).2.2 ∧ Off g w w' := by
  have H := Aside0.mk h
  have HB := Aside0.mk hb
  have h0 := h.cell0
  have f0 := h.frozen 0
  have hcc0 := h.2.2
  have hlt := rdD_lt l0 e
  have ED : Aside0 (∃ r, rdD l0 e = r) := ⟨_, rfl⟩
  obtain ⟨⟨v, l1, e1⟩, hr⟩ := ED.out
  have ER := Aside0.mk hr
  rw [hr] at hlt
  dsimp only at hlt
  clear h hb ED hr
  by_cases hv : 9223372036854775807 < v
  · have c1 : decide ((v : Int) > 9223372036854775807) = true := decide_eq_true (by omega)
    have E : Aside0 (rdN l0 e = (0, l0, failE e1 2)) := ⟨by unfold rdN; rw [ER.out, if_pos hv]⟩
    go_enter Tryd.func87, Tryd.ntmps87
    go_wp2_with (first | (go_at_call 86; refine (digits_calls _ g A0 l0 c0 e H.out HB.out).mono ?_; rintro r w1 ⟨A', c', rfl, hr, ho⟩; rw [ER.out] at hr; rw [ER.out]; have HX := Aside0.mk hr; have HOX := Aside0.mk ho; have HCX := Aside0.mk (C_off' H.out H.out.C ho); have x0 := hr.cell0; have xf0 := hr.frozen 0; clear hr ho) | (go_at_call 88; refine (fail_calls _ g A0 l0 c0 e1 2 (HX.out.set0 HCX.out hcc0)).mono ?_; rintro r w' ⟨rfl, hr2, ho2⟩; have HF2 := Aside0.mk hr2; have HO2 := Aside0.mk ho2; clear hr2 ho2))
    go_ret
    exact ⟨A0, c0, by rw [E.out]; rfl, by rw [E.out]; exact HF2.out, (HOX.out.setA H.out.cell0 (SubA.refl _)).trans HO2.out⟩
  · have c1 : decide ((v : Int) > 9223372036854775807) = false := decide_eq_false (by omega)
    have E : Aside0 (rdN l0 e = (v, l1, e1)) := ⟨by unfold rdN; rw [ER.out, if_neg hv]⟩
    go_enter Tryd.func87, Tryd.ntmps87
    go_wp2_with (first | (go_at_call 86; refine (digits_calls _ g A0 l0 c0 e H.out HB.out).mono ?_; rintro r w1 ⟨A', c', rfl, hr, ho⟩; rw [ER.out] at hr; rw [ER.out]; have HX := Aside0.mk hr; have HOX := Aside0.mk ho; clear hr ho))
    go_ret
    exact ⟨A', c', by rw [E.out]; first | rfl | skip, by rw [E.out]; exact HX.out, HOX.out⟩
def unz (n : Nat) : Int := if n % 2 = 0 then ((n / 2 : Nat) : Int) else -((n / 2 : Nat) : Int) - 1
theorem xor_comm64 (a b : Int) : bits .xor .i64 a b = bits .xor .i64 b a := by
  show IntKind.i64.wrap ((BitVec.ofInt 64 a ^^^ BitVec.ofInt 64 b).toNat : Int) = IntKind.i64.wrap ((BitVec.ofInt 64 b ^^^ BitVec.ofInt 64 a).toNat : Int)
  rw [BitVec.xor_comm]
theorem xor_zero64 {a : Nat} (h : a < 9223372036854775808) : bits .xor .i64 (a : Int) 0 = (a : Int) := by
  show IntKind.i64.wrap ((BitVec.ofInt 64 (a : Int) ^^^ BitVec.ofInt 64 0).toNat : Int) = _
  have h2 : (BitVec.ofInt 64 (a : Int)).toNat = a := by
    rw [BitVec.ofInt_natCast, BitVec.toNat_ofNat]; exact Nat.mod_eq_of_lt (by omega)
  rw [show BitVec.ofInt 64 0 = 0#64 from rfl, BitVec.xor_zero, h2, IntKind.wrap_i64]
  omega
theorem sgn_eq {v : Nat} (h : v < 18446744073709551616) : bits .xor .i64 ((v : Int) / 2) (wrap64 (-wrap64 (bits .and .u64 (v : Int) 1))) = unz v := by
  rw [Lib.u64_and1 _ (by omega) (by omega), show (v : Int) / 2 = ((v / 2 : Nat) : Int) by omega]
  unfold unz
  by_cases hp : v % 2 = 0
  · rw [if_pos hp, show (v : Int) % 2 = 0 by omega, show wrap64 (-wrap64 0) = 0 by unfold wrap64; omega, xor_zero64 (by omega)]
  · rw [if_neg hp, show (v : Int) % 2 = 1 by omega, show wrap64 (-wrap64 1) = -1 by unfold wrap64; omega, xor_comm64, Lib.i64_not _ (by omega)]
theorem conv_string {w : World} {A : Option Addr} {n : Nat} {xs : List Int} (h : Kd.C (Kd.int .u8) w A n xs) (c : Nat) : (convert 25 9 (.slice A n c)).run Tryd.prog w = .ok (.string (strOfNums xs)) w :=
  Kd.C_string Tryd.underlying25 Tryd.underlying5 Tryd.underlying9 h
theorem take_len {w : World} {A : Option Addr} {n : Nat} {xs : List Int} (h : Kd.C (Kd.int .u8) w A (xs.take n).length (xs.take n)) (hn : n ≤ xs.length) : Kd.C (Kd.int .u8) w A n (xs.take n) := by
  have e : (xs.take n).length = n := by rw [List.length_take]; omega
  rw [e] at h
  exact h
theorem signed_calls (w : World) (g : Nat) (A0 : Option Addr) (l0 : List Int) (c0 : Nat) (e : Int) (h : Rd w g A0 l0 c0 e) (hb : ∀ x ∈ l0, 0 ≤ x ∧ x < 256) :
    Calls Tryd.prog 64 #[.pointer (some ⟨g, 0, none⟩)] w fun r w' => ∃ A' c', r = .returned (.int .i64 (unz (rdD l0 e).1)) ∧ Rd w' g A' (rdD l0 e).2.1 c' (rdD l0 e).2.2 ∧ Off g w w' := by
  have H := Aside0.mk h
  have HB := Aside0.mk hb
  have hlt := rdD_lt l0 e
  obtain ⟨v, hv⟩ : ∃ v, (rdD l0 e).1 = v := ⟨_, rfl⟩
  rw [hv] at hlt
  have HV := Aside0.mk hv
  clear h hb hv
  go_enter Tryd.func64, Tryd.ntmps64
  go_wp2_with (first | (go_at_call 86; refine (digits_calls _ g A0 l0 c0 e H.out HB.out).mono ?_; rintro r w1 ⟨A', c', rfl, hr, ho⟩; have HX := Aside0.mk hr; have HOX := Aside0.mk ho; rw [HV.out]; clear hr ho))
  go_ret
  exact ⟨A', c', by rw [HV.out, ← sgn_eq hlt]; rfl, HX.out, HOX.out⟩

def rdT (most : Int) (l : List Int) (e : Int) : List Int × List Int × Int :=
  if (rdN l e).2.2 ≠ 0 then ([], l, (rdN l e).2.2)
  else if most < ((rdN l e).1 : Int) then ([], l, 2)
  else if (rdN l e).2.1.length < (rdN l e).1 then ([], l, 4)
  else ((rdN l e).2.1.take (rdN l e).1, (rdN l e).2.1.drop (rdN l e).1, 0)

theorem text_calls (w : World) (g : Nat) (A0 : Option Addr) (l0 : List Int) (c0 : Nat) (e most : Int) (h : Rd w g A0 l0 c0 e) (hb : ∀ x ∈ l0, 0 ≤ x ∧ x < 256) :
    Calls Tryd.prog 65 #[.pointer (some ⟨g, 0, none⟩), .int .i64 most] w fun r w' => ∃ A' c', r = .returned (.string (strOfNums (rdT most l0 e).1)) ∧ Rd w' g A' (rdT most l0 e).2.1 c' (rdT most l0 e).2.2 ∧ Off g w w' := by
  have H := Aside0.mk h
  have HB := Aside0.mk hb
  have h0 := h.cell0
  have f0 := h.frozen 0
  have hcc0 := h.2.2
  obtain ⟨⟨n, l1, e1⟩, hr⟩ : ∃ r, rdN l0 e = r := ⟨_, rfl⟩
  have ER := Aside0.mk hr
  clear h hb hr
  by_cases he : e1 = 0
  · subst he
    by_cases hm : most < (n : Int)
    · have c1 : decide ((n : Int) > most) = true := decide_eq_true (by omega)
      have E : Aside0 (rdT most l0 e = ([], l0, 2)) := ⟨by unfold rdT; rw [ER.out, if_neg (by simp), if_pos hm]⟩
      go_enter Tryd.func65, Tryd.ntmps65
      go_wp2_with (first | (go_at_call 87; refine (number_calls _ g A0 l0 c0 e H.out HB.out).mono ?_; rintro r w1 ⟨A', c', rfl, hr, ho⟩; rw [ER.out] at hr; rw [ER.out]; have HX := Aside0.mk hr; have HOX := Aside0.mk ho; have HCX := Aside0.mk (C_off' H.out H.out.C ho); have x1 := hr.cell1; have xf1 := hr.frozen 1; clear hr ho) | (go_at_call 88; refine (fail_calls _ g A' l1 c' 0 2 HX.out).mono ?_; rintro r w' ⟨rfl, hr2, ho2⟩; rw [failE_0] at hr2; have HF := Aside0.mk hr2; have HOF := Aside0.mk (HOX.out.trans ho2); have HCF := Aside0.mk (C_off' HX.out HCX.out ho2); clear hr2 ho2) | (go_at_call 85; refine (take_no _ g A' l1 c' 2 n HF.out (.inl (by decide))).mono ?_; rintro r w2 ⟨rfl, hr, ho⟩; rw [failE_ne (by decide)] at hr; have HT := Aside0.mk hr; have HOT := Aside0.mk (HOF.out.trans ho); have HCT := Aside0.mk (C_off' HF.out HCF.out ho); have y0 := hr.cell0; have yf0 := hr.frozen 0; have y1 := hr.cell1; have yf1 := hr.frozen 1; clear hr ho))
      go_ret
      exact ⟨A0, c0, by rw [E.out]; rfl, by rw [E.out]; exact HT.out.set0 HCT.out hcc0, HOT.out.setA H.out.cell0 (SubA.refl _)⟩
    · have c1 : decide ((n : Int) > most) = false := decide_eq_false (by omega)
      by_cases hl : l1.length < n
      · have E : Aside0 (rdT most l0 e = ([], l0, 4)) := ⟨by unfold rdT; rw [ER.out, if_neg (by simp), if_neg hm, if_pos hl]⟩
        go_enter Tryd.func65, Tryd.ntmps65
        go_wp2_with (first | (go_at_call 87; refine (number_calls _ g A0 l0 c0 e H.out HB.out).mono ?_; rintro r w1 ⟨A', c', rfl, hr, ho⟩; rw [ER.out] at hr; rw [ER.out]; have HX := Aside0.mk hr; have HOX := Aside0.mk ho; have HCX := Aside0.mk (C_off' H.out H.out.C ho); have x1 := hr.cell1; have xf1 := hr.frozen 1; clear hr ho) | (go_at_call 85; refine (take_no _ g A' l1 c' 0 n HX.out (.inr (by omega))).mono ?_; rintro r w2 ⟨rfl, hr, ho⟩; rw [failE_0] at hr; have HT := Aside0.mk hr; have HOT := Aside0.mk (HOX.out.trans ho); have HCT := Aside0.mk (C_off' HX.out HCX.out ho); have y0 := hr.cell0; have yf0 := hr.frozen 0; have y1 := hr.cell1; have yf1 := hr.frozen 1; clear hr ho))
        go_ret
        exact ⟨A0, c0, by rw [E.out]; rfl, by rw [E.out]; exact HT.out.set0 HCT.out hcc0, HOT.out.setA H.out.cell0 (SubA.refl _)⟩
      · have E : Aside0 (rdT most l0 e = (l1.take n, l1.drop n, 0)) := ⟨by unfold rdT; rw [ER.out, if_neg (by simp), if_neg hm, if_neg hl]⟩
        have hl2 : n ≤ l1.length := by omega
        have HL := Aside0.mk hl2
        clear hl hl2
        go_enter Tryd.func65, Tryd.ntmps65
        go_wp2_with (first | (go_at_call 87; refine (number_calls _ g A0 l0 c0 e H.out HB.out).mono ?_; rintro r w1 ⟨A', c', rfl, hr, ho⟩; rw [ER.out] at hr; rw [ER.out]; have HX := Aside0.mk hr; have HOX := Aside0.mk ho; have HCX := Aside0.mk (C_off' H.out H.out.C ho); have x1 := hr.cell1; have xf1 := hr.frozen 1; clear hr ho) | (go_at_call 85; refine (take_yes _ g A' l1 c' n HX.out HL.out).mono ?_; rintro r w2 ⟨rfl, hr, ho⟩; have HT := Aside0.mk hr; have HOT := Aside0.mk (HOX.out.trans ho); have hcs := conv_string (take_len (C_off' HX.out (Kd.C_take HX.out.C HL.out) ho) HL.out) c'; have y1 := hr.cell1; have yf1 := hr.frozen 1; clear hr ho))
        go_ret
        exact ⟨_, _, by rw [E.out]; rfl, by rw [E.out]; exact HT.out, HOT.out⟩
  · have c1 : (e1 == 0) = false := beq_eq_false_iff_ne.2 he
    have E : Aside0 (rdT most l0 e = ([], l0, e1)) := ⟨by unfold rdT; rw [ER.out, if_pos he]⟩
    have HE := Aside0.mk he
    clear he
    go_enter Tryd.func65, Tryd.ntmps65
    go_wp2_with (first | (go_at_call 87; refine (number_calls _ g A0 l0 c0 e H.out HB.out).mono ?_; rintro r w1 ⟨A', c', rfl, hr, ho⟩; rw [ER.out] at hr; rw [ER.out]; have HX := Aside0.mk hr; have HOX := Aside0.mk ho; have HCX := Aside0.mk (C_off' H.out H.out.C ho); have x1 := hr.cell1; have xf1 := hr.frozen 1; clear hr ho) | (go_at_call 85; refine (take_no _ g A' l1 c' e1 n HX.out (.inl HE.out)).mono ?_; rintro r w2 ⟨rfl, hr, ho⟩; rw [failE_ne HE.out] at hr; have HT := Aside0.mk hr; have HOT := Aside0.mk (HOX.out.trans ho); have HCT := Aside0.mk (C_off' HX.out HCX.out ho); have y0 := hr.cell0; have yf0 := hr.frozen 0; have y1 := hr.cell1; have yf1 := hr.frozen 1; clear hr ho))
    go_ret
    exact ⟨A0, c0, by rw [E.out]; rfl, by rw [E.out]; exact HT.out.set0 HCT.out hcc0, HOT.out.setA H.out.cell0 (SubA.refl _)⟩
end Go.Proofs.YtaddlkokencbkaaDoor.RdN

/- Plain laws of what a reader tells: what was written is read as it was; what is cut short is told so; behind an error nothing is told. -/
namespace Go.Proofs.YtaddlkokencbkaaDoor.RdN
open Go.RowKit Go.Proofs.YtaddlkokencbkaaDoorW.PrintWords Go.Proofs.YtaddlkokencbkaaDoorW.PrintLast Go.Proofs.YtaddlkokencbkaaDoorW.PrintMore Go.Proofs.YtaddlkokencbkaaDoor.Exact Go.Proofs.YtaddlkokencbkaaDoor.Rd
set_option linter.unusedVariables false
set_option linter.unusedSimpArgs false
theorem p9 : (128 : Nat) ^ 9 = 9223372036854775808 := by decide
theorem p10 : (128 : Nat) ^ 10 = 1180591620717411303424 := by decide
theorem dg_digs : ∀ (k a n : Nat) (rest : List Int), k ≤ 10 → n * 128 ^ (10 - k) < 18446744073709551616 → (k = 10 ∨ 0 < n) → dg k a (digs n ++ rest) = (a + n * 128 ^ (10 - k), rest, 0)
  | 0, a, n, rest, _, hn, h0 => by
    exfalso
    have : 1 * 128 ^ 10 ≤ n * 128 ^ 10 := Nat.mul_le_mul (by omega) (Nat.le_refl _)
    rw [p10] at this
    simp only [Nat.sub_zero] at hn
    rw [p10] at hn
    omega
  | k + 1, a, n, rest, hk, hn, h0 => by
    have e9 : 10 - (k + 1) = 9 - k := by omega
    rw [e9] at hn ⊢
    have h9 : k = 0 → n ≤ 1 := by
      rintro rfl
      simp only [Nat.sub_zero] at hn
      rw [p9] at hn
      omega
    by_cases hs : n < 128
    · rw [digs_small hs]
      simp only [List.cons_append, List.nil_append, dg]
      have e : ((n : Int) % 128).toNat = n := by omega
      rw [e, if_neg (by omega), if_pos (by omega), if_neg (by omega)]
    · rw [digs_big hs]
      simp only [List.cons_append, dg]
      have e : (((n % 128 + 128 : Nat) : Int) % 128).toNat = n % 128 := by omega
      have hp : 128 ^ (10 - k) = 128 * 128 ^ (9 - k) := by rw [show 10 - k = 9 - k + 1 by omega, Nat.pow_succ, Nat.mul_comm]
      have hmul : n / 128 * 128 ^ (10 - k) + n % 128 * 128 ^ (9 - k) = n * 128 ^ (9 - k) := by
        rw [hp, ← Nat.mul_assoc, ← Nat.add_mul, Nat.div_add_mod']
      rw [e, if_neg (by omega), if_neg (by omega), dg_digs k _ (n / 128) rest (by omega) (by omega) (.inr (by omega)), Nat.add_assoc, Nat.add_comm (n % 128 * _), hmul]
theorem dg_cut : ∀ (k a n j : Nat), k ≤ 10 → n * 128 ^ (10 - k) < 18446744073709551616 → (k = 10 ∨ 0 < n) → j < (digs n).length → dg k a ((digs n).take j) = (0, [], 4)
  | 0, a, n, j, _, hn, h0, _ => by
    exfalso
    have : 1 * 128 ^ 10 ≤ n * 128 ^ 10 := Nat.mul_le_mul (by omega) (Nat.le_refl _)
    rw [p10] at this
    simp only [Nat.sub_zero] at hn
    rw [p10] at hn
    omega
  | k + 1, a, n, 0, hk, hn, h0, hj => by simp [dg]
  | k + 1, a, n, j + 1, hk, hn, h0, hj => by
    have e9 : 10 - (k + 1) = 9 - k := by omega
    rw [e9] at hn
    have h9 : k = 0 → n ≤ 1 := by
      rintro rfl
      simp only [Nat.sub_zero] at hn
      rw [p9] at hn
      omega
    by_cases hs : n < 128
    · rw [digs_small hs] at hj
      simp at hj
    · rw [digs_big hs] at hj ⊢
      simp only [List.length_cons] at hj
      simp only [List.take_succ_cons, dg]
      have e : (((n % 128 + 128 : Nat) : Int) % 128).toNat = n % 128 := by omega
      have hp : 128 ^ (10 - k) = 128 * 128 ^ (9 - k) := by rw [show 10 - k = 9 - k + 1 by omega, Nat.pow_succ, Nat.mul_comm]
      have hmul : n / 128 * 128 ^ (10 - k) + n % 128 * 128 ^ (9 - k) = n * 128 ^ (9 - k) := by
        rw [hp, ← Nat.mul_assoc, ← Nat.add_mul, Nat.div_add_mod']
      rw [e, if_neg (by omega), if_neg (by omega), dg_cut k _ (n / 128) j (by omega) (by omega) (.inr (by omega)) (by omega)]
theorem rdD_digs {n : Nat} (h : n < 18446744073709551616) (rest : List Int) : rdD (digs n ++ rest) 0 = (n, rest, 0) := by
  unfold rdD
  rw [dg_digs 10 0 n rest (by omega) (by simpa using h) (.inl rfl)]
  simp [fin]
theorem rdD_cut {n j : Nat} (h : n < 18446744073709551616) (hj : j < (digs n).length) : rdD ((digs n).take j) 0 = (0, (digs n).take j, 4) := by
  unfold rdD
  rw [dg_cut 10 0 n j (by omega) (by simpa using h) (.inl rfl) hj]
  rfl
theorem rdN_digs {n : Nat} (h : n < 9223372036854775808) (rest : List Int) : rdN (digs n ++ rest) 0 = (n, rest, 0) := by
  unfold rdN
  rw [rdD_digs (by omega), if_neg (by simp; omega)]
theorem rdN_cut {n j : Nat} (h : n < 18446744073709551616) (hj : j < (digs n).length) : rdN ((digs n).take j) 0 = (0, (digs n).take j, 4) := by
  unfold rdN
  rw [rdD_cut h hj, if_neg (by simp)]
theorem rdT_text {s : List Int} {most : Int} (h : (s.length : Int) ≤ most) (h2 : s.length < 9223372036854775808) (rest : List Int) : rdT most (digs s.length ++ (s ++ rest)) 0 = (s, rest, 0) := by
  unfold rdT
  rw [rdN_digs h2, if_neg (by simp), if_neg (by simp only; omega), if_neg (by simp)]
  simp
theorem rdT_cut {s : List Int} {most : Int} (h : (s.length : Int) ≤ most) (h2 : s.length < 9223372036854775808) {j : Nat} (hj : j < (digs s.length ++ s).length) : rdT most ((digs s.length ++ s).take j) 0 = ([], (digs s.length ++ s).take j, 4) := by
  unfold rdT
  by_cases hd : j < (digs s.length).length
  · rw [List.take_append_of_le_length (by omega), rdN_cut (by omega) hd, if_pos (by simp)]
  · obtain ⟨m, rfl⟩ : ∃ m, j = (digs s.length).length + m := ⟨j - (digs s.length).length, by omega⟩
    simp only [List.length_append] at hj
    rw [List.take_append, List.take_of_length_le (by omega), Nat.add_sub_cancel_left, rdN_digs h2, if_neg (by simp), if_neg (by simp only; omega), if_pos (by simp only [List.length_take]; omega)]
theorem rdD_err {l : List Int} {e : Int} (h : e ≠ 0) : rdD l e = (0, l, e) := if_pos h
theorem rdN_err {l : List Int} {e : Int} (h : e ≠ 0) : rdN l e = (0, l, e) := by
  unfold rdN
  rw [rdD_err h, if_neg (by simp)]
theorem rdT_err {l : List Int} {e most : Int} (h : e ≠ 0) : rdT most l e = ([], l, e) := by
  unfold rdT
  rw [rdN_err h, if_pos h]
theorem byteV_err {l : List Int} {e : Int} (h : e ≠ 0) : byteV l e = 0 := if_neg h
theorem byteL_err {l : List Int} {e : Int} (h : e ≠ 0) : byteL l e = l := if_neg h
theorem byteE_err {l : List Int} {e : Int} (h : e ≠ 0) : byteE l e = e := by
  unfold byteE
  rw [if_neg (fun k => h k.1), failE_ne h]
theorem rdN_bad (rest : List Int) : rdN (128 :: 0 :: rest) 0 = (0, 128 :: 0 :: rest, 2) := by
  have h : rdD (128 :: 0 :: rest) 0 = (0, 128 :: 0 :: rest, 2) := rfl
  unfold rdN
  rw [h, if_neg (by simp)]
theorem unz_zig {a : Int} : unz (Lib.zigzag a) = a := by
  unfold unz Lib.zigzag
  split <;> split <;> omega
end Go.Proofs.YtaddlkokencbkaaDoor.RdN
