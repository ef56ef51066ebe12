/- What a reader's Number, Signed and Text tell. -/
import Derived.Test.YtaddlkokencbkaaDoorRdN
import Derived.Lib.Zigzag
namespace Go.Proofs.YtaddlkokencbkaaDoor.RdN
open Go.RowKit Go.Proofs.YtaddlkokencbkaaDoorW.PrintWords Go.Proofs.YtaddlkokencbkaaDoorW.PrintLast Go.Proofs.YtaddlkokencbkaaDoorW.PrintMore Go.Proofs.YtaddlkokencbkaaDoor.Exact Go.Proofs.YtaddlkokencbkaaDoor.Rd
set_option linter.unusedVariables false
set_option linter.unusedSimpArgs false

theorem dg_lt : ∀ (k n : Nat) (l : List Int), k ≤ 10 → n < 128 ^ (10 - k) → (dg k n l).1 < 18446744073709551616
  | 0, _, _, _, _ => by simp [dg]
  | _ + 1, _, [], _, _ => by simp [dg]
  | k + 1, n, x :: l, hk, hn => by
    have hd : (x % 128).toNat < 128 := by omega
    unfold dg
    generalize (x % 128).toNat = d at *
    have e9 : 10 - (k + 1) = 9 - k := by omega
    rw [e9] at hn
    by_cases h1 : k = 0 ∧ 1 < d
    · rw [if_pos h1]; simp
    rw [if_neg h1]
    have ho := or_digit (i := 9 - k) hn hd (by omega)
    by_cases h2 : x < 128
    · rw [if_pos h2]
      split
      · simp
      · exact ho.2.2
    · rw [if_neg h2]
      exact dg_lt k _ l (by omega) (by rw [show 10 - k = 9 - k + 1 by omega]; exact ho.2.1)
theorem rdD_lt (l : List Int) (e : Int) : (rdD l e).1 < 18446744073709551616 := by
  have := dg_lt 10 0 l (by omega) (by decide)
  unfold rdD fin
  split
  · simp
  · split
    · exact this
    · simp

def rdN (l : List Int) (e : Int) : Nat × List Int × Int :=
  if 9223372036854775807 < (rdD l e).1 then (0, l, failE (rdD l e).2.2 2) else rdD l e

theorem number_calls (w : World) (g : Nat) (A0 : Option Addr) (l0 : List Int) (c0 : Nat) (e : Int) (h : Rd w g A0 l0 c0 e) (hb : ∀ x ∈ l0, 0 ≤ x ∧ x < 256) :
    Calls Tryd.prog 87 #[.pointer (some ⟨g, 0, none⟩)] w fun r w' => ∃ A' c', r = .returned (.int .i64 (rdN l0 e).1) ∧ Rd w' g A' (rdN l0 e).2.1 c' (rdN l0 e).2.2 ∧ Off g w w' := by
  have H := Aside0.mk h
  have HB := Aside0.mk hb
  have h0 := h.cell0
  have f0 := h.frozen 0
  have hcc0 := h.2.2
  have hlt := rdD_lt l0 e
  have ED : Aside0 (∃ r, rdD l0 e = r) := ⟨_, rfl⟩
  obtain ⟨⟨v, l1, e1⟩, hr⟩ := ED.out
  have ER := Aside0.mk hr
  rw [hr] at hlt
  dsimp only at hlt
  clear h hb ED hr
  by_cases hv : 9223372036854775807 < v
  · have c1 : decide ((v : Int) > 9223372036854775807) = true := decide_eq_true (by omega)
    have E : Aside0 (rdN l0 e = (0, l0, failE e1 2)) := ⟨by unfold rdN; rw [ER.out, if_pos hv]⟩
    go_enter Tryd.func87, Tryd.ntmps87
    go_wp2_with (first | (go_at_call 86; refine (digits_calls _ g A0 l0 c0 e H.out HB.out).mono ?_; rintro r w1 ⟨A', c', rfl, hr, ho⟩; rw [ER.out] at hr; rw [ER.out]; have HX := Aside0.mk hr; have HOX := Aside0.mk ho; have HCX := Aside0.mk (C_off' H.out H.out.C ho); have x0 := hr.cell0; have xf0 := hr.frozen 0; clear hr ho) | (go_at_call 88; refine (fail_calls _ g A0 l0 c0 e1 2 (HX.out.set0 HCX.out hcc0)).mono ?_; rintro r w' ⟨rfl, hr2, ho2⟩; have HF2 := Aside0.mk hr2; have HO2 := Aside0.mk ho2; clear hr2 ho2))
    go_ret
    exact ⟨A0, c0, by rw [E.out]; rfl, by rw [E.out]; exact HF2.out, (HOX.out.set _ _).trans HO2.out⟩
  · have c1 : decide ((v : Int) > 9223372036854775807) = false := decide_eq_false (by omega)
    have E : Aside0 (rdN l0 e = (v, l1, e1)) := ⟨by unfold rdN; rw [ER.out, if_neg hv]⟩
    go_enter Tryd.func87, Tryd.ntmps87
    go_wp2_with (first | (go_at_call 86; refine (digits_calls _ g A0 l0 c0 e H.out HB.out).mono ?_; rintro r w1 ⟨A', c', rfl, hr, ho⟩; rw [ER.out] at hr; rw [ER.out]; have HX := Aside0.mk hr; have HOX := Aside0.mk ho; clear hr ho))
    go_ret
    exact ⟨A', c', by rw [E.out]; first | rfl | skip, by rw [E.out]; exact HX.out, HOX.out⟩
def unz (n : Nat) : Int := if n % 2 = 0 then ((n / 2 : Nat) : Int) else -((n / 2 : Nat) : Int) - 1
theorem xor_comm64 (a b : Int) : bits .xor .i64 a b = bits .xor .i64 b a := by
  show IntKind.i64.wrap ((BitVec.ofInt 64 a ^^^ BitVec.ofInt 64 b).toNat : Int) = IntKind.i64.wrap ((BitVec.ofInt 64 b ^^^ BitVec.ofInt 64 a).toNat : Int)
  rw [BitVec.xor_comm]
theorem xor_zero64 {a : Nat} (h : a < 9223372036854775808) : bits .xor .i64 (a : Int) 0 = (a : Int) := by
  show IntKind.i64.wrap ((BitVec.ofInt 64 (a : Int) ^^^ BitVec.ofInt 64 0).toNat : Int) = _
  have h2 : (BitVec.ofInt 64 (a : Int)).toNat = a := by
    rw [BitVec.ofInt_natCast, BitVec.toNat_ofNat]; exact Nat.mod_eq_of_lt (by omega)
  rw [show BitVec.ofInt 64 0 = 0#64 from rfl, BitVec.xor_zero, h2, IntKind.wrap_i64]
  omega
theorem sgn_eq {v : Nat} (h : v < 18446744073709551616) : bits .xor .i64 ((v : Int) / 2) (wrap64 (-wrap64 (bits .and .u64 (v : Int) 1))) = unz v := by
  rw [Lib.u64_and1 _ (by omega) (by omega), show (v : Int) / 2 = ((v / 2 : Nat) : Int) by omega]
  unfold unz
  by_cases hp : v % 2 = 0
  · rw [if_pos hp, show (v : Int) % 2 = 0 by omega, show wrap64 (-wrap64 0) = 0 by unfold wrap64; omega, xor_zero64 (by omega)]
  · rw [if_neg hp, show (v : Int) % 2 = 1 by omega, show wrap64 (-wrap64 1) = -1 by unfold wrap64; omega, xor_comm64, Lib.i64_not _ (by omega)]
theorem conv_string {w : World} {A : Option Addr} {n : Nat} {xs : List Int} (h : Kd.C (Kd.int .u8) w A n xs) (c : Nat) : (convert 25 9 (.slice A n c)).run Tryd.prog w = .ok (.string (strOfNums xs)) w :=
  Kd.C_string Tryd.underlying25 Tryd.underlying5 Tryd.underlying9 h
theorem take_len {w : World} {A : Option Addr} {n : Nat} {xs : List Int} (h : Kd.C (Kd.int .u8) w A (xs.take n).length (xs.take n)) (hn : n ≤ xs.length) : Kd.C (Kd.int .u8) w A n (xs.take n) := by
  have e : (xs.take n).length = n := by rw [List.length_take]; omega
  rw [e] at h
  exact h
theorem signed_calls (w : World) (g : Nat) (A0 : Option Addr) (l0 : List Int) (c0 : Nat) (e : Int) (h : Rd w g A0 l0 c0 e) (hb : ∀ x ∈ l0, 0 ≤ x ∧ x < 256) :
    Calls Tryd.prog 64 #[.pointer (some ⟨g, 0, none⟩)] w fun r w' => ∃ A' c', r = .returned (.int .i64 (unz (rdD l0 e).1)) ∧ Rd w' g A' (rdD l0 e).2.1 c' (rdD l0 e).2.2 ∧ Off g w w' := by
  have H := Aside0.mk h
  have HB := Aside0.mk hb
  have hlt := rdD_lt l0 e
  obtain ⟨v, hv⟩ : ∃ v, (rdD l0 e).1 = v := ⟨_, rfl⟩
  rw [hv] at hlt
  have HV := Aside0.mk hv
  clear h hb hv
  go_enter Tryd.func64, Tryd.ntmps64
  go_wp2_with (first | (go_at_call 86; refine (digits_calls _ g A0 l0 c0 e H.out HB.out).mono ?_; rintro r w1 ⟨A', c', rfl, hr, ho⟩; have HX := Aside0.mk hr; have HOX := Aside0.mk ho; rw [HV.out]; clear hr ho))
  go_ret
  exact ⟨A', c', by rw [HV.out, ← sgn_eq hlt]; rfl, HX.out, HOX.out⟩

def rdT (most : Int) (l : List Int) (e : Int) : List Int × List Int × Int :=
  if (rdN l e).2.2 ≠ 0 then ([], l, (rdN l e).2.2)
  else if most < ((rdN l e).1 : Int) then ([], l, 2)
  else if (rdN l e).2.1.length < (rdN l e).1 then ([], l, 4)
  else ((rdN l e).2.1.take (rdN l e).1, (rdN l e).2.1.drop (rdN l e).1, 0)

theorem text_calls (w : World) (g : Nat) (A0 : Option Addr) (l0 : List Int) (c0 : Nat) (e most : Int) (h : Rd w g A0 l0 c0 e) (hb : ∀ x ∈ l0, 0 ≤ x ∧ x < 256) :
    Calls Tryd.prog 65 #[.pointer (some ⟨g, 0, none⟩), .int .i64 most] w fun r w' => ∃ A' c', r = .returned (.string (strOfNums (rdT most l0 e).1)) ∧ Rd w' g A' (rdT most l0 e).2.1 c' (rdT most l0 e).2.2 ∧ Off g w w' := by
  have H := Aside0.mk h
  have HB := Aside0.mk hb
  have h0 := h.cell0
  have f0 := h.frozen 0
  have hcc0 := h.2.2
  obtain ⟨⟨n, l1, e1⟩, hr⟩ : ∃ r, rdN l0 e = r := ⟨_, rfl⟩
  have ER := Aside0.mk hr
  clear h hb hr
  by_cases he : e1 = 0
  · subst he
    by_cases hm : most < (n : Int)
    · have c1 : decide ((n : Int) > most) = true := decide_eq_true (by omega)
      have E : Aside0 (rdT most l0 e = ([], l0, 2)) := ⟨by unfold rdT; rw [ER.out, if_neg (by simp), if_pos hm]⟩
      go_enter Tryd.func65, Tryd.ntmps65
      go_wp2_with (first | (go_at_call 87; refine (number_calls _ g A0 l0 c0 e H.out HB.out).mono ?_; rintro r w1 ⟨A', c', rfl, hr, ho⟩; rw [ER.out] at hr; rw [ER.out]; have HX := Aside0.mk hr; have HOX := Aside0.mk ho; have HCX := Aside0.mk (C_off' H.out H.out.C ho); have x1 := hr.cell1; have xf1 := hr.frozen 1; clear hr ho) | (go_at_call 88; refine (fail_calls _ g A' l1 c' 0 2 HX.out).mono ?_; rintro r w' ⟨rfl, hr2, ho2⟩; rw [failE_0] at hr2; have HF := Aside0.mk hr2; have HOF := Aside0.mk (HOX.out.trans ho2); have HCF := Aside0.mk (C_off' HX.out HCX.out ho2); clear hr2 ho2) | (go_at_call 85; refine (take_no _ g A' l1 c' 2 n HF.out (.inl (by decide))).mono ?_; rintro r w2 ⟨rfl, hr, ho⟩; rw [failE_ne (by decide)] at hr; have HT := Aside0.mk hr; have HOT := Aside0.mk (HOF.out.trans ho); have HCT := Aside0.mk (C_off' HF.out HCF.out ho); have y0 := hr.cell0; have yf0 := hr.frozen 0; have y1 := hr.cell1; have yf1 := hr.frozen 1; clear hr ho))
      go_ret
      exact ⟨A0, c0, by rw [E.out]; rfl, by rw [E.out]; exact HT.out.set0 HCT.out hcc0, HOT.out.set _ _⟩
    · have c1 : decide ((n : Int) > most) = false := decide_eq_false (by omega)
      by_cases hl : l1.length < n
      · have E : Aside0 (rdT most l0 e = ([], l0, 4)) := ⟨by unfold rdT; rw [ER.out, if_neg (by simp), if_neg hm, if_pos hl]⟩
        go_enter Tryd.func65, Tryd.ntmps65
        go_wp2_with (first | (go_at_call 87; refine (number_calls _ g A0 l0 c0 e H.out HB.out).mono ?_; rintro r w1 ⟨A', c', rfl, hr, ho⟩; rw [ER.out] at hr; rw [ER.out]; have HX := Aside0.mk hr; have HOX := Aside0.mk ho; have HCX := Aside0.mk (C_off' H.out H.out.C ho); have x1 := hr.cell1; have xf1 := hr.frozen 1; clear hr ho) | (go_at_call 85; refine (take_no _ g A' l1 c' 0 n HX.out (.inr (by omega))).mono ?_; rintro r w2 ⟨rfl, hr, ho⟩; rw [failE_0] at hr; have HT := Aside0.mk hr; have HOT := Aside0.mk (HOX.out.trans ho); have HCT := Aside0.mk (C_off' HX.out HCX.out ho); have y0 := hr.cell0; have yf0 := hr.frozen 0; have y1 := hr.cell1; have yf1 := hr.frozen 1; clear hr ho))
        go_ret
        exact ⟨A0, c0, by rw [E.out]; rfl, by rw [E.out]; exact HT.out.set0 HCT.out hcc0, HOT.out.set _ _⟩
      · have E : Aside0 (rdT most l0 e = (l1.take n, l1.drop n, 0)) := ⟨by unfold rdT; rw [ER.out, if_neg (by simp), if_neg hm, if_neg hl]⟩
        have hl2 : n ≤ l1.length := by omega
        have HL := Aside0.mk hl2
        clear hl hl2
        go_enter Tryd.func65, Tryd.ntmps65
        go_wp2_with (first | (go_at_call 87; refine (number_calls _ g A0 l0 c0 e H.out HB.out).mono ?_; rintro r w1 ⟨A', c', rfl, hr, ho⟩; rw [ER.out] at hr; rw [ER.out]; have HX := Aside0.mk hr; have HOX := Aside0.mk ho; have HCX := Aside0.mk (C_off' H.out H.out.C ho); have x1 := hr.cell1; have xf1 := hr.frozen 1; clear hr ho) | (go_at_call 85; refine (take_yes _ g A' l1 c' n HX.out HL.out).mono ?_; rintro r w2 ⟨rfl, hr, ho⟩; have HT := Aside0.mk hr; have HOT := Aside0.mk (HOX.out.trans ho); have hcs := conv_string (take_len (C_off' HX.out (Kd.C_take HX.out.C HL.out) ho) HL.out) c'; have y1 := hr.cell1; have yf1 := hr.frozen 1; clear hr ho))
        go_ret
        exact ⟨_, _, by rw [E.out]; rfl, by rw [E.out]; exact HT.out, HOT.out⟩
  · have c1 : (e1 == 0) = false := beq_eq_false_iff_ne.2 he
    have E : Aside0 (rdT most l0 e = ([], l0, e1)) := ⟨by unfold rdT; rw [ER.out, if_pos he]⟩
    have HE := Aside0.mk he
    clear he
    go_enter Tryd.func65, Tryd.ntmps65
    go_wp2_with (first | (go_at_call 87; refine (number_calls _ g A0 l0 c0 e H.out HB.out).mono ?_; rintro r w1 ⟨A', c', rfl, hr, ho⟩; rw [ER.out] at hr; rw [ER.out]; have HX := Aside0.mk hr; have HOX := Aside0.mk ho; have HCX := Aside0.mk (C_off' H.out H.out.C ho); have x1 := hr.cell1; have xf1 := hr.frozen 1; clear hr ho) | (go_at_call 85; refine (take_no _ g A' l1 c' e1 n HX.out (.inl HE.out)).mono ?_; rintro r w2 ⟨rfl, hr, ho⟩; rw [failE_ne HE.out] at hr; have HT := Aside0.mk hr; have HOT := Aside0.mk (HOX.out.trans ho); have HCT := Aside0.mk (C_off' HX.out HCX.out ho); have y0 := hr.cell0; have yf0 := hr.frozen 0; have y1 := hr.cell1; have yf1 := hr.frozen 1; clear hr ho))
    go_ret
    exact ⟨A0, c0, by rw [E.out]; rfl, by rw [E.out]; exact HT.out.set0 HCT.out hcc0, HOT.out.set _ _⟩
end Go.Proofs.YtaddlkokencbkaaDoor.RdN
