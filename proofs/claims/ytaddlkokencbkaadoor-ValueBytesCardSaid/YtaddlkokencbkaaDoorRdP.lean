/- Plain laws of what a reader tells: what was written is read as it was; what is cut short is told so; behind an error nothing is told. -/
import Derived.Test.YtaddlkokencbkaaDoorRdT
namespace Go.Proofs.YtaddlkokencbkaaDoor.RdN
open Go.RowKit Go.Proofs.YtaddlkokencbkaaDoorW.PrintWords Go.Proofs.YtaddlkokencbkaaDoorW.PrintLast Go.Proofs.YtaddlkokencbkaaDoorW.PrintMore Go.Proofs.YtaddlkokencbkaaDoor.Exact Go.Proofs.YtaddlkokencbkaaDoor.Rd
set_option linter.unusedVariables false
set_option linter.unusedSimpArgs false
theorem p9 : (128 : Nat) ^ 9 = 9223372036854775808 := by decide
theorem p10 : (128 : Nat) ^ 10 = 1180591620717411303424 := by decide
theorem dg_digs : ∀ (k a n : Nat) (rest : List Int), k ≤ 10 → n * 128 ^ (10 - k) < 18446744073709551616 → (k = 10 ∨ 0 < n) → dg k a (digs n ++ rest) = (a + n * 128 ^ (10 - k), rest, 0)
  | 0, a, n, rest, _, hn, h0 => by
    exfalso
    have : 1 * 128 ^ 10 ≤ n * 128 ^ 10 := Nat.mul_le_mul (by omega) (Nat.le_refl _)
    rw [p10] at this
    simp only [Nat.sub_zero] at hn
    rw [p10] at hn
    omega
  | k + 1, a, n, rest, hk, hn, h0 => by
    have e9 : 10 - (k + 1) = 9 - k := by omega
    rw [e9] at hn ⊢
    have h9 : k = 0 → n ≤ 1 := by
      rintro rfl
      simp only [Nat.sub_zero] at hn
      rw [p9] at hn
      omega
    by_cases hs : n < 128
    · rw [digs_small hs]
      simp only [List.cons_append, List.nil_append, dg]
      have e : ((n : Int) % 128).toNat = n := by omega
      rw [e, if_neg (by omega), if_pos (by omega), if_neg (by omega)]
    · rw [digs_big hs]
      simp only [List.cons_append, dg]
      have e : (((n % 128 + 128 : Nat) : Int) % 128).toNat = n % 128 := by omega
      have hp : 128 ^ (10 - k) = 128 * 128 ^ (9 - k) := by rw [show 10 - k = 9 - k + 1 by omega, Nat.pow_succ, Nat.mul_comm]
      have hmul : n / 128 * 128 ^ (10 - k) + n % 128 * 128 ^ (9 - k) = n * 128 ^ (9 - k) := by
        rw [hp, ← Nat.mul_assoc, ← Nat.add_mul, Nat.div_add_mod']
      rw [e, if_neg (by omega), if_neg (by omega), dg_digs k _ (n / 128) rest (by omega) (by omega) (.inr (by omega)), Nat.add_assoc, Nat.add_comm (n % 128 * _), hmul]
theorem dg_cut : ∀ (k a n j : Nat), k ≤ 10 → n * 128 ^ (10 - k) < 18446744073709551616 → (k = 10 ∨ 0 < n) → j < (digs n).length → dg k a ((digs n).take j) = (0, [], 4)
  | 0, a, n, j, _, hn, h0, _ => by
    exfalso
    have : 1 * 128 ^ 10 ≤ n * 128 ^ 10 := Nat.mul_le_mul (by omega) (Nat.le_refl _)
    rw [p10] at this
    simp only [Nat.sub_zero] at hn
    rw [p10] at hn
    omega
  | k + 1, a, n, 0, hk, hn, h0, hj => by simp [dg]
  | k + 1, a, n, j + 1, hk, hn, h0, hj => by
    have e9 : 10 - (k + 1) = 9 - k := by omega
    rw [e9] at hn
    have h9 : k = 0 → n ≤ 1 := by
      rintro rfl
      simp only [Nat.sub_zero] at hn
      rw [p9] at hn
      omega
    by_cases hs : n < 128
    · rw [digs_small hs] at hj
      simp at hj
    · rw [digs_big hs] at hj ⊢
      simp only [List.length_cons] at hj
      simp only [List.take_succ_cons, dg]
      have e : (((n % 128 + 128 : Nat) : Int) % 128).toNat = n % 128 := by omega
      have hp : 128 ^ (10 - k) = 128 * 128 ^ (9 - k) := by rw [show 10 - k = 9 - k + 1 by omega, Nat.pow_succ, Nat.mul_comm]
      have hmul : n / 128 * 128 ^ (10 - k) + n % 128 * 128 ^ (9 - k) = n * 128 ^ (9 - k) := by
        rw [hp, ← Nat.mul_assoc, ← Nat.add_mul, Nat.div_add_mod']
      rw [e, if_neg (by omega), if_neg (by omega), dg_cut k _ (n / 128) j (by omega) (by omega) (.inr (by omega)) (by omega)]
theorem rdD_digs {n : Nat} (h : n < 18446744073709551616) (rest : List Int) : rdD (digs n ++ rest) 0 = (n, rest, 0) := by
  unfold rdD
  rw [dg_digs 10 0 n rest (by omega) (by simpa using h) (.inl rfl)]
  simp [fin]
theorem rdD_cut {n j : Nat} (h : n < 18446744073709551616) (hj : j < (digs n).length) : rdD ((digs n).take j) 0 = (0, (digs n).take j, 4) := by
  unfold rdD
  rw [dg_cut 10 0 n j (by omega) (by simpa using h) (.inl rfl) hj]
  rfl
theorem rdN_digs {n : Nat} (h : n < 9223372036854775808) (rest : List Int) : rdN (digs n ++ rest) 0 = (n, rest, 0) := by
  unfold rdN
  rw [rdD_digs (by omega), if_neg (by simp; omega)]
theorem rdN_cut {n j : Nat} (h : n < 18446744073709551616) (hj : j < (digs n).length) : rdN ((digs n).take j) 0 = (0, (digs n).take j, 4) := by
  unfold rdN
  rw [rdD_cut h hj, if_neg (by simp)]
theorem rdT_text {s : List Int} {most : Int} (h : (s.length : Int) ≤ most) (h2 : s.length < 9223372036854775808) (rest : List Int) : rdT most (digs s.length ++ (s ++ rest)) 0 = (s, rest, 0) := by
  unfold rdT
  rw [rdN_digs h2, if_neg (by simp), if_neg (by simp only; omega), if_neg (by simp)]
  simp
theorem rdT_cut {s : List Int} {most : Int} (h : (s.length : Int) ≤ most) (h2 : s.length < 9223372036854775808) {j : Nat} (hj : j < (digs s.length ++ s).length) : rdT most ((digs s.length ++ s).take j) 0 = ([], (digs s.length ++ s).take j, 4) := by
  unfold rdT
  by_cases hd : j < (digs s.length).length
  · rw [List.take_append_of_le_length (by omega), rdN_cut (by omega) hd, if_pos (by simp)]
  · obtain ⟨m, rfl⟩ : ∃ m, j = (digs s.length).length + m := ⟨j - (digs s.length).length, by omega⟩
    simp only [List.length_append] at hj
    rw [List.take_append, List.take_of_length_le (by omega), Nat.add_sub_cancel_left, rdN_digs h2, if_neg (by simp), if_neg (by simp only; omega), if_pos (by simp only [List.length_take]; omega)]
theorem rdD_err {l : List Int} {e : Int} (h : e ≠ 0) : rdD l e = (0, l, e) := if_pos h
theorem rdN_err {l : List Int} {e : Int} (h : e ≠ 0) : rdN l e = (0, l, e) := by
  unfold rdN
  rw [rdD_err h, if_neg (by simp)]
theorem rdT_err {l : List Int} {e most : Int} (h : e ≠ 0) : rdT most l e = ([], l, e) := by
  unfold rdT
  rw [rdN_err h, if_pos h]
theorem byteV_err {l : List Int} {e : Int} (h : e ≠ 0) : byteV l e = 0 := if_neg h
theorem byteL_err {l : List Int} {e : Int} (h : e ≠ 0) : byteL l e = l := if_neg h
theorem byteE_err {l : List Int} {e : Int} (h : e ≠ 0) : byteE l e = e := by
  unfold byteE
  rw [if_neg (fun k => h k.1), failE_ne h]
theorem rdN_bad (rest : List Int) : rdN (128 :: 0 :: rest) 0 = (0, 128 :: 0 :: rest, 2) := by
  have h : rdD (128 :: 0 :: rest) 0 = (0, 128 :: 0 :: rest, 2) := rfl
  unfold rdN
  rw [h, if_neg (by simp)]
theorem unz_zig {a : Int} : unz (Lib.zigzag a) = a := by
  unfold unz Lib.zigzag
  split <;> split <;> omega
end Go.Proofs.YtaddlkokencbkaaDoor.RdN
