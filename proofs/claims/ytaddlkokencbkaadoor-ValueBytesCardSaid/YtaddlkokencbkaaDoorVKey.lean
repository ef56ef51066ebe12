/- Plain law: value.key's bytes are keyV behind what there is. -/
import Derived.Test.YtaddlkokencbkaaDoorQ5

import Derived.Laws.BitsAllLaws
import Derived.Test.YtaddlkokencbkaaDoorExact
namespace Go.Proofs.YtaddlkokencbkaaDoor.VKey
open Go.RowKit Go.Proofs.YtaddlkokencbkaaDoorW.PrintWords Go.Proofs.YtaddlkokencbkaaDoorW.PrintLast Go.Proofs.YtaddlkokencbkaaDoorW.PrintMore Go.Proofs.YtaddlkokencbkaaDoor.Q Go.Proofs.YtaddlkokencbkaaDoor.Exact
set_option linter.unusedVariables false
theorem nat_xor_top {x : Nat} (h : x < 18446744073709551616) : x ^^^ 9223372036854775808 = (x + 9223372036854775808) % 18446744073709551616 := by
  have hb : ∀ y : Nat, y < 2 ^ 63 → y ^^^ 2 ^ 63 = 2 ^ 63 + y := fun y hy => by
    apply Nat.eq_of_testBit_eq
    intro i
    rw [Nat.testBit_xor, Nat.testBit_two_pow]
    by_cases hi : i = 63
    · subst hi
      rw [Nat.testBit_two_pow_add_eq]
      simp
    · rcases Nat.lt_or_ge i 63 with hl | hg
      · rw [Nat.testBit_two_pow_add_gt hl]
        simp [show ¬ 63 = i by omega]
      · have e1 : y.testBit i = false := Nat.testBit_lt_two_pow (Nat.lt_of_lt_of_le hy (Nat.pow_le_pow_right (by omega) (by omega)))
        have e2 : (2 ^ 63 + y).testBit i = false := Nat.testBit_lt_two_pow (by
          have : 2 ^ 64 ≤ 2 ^ i := Nat.pow_le_pow_right (by omega) (by omega)
          omega)
        rw [e1, e2]
        simp [show ¬ 63 = i by omega]
  rcases Nat.lt_or_ge x (2 ^ 63) with hl | hg
  · have := hb x hl
    simp only [Nat.reducePow] at this hl
    rw [this]
    omega
  · obtain ⟨y, rfl⟩ : ∃ y, x = 2 ^ 63 + y := ⟨x - 2 ^ 63, by omega⟩
    have hy : y < 2 ^ 63 := by simp only [Nat.reducePow] at h ⊢; omega
    have := hb y hy
    rw [← this]
    have e : y ^^^ 2 ^ 63 ^^^ 9223372036854775808 = y := by
      rw [show (9223372036854775808 : Nat) = 2 ^ 63 by decide, Nat.xor_assoc, Nat.xor_self, Nat.xor_zero]
    rw [e, this]
    simp only [Nat.reducePow] at hy ⊢
    omega
def be8 (x : Int) : List Int := [x / 72057594037927936 % 256, x / 281474976710656 % 256, x / 1099511627776 % 256, x / 4294967296 % 256, x / 16777216 % 256, x / 65536 % 256, x / 256 % 256, x % 256]
def esc : List Int → List Int
  | [] => []
  | c :: l => if c = 0 then 0 :: 255 :: esc l else c :: esc l
def up (n : Int) : Int := IntKind.u64.wrap ((IntKind.u64.wrap n) + 9223372036854775808)
/-- A value's key. -/
def keyB (k n : Int) (s : ByteArray) : List Int :=
  (k % 256) :: (if k = 1 then [n % 256] else if k = 2 then be8 (up n) else if k = 3 ∨ k = 4 then esc (bytesOf s) ++ [0, 1] else [])
theorem esc_len : ∀ l : List Int, (esc l).length ≤ 2 * l.length
  | [] => by simp [esc]
  | c :: l => by
    have := esc_len l
    unfold esc
    split <;> simp only [List.length_cons] <;> omega
theorem esc_append : ∀ l m : List Int, esc (l ++ m) = esc l ++ esc m
  | [], m => rfl
  | c :: l, m => by
    simp only [List.cons_append, esc, esc_append l m]
    split <;> rfl
theorem up_xor (n : Int) : Go.bits .xor .u64 (IntKind.u64.wrap n) 9223372036854775808 = up n := by
  have h0 : 0 ≤ IntKind.u64.wrap n := by rw [IntKind.wrap_u64]; omega
  have h1 : IntKind.u64.wrap n < 18446744073709551616 := by rw [IntKind.wrap_u64]; omega
  obtain ⟨m, hm⟩ := Int.eq_ofNat_of_zero_le h0
  rw [hm] at h1 ⊢
  have := u64_xor_nat m 9223372036854775808 (by omega) (by omega)
  unfold up
  rw [hm, show ((9223372036854775808 : Int)) = ((9223372036854775808 : Nat) : Int) by rfl, this, nat_xor_top (by omega), IntKind.wrap_u64]
  omega
theorem key_l0 (l0 : List Int) (hl : l0.length ≤ 100000000) (n a : Int) (s : ByteArray) (K : Nat) : value_key.l0 (K + 9) l0 0 a n s = some (l0 ++ be8 (up n)) := by
  have h0 : 0 ≤ up n := by unfold up; rw [IntKind.wrap_u64]; omega
  have h1 : up n < 18446744073709551616 := by unfold up; rw [IntKind.wrap_u64]; omega
  have e : ∀ i : Int, 0 ≤ i → i < 8 → wrap64 (8 * (wrap64 (7 - i))) = 8 * (7 - i) := fun i _ _ => by unfold wrap64; omega
  have w1 : ∀ i : Int, 0 ≤ i → i < 8 → wrap64 (i + 1) = i + 1 := fun i _ _ => by unfold wrap64; omega
  rw [value_key.l0, if_pos (by omega), if_pos (by rw [e _ (by omega) (by omega)]; omega), if_pos (by omega), up_xor, e _ (by omega) (by omega), w1 _ (by omega) (by omega)]
  rw [value_key.l0, if_pos (by omega), if_pos (by rw [e _ (by omega) (by omega)]; omega), if_pos (by simp; omega), up_xor, e _ (by omega) (by omega), w1 _ (by omega) (by omega)]
  rw [value_key.l0, if_pos (by omega), if_pos (by rw [e _ (by omega) (by omega)]; omega), if_pos (by simp; omega), up_xor, e _ (by omega) (by omega), w1 _ (by omega) (by omega)]
  rw [value_key.l0, if_pos (by omega), if_pos (by rw [e _ (by omega) (by omega)]; omega), if_pos (by simp; omega), up_xor, e _ (by omega) (by omega), w1 _ (by omega) (by omega)]
  rw [value_key.l0, if_pos (by omega), if_pos (by rw [e _ (by omega) (by omega)]; omega), if_pos (by simp; omega), up_xor, e _ (by omega) (by omega), w1 _ (by omega) (by omega)]
  rw [value_key.l0, if_pos (by omega), if_pos (by rw [e _ (by omega) (by omega)]; omega), if_pos (by simp; omega), up_xor, e _ (by omega) (by omega), w1 _ (by omega) (by omega)]
  rw [value_key.l0, if_pos (by omega), if_pos (by rw [e _ (by omega) (by omega)]; omega), if_pos (by simp; omega), up_xor, e _ (by omega) (by omega), w1 _ (by omega) (by omega)]
  rw [value_key.l0, if_pos (by omega), if_pos (by rw [e _ (by omega) (by omega)]; omega), if_pos (by simp; omega), up_xor, e _ (by omega) (by omega), w1 _ (by omega) (by omega)]
  rw [value_key.l0, if_neg (by omega)]
  simp [shr, be8, IntKind.bits]
theorem key_l1 (k0 n0 : Int) (s : ByteArray) (hs : s.size ≤ 100000) (l0 : List Int) (hl : l0.length ≤ 100000000) : ∀ (d j : Nat), s.size - j = d → j ≤ s.size →
    ∃ K, ∀ k, K ≤ k → value_key.l1 k (l0 ++ esc ((bytesOf s).take j)) (s.size : Int) (j : Int) k0 n0 s = some (l0 ++ (esc (bytesOf s) ++ [0, 1])) := by
  intro d
  induction d with
  | zero =>
    intro j hd hj
    obtain rfl : j = s.size := by omega
    have ht : (bytesOf s).take s.size = bytesOf s := List.take_of_length_le (by rw [bytesOf_length]; omega)
    refine ⟨1, fun k hk => ?_⟩
    obtain ⟨k, rfl⟩ : ∃ q, k = q + 1 := ⟨k - 1, by omega⟩
    have := esc_len (bytesOf s)
    rw [bytesOf_length] at this
    rw [ht, value_key.l1, if_neg (by omega), Option.bind_some, if_pos (by simp; omega), List.append_assoc]
  | succ d ih =>
    intro j hd hj
    have e : wrap64 ((j : Int) + 1) = ((j + 1 : Nat) : Int) := by unfold wrap64; omega
    obtain ⟨K, hK⟩ := ih (j + 1) (by omega) (by omega)
    have hlt : j < (bytesOf s).length := by rw [bytesOf_length]; omega
    have hb : (bytesOf s)[j] = bt s (j : Int) := by
      rw [← rd_bytesOf]
      unfold rd
      simp [List.getD_eq_getElem?_getD, List.getElem?_eq_getElem hlt]
    have ht : esc ((bytesOf s).take (j + 1)) = esc ((bytesOf s).take j) ++ esc [bt s (j : Int)] := by
      rw [List.take_succ_eq_append_getElem hlt, esc_append, hb]
    have hlen : (l0 ++ esc ((bytesOf s).take j)).length ≤ 130000000 := by
      have := esc_len ((bytesOf s).take j)
      rw [List.length_take, bytesOf_length] at this
      rw [List.length_append]
      omega
    refine ⟨K + 1, fun k hk => ?_⟩
    obtain ⟨k, rfl⟩ : ∃ q, k = q + 1 := ⟨k - 1, by omega⟩
    have hend := hK k (by omega)
    rw [ht] at hend
    rw [value_key.l1, if_pos (by omega), if_pos (by omega), if_pos (by omega), if_pos (by omega), Option.bind_some, e]
    by_cases c : bt s (j : Int) = 0
    · rw [if_pos c, if_pos (by simp at hlen ⊢; omega), List.append_assoc, List.append_assoc]
      rw [show esc [bt s (j : Int)] = [bt s (j : Int)] ++ [255] by simp [esc, c]] at hend
      exact hend
    · rw [if_neg c, List.append_assoc]
      rw [show esc [bt s (j : Int)] = [bt s (j : Int)] by simp [esc, c]] at hend
      exact hend
/-- value.key's bytes. -/
theorem key_f (k0 n0 : Int) (s : ByteArray) (hs : s.size ≤ 100000) (l0 : List Int) (hl : l0.length ≤ 10000000) : ∃ K, ∀ k, K ≤ k → value_key.f k l0 k0 n0 s = some (l0 ++ keyB k0 n0 s) := by
  obtain ⟨K, hK⟩ := key_l1 k0 n0 s hs (l0 ++ [k0 % 256]) (by simp; omega) s.size 0 (by omega) (by omega)
  refine ⟨K + 10, fun k hk => ?_⟩
  obtain ⟨k, rfl⟩ : ∃ q, k = q + 10 := ⟨k - 10, by omega⟩
  have h1 := hK (k + 9) (by omega)
  simp only [List.take_zero, esc, List.append_nil] at h1
  unfold value_key.f keyB
  rw [if_pos (by omega), Option.bind_some]
  by_cases c1 : k0 = 1
  · rw [if_pos c1, if_pos c1, if_pos (by simp; omega)]
    simp
  rw [if_neg c1, if_neg c1]
  by_cases c2 : k0 = 2
  · rw [if_pos c2, if_pos c2, show k + 10 = (k + 1) + 9 by omega, key_l0 _ (by simp; omega)]
    simp
  rw [if_neg c2, if_neg c2]
  by_cases c3 : k0 = 3
  · rw [if_pos c3, if_pos (.inl c3), value_key.j1, if_pos (by simp [c3])]
    exact h1.trans (by simp)
  rw [if_neg c3]
  by_cases c4 : k0 = 4
  · rw [if_pos (.inr c4), value_key.j1, if_pos (by simp [c4])]
    exact h1.trans (by simp)
  · rw [if_neg (by omega), value_key.j1, if_neg (by simp [c4])]
end Go.Proofs.YtaddlkokencbkaaDoor.VKey
