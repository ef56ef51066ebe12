/- Plain law: the reference's UTF-8 (u8ok) is the library's (Lib.validD). -/
import Derived.Test.YtaddlkokencbkaaDoorUtf
import Derived.Lib.ValidLaws
namespace Go.Proofs.YtaddlkokencbkaaDoor.U8V
open Go.RowKit Go.Lib Go.Proofs.YtaddlkokencbkaaDoorW.PrintWords Go.Proofs.YtaddlkokencbkaaDoor.Utf
set_option linter.unusedVariables false
set_option linter.unusedSimpArgs false
def bad (v least : Int) : Prop := v < least ∨ v > 1114111 ∨ (55296 ≤ v ∧ v ≤ 57343)
instance (v least : Int) : Decidable (bad v least) := by unfold bad; infer_instance
theorem tail1 (least v d : Int) (l : List Int) : u8tail 1 least v (d :: l) = if (d < 128 ∨ 192 ≤ d) ∨ bad (64 * v + d - 128) least then none else some 2 := by
  simp only [u8tail, u8acc]
  unfold bad
  by_cases h : d < 128 ∨ 192 ≤ d
  · rw [if_pos h, if_pos (.inl h)]
  · rw [if_neg h]
    simp only []
    split <;> split <;> first | rfl | (exfalso; omega)
theorem tail2 (least v d e : Int) (l : List Int) : u8tail 2 least v (d :: e :: l) = if ((d < 128 ∨ 192 ≤ d) ∨ (e < 128 ∨ 192 ≤ e)) ∨ bad (64 * (64 * v + d - 128) + e - 128) least then none else some 3 := by
  simp only [u8tail, u8acc]
  unfold bad
  by_cases h : d < 128 ∨ 192 ≤ d
  · rw [if_pos h, if_pos (.inl (.inl h))]
  · rw [if_neg h]
    by_cases h2 : e < 128 ∨ 192 ≤ e
    · rw [if_pos h2, if_pos (.inl (.inr h2))]
    · rw [if_neg h2]
      simp only []
      split <;> split <;> first | rfl | (exfalso; omega)
theorem tail3 (least v d e f : Int) (l : List Int) : u8tail 3 least v (d :: e :: f :: l) = if ((d < 128 ∨ 192 ≤ d) ∨ (e < 128 ∨ 192 ≤ e) ∨ (f < 128 ∨ 192 ≤ f)) ∨ bad (64 * (64 * (64 * v + d - 128) + e - 128) + f - 128) least then none else some 4 := by
  simp only [u8tail, u8acc]
  unfold bad
  by_cases h : d < 128 ∨ 192 ≤ d
  · rw [if_pos h, if_pos (.inl (.inl h))]
  · rw [if_neg h]
    by_cases h2 : e < 128 ∨ 192 ≤ e
    · rw [if_pos h2, if_pos (.inl (.inr (.inl h2)))]
    · rw [if_neg h2]
      by_cases h3 : f < 128 ∨ 192 ≤ f
      · rw [if_pos h3, if_pos (.inl (.inr (.inr h3)))]
      · rw [if_neg h3]
        simp only []
        split <;> split <;> first | rfl | (exfalso; omega)
theorem acc_short : ∀ (m : Nat) (v : Int) (l : List Int), l.length < m → u8acc m v l = none
  | 0, _, _, h => absurd h (Nat.not_lt_zero _)
  | m + 1, _, [], _ => rfl
  | m + 1, v, d :: l, h => by
    simp only [u8acc]
    split
    · rfl
    · exact acc_short m _ l (by simpa using h)
theorem tail_short (m : Nat) (least v : Int) (l : List Int) (h : l.length < m) : u8tail m least v l = none := by
  unfold u8tail
  rw [acc_short m v l h]
/-- The lead byte's class. -/
theorem step_eq (b0 b1 b2 b3 : Nat) (l : List Int) (h0 : 128 ≤ b0) (hb0 : b0 < 256) (h1 : b1 < 256) (h2 : b2 < 256) (h3 : b3 < 256)
    (hl : (l = []) ∨ (l = [(b1 : Int)]) ∨ (l = [(b1 : Int), (b2 : Int)]) ∨ (∃ t, l = (b1 : Int) :: (b2 : Int) :: (b3 : Int) :: t)) :
    u8step ((b0 : Int) :: l) = checkN (l.length + 1) b1 b2 b3 (firstT b0 % 8) (accLo (firstT b0 / 16)) (accHi (firstT b0 / 16)) := by
  simp only [u8step]
  rw [if_neg (by omega)]
  by_cases c1 : b0 < 192
  · rw [if_neg (by omega), if_neg (by omega), if_neg (by omega)]
    have : firstT b0 = 241 := by unfold firstT; rw [if_neg (by omega), if_pos (by omega)]
    rw [this]; rfl
  by_cases c2 : b0 < 224
  · rw [if_pos (by omega)]
    by_cases c3 : b0 < 194
    · have : firstT b0 = 241 := by unfold firstT; rw [if_neg (by omega), if_pos (by omega)]
      rw [this]
      show _ = none
      rcases hl with rfl | rfl | rfl | ⟨t, rfl⟩
      · exact tail_short _ _ _ _ (by simp)
      all_goals
        rw [tail1]
        unfold bad
        rw [if_pos (by omega)]
    · have : firstT b0 = 2 := by unfold firstT; rw [if_neg (by omega), if_neg (by omega), if_pos (by omega)]
      rw [this, show accLo (2 / 16) = 128 from rfl, show accHi (2 / 16) = 191 from rfl]
      unfold checkN
      rw [if_pos rfl]
      rcases hl with rfl | rfl | rfl | ⟨t, rfl⟩
      · rw [if_pos (.inl (by simp)), tail_short _ _ _ _ (by simp)]
      all_goals
        rw [tail1]
        unfold bad
        simp only [List.length_cons, List.length_nil]
        split <;> split <;> first | rfl | (exfalso; omega)
  rw [if_neg (by omega)]
  by_cases c4 : b0 < 240
  · rw [if_pos (by omega)]
    obtain ⟨lo, hi, hf, hlo⟩ : ∃ lo hi, (firstT b0 % 8 = 3 ∧ accLo (firstT b0 / 16) = lo ∧ accHi (firstT b0 / 16) = hi) ∧ (b0 = 224 ∧ lo = 160 ∧ hi = 191 ∨ b0 = 237 ∧ lo = 128 ∧ hi = 159 ∨ (b0 ≠ 224 ∧ b0 ≠ 237 ∧ lo = 128 ∧ hi = 191)) := by
      by_cases e1 : b0 = 224
      · subst e1; exact ⟨160, 191, ⟨rfl, rfl, rfl⟩, by omega⟩
      · by_cases e2 : b0 = 237
        · subst e2; exact ⟨128, 159, ⟨rfl, rfl, rfl⟩, by omega⟩
        · have : firstT b0 = 3 := by
            unfold firstT
            rw [if_neg (by omega), if_neg (by omega), if_neg (by omega), if_neg e1]
            by_cases e3 : b0 < 237
            · rw [if_pos e3]
            · rw [if_neg e3, if_neg e2, if_pos (by omega)]
          rw [this]
          exact ⟨128, 191, ⟨rfl, rfl, rfl⟩, by omega⟩
    rw [hf.1, hf.2.1, hf.2.2]
    unfold checkN
    rw [if_neg (by omega), if_pos rfl]
    rcases hl with rfl | rfl | rfl | ⟨t, rfl⟩
    · rw [if_pos (.inl (by simp)), tail_short _ _ _ _ (by simp)]
    · rw [if_pos (.inl (by simp)), tail_short _ _ _ _ (by simp)]
    all_goals
      rw [tail2]
      unfold bad
      simp only [List.length_cons, List.length_nil]
      split <;> split <;> first | rfl | (exfalso; omega)
  rw [if_neg (by omega)]
  by_cases c5 : b0 < 245
  · rw [if_pos (by omega)]
    obtain ⟨lo, hi, hf, hlo⟩ : ∃ lo hi, (firstT b0 % 8 = 4 ∧ accLo (firstT b0 / 16) = lo ∧ accHi (firstT b0 / 16) = hi) ∧ (b0 = 240 ∧ lo = 144 ∧ hi = 191 ∨ b0 = 244 ∧ lo = 128 ∧ hi = 143 ∨ (b0 ≠ 240 ∧ b0 ≠ 244 ∧ lo = 128 ∧ hi = 191)) := by
      by_cases e1 : b0 = 240
      · subst e1; exact ⟨144, 191, ⟨rfl, rfl, rfl⟩, by omega⟩
      · by_cases e2 : b0 = 244
        · subst e2; exact ⟨128, 143, ⟨rfl, rfl, rfl⟩, by omega⟩
        · have : firstT b0 = 4 := by
            unfold firstT
            rw [if_neg (by omega), if_neg (by omega), if_neg (by omega), if_neg (by omega), if_neg (by omega), if_neg (by omega), if_neg (by omega), if_neg e1, if_pos (by omega)]
          rw [this]
          exact ⟨128, 191, ⟨rfl, rfl, rfl⟩, by omega⟩
    rw [hf.1, hf.2.1, hf.2.2]
    unfold checkN
    rw [if_neg (by omega), if_neg (by omega), if_pos rfl]
    rcases hl with rfl | rfl | rfl | ⟨t, rfl⟩
    · rw [if_pos (.inl (by simp)), tail_short _ _ _ _ (by simp)]
    · rw [if_pos (.inl (by simp)), tail_short _ _ _ _ (by simp)]
    · rw [if_pos (.inl (by simp)), tail_short _ _ _ _ (by simp)]
    · rw [tail3]
      unfold bad
      simp only [List.length_cons]
      split <;> split <;> first | rfl | (exfalso; omega)
  · have hf : firstT b0 = 241 := by
      unfold firstT
      rw [if_neg (by omega), if_neg (by omega), if_neg (by omega), if_neg (by omega), if_neg (by omega), if_neg (by omega), if_neg (by omega), if_neg (by omega), if_neg (by omega), if_neg (by omega)]
    rw [hf]
    show _ = none
    by_cases c6 : b0 < 248
    · rw [if_pos (by omega)]
      rcases hl with rfl | rfl | rfl | ⟨t, rfl⟩
      · exact tail_short _ _ _ _ (by simp)
      · exact tail_short _ _ _ _ (by simp)
      · exact tail_short _ _ _ _ (by simp)
      · rw [tail3]
        unfold bad
        split
        · rfl
        · exfalso; omega
    · rw [if_neg (by omega)]
def ints (l : List UInt8) : List Int := l.map fun b => (b.toNat : Int)
theorem ints_len (l : List UInt8) : (ints l).length = l.length := List.length_map ..
theorem ints_drop (l : List UInt8) (k : Nat) : (ints l).drop k = ints (l.drop k) := (List.map_drop ..).symm
theorem u8_valid : ∀ (n : Nat) (l : List UInt8), l.length ≤ n → u8 n (ints l) = validD l
  | 0, l, h => by
    obtain rfl : l = [] := List.eq_nil_of_length_eq_zero (by omega)
    rfl
  | n + 1, [], h => rfl
  | n + 1, b :: t, h => by
    simp only [u8]
    rw [if_neg (by simp [ints])]
    by_cases hb : b.toNat < 128
    · have : u8step (ints (b :: t)) = some 1 := by
        simp only [ints, List.map_cons, u8step]
        rw [if_pos (by omega)]
      rw [this, validD_cons b t hb]
      simp only [ints, List.map_cons, List.drop_succ_cons, List.drop_zero]
      exact u8_valid n t (by simpa using h)
    · have hs : u8step (ints (b :: t)) = checkN (b :: t).length ((b :: t).getD 1 0).toNat ((b :: t).getD 2 0).toNat ((b :: t).getD 3 0).toNat (firstT b.toNat % 8) (accLo (firstT b.toNat / 16)) (accHi (firstT b.toNat / 16)) := by
        have hk := step_eq b.toNat ((b :: t).getD 1 0).toNat ((b :: t).getD 2 0).toNat ((b :: t).getD 3 0).toNat (ints t) (by omega) b.toNat_lt (UInt8.toNat_lt _) (UInt8.toNat_lt _) (UInt8.toNat_lt _) (by
          match t with
          | [] => exact .inl rfl
          | [x] => exact .inr (.inl rfl)
          | [x, y] => exact .inr (.inr (.inl rfl))
          | x :: y :: z :: r => exact .inr (.inr (.inr ⟨ints r, rfl⟩)))
        rw [ints_len] at hk
        exact hk
      rw [hs, validD_lead (b :: t) (by simp) (by simpa using hb)]
      simp only [List.getD_cons_zero]
      cases hc : checkN (b :: t).length ((b :: t).getD 1 0).toNat ((b :: t).getD 2 0).toNat ((b :: t).getD 3 0).toNat (firstT b.toNat % 8) (accLo (firstT b.toNat / 16)) (accHi (firstT b.toNat / 16)) with
      | none => rfl
      | some k =>
        have hk : 1 ≤ k := by
          rw [← hs] at hc
          exact u8step_pos hc
        simp only []
        rw [ints_drop]
        exact u8_valid n _ (by rw [List.length_drop]; simp only [List.length_cons] at h ⊢; omega)
theorem u8ok_valid (s : ByteArray) : u8ok s = validD s.data.toList := by
  unfold u8ok
  exact u8_valid s.size s.data.toList (by rw [data_length]; exact Nat.le_refl _)
end Go.Proofs.YtaddlkokencbkaaDoor.U8V
