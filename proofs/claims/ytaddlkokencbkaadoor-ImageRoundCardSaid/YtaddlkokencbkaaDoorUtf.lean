/- Which texts are UTF-8 as the reference tells it (pantographref03.utf8), as a plain function on bytes; the reference's call comes to it. -/
import Derived.Test.YtaddlkokencbkaaDoorU1
import Derived.Test.YtaddlkokencbkaaDoorMBase
namespace Go.Proofs.YtaddlkokencbkaaDoor.Utf
open Go.RowKit Go.Proofs.YtaddlkokencbkaaDoorW.PrintWords Go.Proofs.YtaddlkokencbkaaDoorW.PrintLast Go.Proofs.YtaddlkokencbkaaDoorW.PrintMore Go.Proofs.YtaddlkokencbkaaDoor.U
set_option linter.unusedVariables false
set_option linter.unusedSimpArgs false

/-- So many continuing bytes, as a number. -/
def u8acc : Nat → Int → List Int → Option Int
  | 0, v, _ => some v
  | _ + 1, _, [] => none
  | m + 1, v, d :: l => if d < 128 ∨ 192 ≤ d then none else u8acc m (64 * v + d - 128) l
def u8tail (m : Nat) (least v : Int) (l : List Int) : Option Nat :=
  match u8acc m v l with
  | none => none
  | some v => if v < least ∨ v > 1114111 ∨ (55296 ≤ v ∧ v ≤ 57343) then none else some (m + 1)
/-- How many bytes the sign at the beginning has; none, if there is none. -/
def u8step : List Int → Option Nat
  | [] => none
  | c :: l => if c < 128 then some 1 else if 192 ≤ c ∧ c < 224 then u8tail 1 128 (c - 192) l else if 224 ≤ c ∧ c < 240 then u8tail 2 2048 (c - 224) l else if 240 ≤ c ∧ c < 248 then u8tail 3 65536 (c - 240) l else none
def u8 : Nat → List Int → Bool
  | 0, _ => true
  | n + 1, l => if l = [] then true else match u8step l with
    | none => false
    | some k => u8 n (l.drop k)
def u8ok (s : ByteArray) : Bool := u8 s.size (bytesOf s)

theorem u8tail_pos {m : Nat} {least v : Int} {l : List Int} {k : Nat} (h : u8tail m least v l = some k) : k = m + 1 := by
  unfold u8tail at h
  split at h
  · cases h
  · split at h
    · cases h
    · injection h with h; exact h.symm
theorem u8step_pos {l : List Int} {k : Nat} (h : u8step l = some k) : 1 ≤ k := by
  unfold u8step at h
  split at h
  · cases h
  · split at h
    · injection h with h; omega
    · split at h
      · have := u8tail_pos h; omega
      · split at h
        · have := u8tail_pos h; omega
        · split at h
          · have := u8tail_pos h; omega
          · cases h
theorem u8_fuel : ∀ (n m : Nat) (l : List Int), l.length ≤ n → l.length ≤ m → u8 n l = u8 m l
  | 0, 0, _, _, _ => rfl
  | 0, m + 1, l, h, _ => by
    obtain rfl : l = [] := List.eq_nil_of_length_eq_zero (by omega)
    simp [u8]
  | n + 1, 0, l, _, h => by
    obtain rfl : l = [] := List.eq_nil_of_length_eq_zero (by omega)
    simp [u8]
  | n + 1, m + 1, l, h1, h2 => by
    simp only [u8]
    split
    · rfl
    · cases hs : u8step l with
      | none => rfl
      | some k =>
        have := u8step_pos hs
        have hl : 0 < l.length := by
          cases l with
          | nil => contradiction
          | cons => simp
        simp only
        exact u8_fuel n m (l.drop k) (by rw [List.length_drop]; omega) (by rw [List.length_drop]; omega)

theorem bt_eq (s : ByteArray) (i : Nat) (h : i < s.size) : (bytesOf s).drop i = bt s (i : Int) :: (bytesOf s).drop (i + 1) := by
  rw [List.drop_eq_getElem_cons (by rw [bytesOf_length]; exact h)]
  congr 1
  rw [← rd_bytesOf]
  unfold rd
  simp [List.getD_eq_getElem?_getD, List.getElem?_eq_getElem (show i < (bytesOf s).length by rw [bytesOf_length]; exact h)]
theorem wrap_bt (s : ByteArray) (i : Int) : wrap64 (bt s i) = bt s i := by
  have := bt_range s i
  unfold wrap64
  omega
theorem drop_end (s : ByteArray) (i : Nat) (h : s.size ≤ i) : (bytesOf s).drop i = [] := List.drop_eq_nil_of_le (by rw [bytesOf_length]; exact h)

def bad (least v : Int) : Prop := v < least ∨ v > 1114111 ∨ (55296 ≤ v ∧ v ≤ 57343)
instance (least v : Int) : Decidable (bad least v) := by unfold bad; infer_instance

/-- The inner loop. -/
theorem l1_eq (s : ByteArray) (hs : s.size ≤ 140737488355328) (i n : Nat) (least : Int) (hi : i + n ≤ s.size) (hn : n ≤ 4) : ∀ (m : Nat) (k : Nat) (v : Int) (B : Nat), m ≤ n → 0 ≤ v → v < B → B * 64 ^ m ≤ 2097152 →
    pantographref03_utf8.l1 (k + m + 1) s (i : Int) (n : Int) least v ((n - m : Nat) : Int) =
      match u8acc m v ((bytesOf s).drop (i + (n - m))) with
      | none => some false
      | some v => if bad least v then some false else pantographref03_utf8.l0 k s ((i + n : Nat) : Int) := by
  intro m
  induction m with
  | zero =>
    intro k v B _ h0 hB hb
    simp only [pantographref03_utf8.l1, u8acc, Nat.add_zero, Nat.sub_zero]
    rw [if_neg (by omega)]
    have e : wrap64 ((i : Int) + (n : Int)) = ((i + n : Nat) : Int) := by unfold wrap64; omega
    by_cases c1 : v < least
    · rw [if_pos c1, if_pos (by unfold bad; omega)]
    · rw [if_neg c1]
      by_cases c2 : v > 1114111
      · rw [if_pos c2, if_pos (by unfold bad; omega)]
      · rw [if_neg c2]
        by_cases c3 : v ≥ 55296
        · rw [if_pos c3]
          by_cases c4 : v ≤ 57343
          · rw [if_pos c4, if_pos (by unfold bad; omega)]
          · rw [if_neg c4, if_neg (by unfold bad; omega), e]
        · rw [if_neg c3, if_neg (by unfold bad; omega), e]
  | succ m ih =>
    intro k v B hm h0 hB hb
    have hp : B * 64 * 64 ^ m ≤ 2097152 := by rw [Nat.pow_succ] at hb; rw [Nat.mul_assoc, Nat.mul_comm 64]; exact hb
    have h64 : 1 ≤ 64 ^ m := Nat.one_le_pow _ _ (by omega)
    have hB2 : B * 64 ≤ 2097152 := by
      have := Nat.mul_le_mul_left (B * 64) h64
      omega
    have hlt : i + (n - (m + 1)) < s.size := by omega
    obtain ⟨q, hq⟩ : ∃ q, q = k + m + 1 := ⟨_, rfl⟩
    rw [show k + (m + 1) + 1 = q + 1 by clear hb hp h64 hB2 ih; omega]
    simp only [pantographref03_utf8.l1]
    rw [bt_eq s _ hlt]
    have e1 : wrap64 ((i : Int) + ((n - (m + 1) : Nat) : Int)) = ((i + (n - (m + 1)) : Nat) : Int) := by clear hb hp h64 hB2 ih; unfold wrap64; omega
    have q1 : ((n - (m + 1) : Nat) : Int) < (n : Int) := by clear hb hp h64 hB2 ih; omega
    have q2 : (0 : Int) ≤ ((i + (n - (m + 1)) : Nat) : Int) := by clear hb hp h64 hB2 ih; omega
    have q3 : ((i + (n - (m + 1)) : Nat) : Int) < (s.size : Int) := by clear hb hp h64 hB2 ih; omega
    have hB3 : v < 2097152 := by clear hb hp ih h64; omega
    rw [e1, if_pos q1, if_pos q2, if_pos q3]
    rw [wrap_bt]
    have hr := bt_range s ((i + (n - (m + 1)) : Nat) : Int)
    generalize hd : bt s ((i + (n - (m + 1)) : Nat) : Int) = d at *
    simp only [u8acc]
    by_cases c1 : d < 128
    · rw [if_pos c1, if_pos (.inl c1)]
    · rw [if_neg c1]
      by_cases c2 : d ≥ 192
      · rw [if_pos c2, if_pos (.inr c2)]
      · have q4 : ¬ (d < 128 ∨ 192 ≤ d) := by clear hb hp h64 hB2 ih hB; omega
        rw [if_neg c2, if_neg q4]
        have e2 : wrap64 ((wrap64 ((wrap64 (64 * v)) + d)) - 128) = 64 * v + d - 128 := by clear hb hp h64 hB2 ih hB; unfold wrap64; omega
        have e3 : wrap64 (((n - (m + 1) : Nat) : Int) + 1) = ((n - m : Nat) : Int) := by clear hb hp h64 hB2 ih hB; unfold wrap64; omega
        have q5 : 0 ≤ 64 * v + d - 128 := by clear hb hp h64 hB2 ih hB; omega
        have q6 : 64 * v + d - 128 < ((B * 64 : Nat) : Int) := by clear hb hp h64 hB2 ih; omega
        rw [e2, e3, hq, ih k (64 * v + d - 128) (B * 64) (by clear hb hp h64 hB2 ih hB; omega) q5 q6 hp]
        rw [show i + (n - (m + 1)) + 1 = i + (n - m) by clear hb hp h64 hB2 ih hB; omega]

theorem j3_eq (s : ByteArray) (hs : s.size ≤ 140737488355328) (i m : Nat) (least v : Int) (k B : Nat) (hm : m ≤ 3) (hi : i < s.size) (h0 : 0 ≤ v) (hB : v < B) (hb : B * 64 ^ m ≤ 2097152) :
    pantographref03_utf8.j3 (k + m + 2) s (i : Int) ((m + 1 : Nat) : Int) least v =
      match u8tail m least v ((bytesOf s).drop (i + 1)) with
      | none => some false
      | some n => pantographref03_utf8.l0 k s ((i + n : Nat) : Int) := by
  simp only [pantographref03_utf8.j3]
  have e1 : wrap64 ((i : Int) + ((m + 1 : Nat) : Int)) = ((i + (m + 1) : Nat) : Int) := by unfold wrap64; omega
  rw [e1]
  by_cases c : ((i + (m + 1) : Nat) : Int) > (s.size : Int)
  · rw [if_pos c]
    have hshort : ∀ (m : Nat) (v : Int) (l : List Int), l.length < m → u8acc m v l = none := by
      intro m
      induction m with
      | zero => intro v l h; omega
      | succ m ih =>
        intro v l h
        cases l with
        | nil => rfl
        | cons d l =>
          simp only [u8acc]
          split
          · rfl
          · exact ih _ _ (by simp at h; omega)
    unfold u8tail
    rw [hshort m v _ (by rw [List.length_drop, bytesOf_length]; omega)]
  · rw [if_neg c]
    have := l1_eq s hs i (m + 1) least (by omega) (by omega) m k v B (by omega) h0 hB hb
    rw [show ((m + 1 - m : Nat) : Int) = 1 by omega] at this
    rw [this, show m + 1 - m = 1 by omega]
    unfold u8tail
    cases u8acc m v ((bytesOf s).drop (i + 1)) with
    | none => rfl
    | some v =>
      simp only
      by_cases hbad : bad least v
      · rw [if_pos hbad]
        unfold bad at hbad
        rw [if_pos hbad]
      · rw [if_neg hbad]
        unfold bad at hbad
        rw [if_neg hbad]

theorem l0_eq (s : ByteArray) (hs : s.size ≤ 140737488355328) : ∀ (d i k : Nat), s.size - i = d → i ≤ s.size → pantographref03_utf8.l0 (8 * d + k + 1) s (i : Int) = some (u8 d ((bytesOf s).drop i)) := by
  intro d
  induction d using Nat.strongRecOn with
  | _ d ih =>
    intro i k hd hi
    by_cases hlt : i < s.size
    · obtain ⟨d, rfl⟩ : ∃ m, d = m + 1 := ⟨d - 1, by omega⟩
      obtain ⟨q8, hq8⟩ : ∃ q, q = 8 * d + k + 8 := ⟨_, rfl⟩
      rw [show 8 * (d + 1) + k + 1 = q8 + 1 by omega]
      have hu : u8 (d + 1) ((bytesOf s).drop i) = match u8step (bt s (i : Int) :: (bytesOf s).drop (i + 1)) with
          | none => false
          | some k => u8 d ((bt s (i : Int) :: (bytesOf s).drop (i + 1)).drop k) := by
        rw [bt_eq s i hlt]
        simp only [u8]
        rw [if_neg (by simp)]
      rw [hu]
      simp only [pantographref03_utf8.l0]
      rw [if_pos (by omega), if_pos (by omega), wrap_bt]
      have hr := bt_range s (i : Int)
      generalize hc : bt s (i : Int) = c at *
      have hrest : (c :: (bytesOf s).drop (i + 1)) = (bytesOf s).drop i := by rw [bt_eq s i hlt, hc]
      have next : ∀ n k', 1 ≤ n → i + n ≤ s.size → 8 * d + 1 ≤ k' → pantographref03_utf8.l0 k' s ((i + n : Nat) : Int) = some (u8 d ((c :: (bytesOf s).drop (i + 1)).drop n)) := by
        intro n k' hn hn2 hk
        obtain ⟨q, rfl⟩ : ∃ q, k' = 8 * (s.size - (i + n)) + q + 1 := ⟨k' - 8 * (s.size - (i + n)) - 1, by omega⟩
        rw [ih (s.size - (i + n)) (by omega) (i + n) q rfl hn2, hrest, List.drop_drop]
        congr 1
        apply u8_fuel <;> rw [List.length_drop, bytesOf_length] <;> omega
      have fin : ∀ (m : Nat) (least v : Int) (k' : Nat), 8 * d + 1 ≤ k' → (match u8tail m least v ((bytesOf s).drop (i + 1)) with | none => some false | some n => pantographref03_utf8.l0 k' s ((i + n : Nat) : Int)) = some (match u8tail m least v ((bytesOf s).drop (i + 1)) with | none => false | some k => u8 d ((c :: (bytesOf s).drop (i + 1)).drop k)) := by
        intro m least v k' hk
        cases ht : u8tail m least v ((bytesOf s).drop (i + 1)) with
        | none => rfl
        | some n =>
          have hn := u8tail_pos ht
          have hlen : ∀ (m : Nat) (v : Int) (l : List Int), u8acc m v l ≠ none → m ≤ l.length := by
            intro m
            induction m with
            | zero => intro v l h; omega
            | succ m ih =>
              intro v l h
              cases l with
              | nil => exact absurd rfl h
              | cons d l =>
                simp only [u8acc] at h
                split at h
                · exact absurd rfl h
                · have := ih _ _ h
                  simp
                  omega
          have h3 : m ≤ ((bytesOf s).drop (i + 1)).length := by
            refine hlen m v _ ?_
            intro h
            unfold u8tail at ht
            rw [h] at ht
            cases ht
          rw [List.length_drop, bytesOf_length] at h3
          exact next n k' (by omega) (by omega) hk
      simp only [u8step]
      by_cases c1 : c < 128
      · rw [if_pos c1]
        simp only [c1, if_true]
        have e : wrap64 ((i : Int) + 1) = ((i + 1 : Nat) : Int) := by unfold wrap64; omega
        rw [e]
        exact next 1 _ (by omega) (by omega) (by omega)
      · rw [if_neg c1]
        simp only [c1, if_false]
        by_cases c2 : c ≥ 192
        · obtain ⟨q7, hq7⟩ : ∃ q, q = 8 * d + k + 7 := ⟨_, rfl⟩
          rw [if_pos c2, show q8 = q7 + 1 by omega]
          simp only [pantographref03_utf8.j1]
          by_cases c3 : c < 224
          · rw [if_pos (decide_eq_true c3), if_pos ⟨c2, c3⟩]
            have e : wrap64 (c - 192) = c - 192 := by unfold wrap64; omega
            rw [e, show q7 = (8 * d + k + 4) + 1 + 2 by omega]
            have := j3_eq s hs i 1 128 (c - 192) (8 * d + k + 4) 32 (by omega) hlt (by omega) (by omega) (by decide)
            rw [show ((1 + 1 : Nat) : Int) = 2 by omega] at this
            rw [this]
            exact fin _ _ _ _ (by omega)
          · rw [if_neg (show ¬ decide (c < 224) = true by simpa using c3), if_neg (show ¬ (192 ≤ c ∧ c < 224) by omega)]
            by_cases c4 : c ≥ 224
            · obtain ⟨q6, hq6⟩ : ∃ q, q = 8 * d + k + 6 := ⟨_, rfl⟩
              rw [if_pos c4, show q7 = q6 + 1 by omega]
              simp only [pantographref03_utf8.j2]
              by_cases c5 : c < 240
              · rw [if_pos (decide_eq_true c5), if_pos ⟨c4, c5⟩]
                have e : wrap64 (c - 224) = c - 224 := by unfold wrap64; omega
                rw [e, show q6 = (8 * d + k + 2) + 2 + 2 by omega]
                have := j3_eq s hs i 2 2048 (c - 224) (8 * d + k + 2) 16 (by omega) hlt (by omega) (by omega) (by decide)
                rw [show ((2 + 1 : Nat) : Int) = 3 by omega] at this
                rw [this]
                exact fin _ _ _ _ (by omega)
              · rw [if_neg (show ¬ decide (c < 240) = true by simpa using c5), if_neg (show ¬ (224 ≤ c ∧ c < 240) by omega)]
                by_cases c6 : c ≥ 240
                · rw [if_pos c6]
                  by_cases c7 : c < 248
                  · rw [if_pos c7, if_pos ⟨c6, c7⟩]
                    have e : wrap64 (c - 240) = c - 240 := by unfold wrap64; omega
                    rw [e, show q6 = (8 * d + k + 1) + 3 + 2 by omega]
                    have := j3_eq s hs i 3 65536 (c - 240) (8 * d + k + 1) 8 (by omega) hlt (by omega) (by omega) (by decide)
                    rw [show ((3 + 1 : Nat) : Int) = 4 by omega] at this
                    rw [this]
                    exact fin _ _ _ _ (by omega)
                  · rw [if_neg c7, if_neg (show ¬ (240 ≤ c ∧ c < 248) by omega)]
                · omega
            · omega
        · obtain ⟨q7, hq7⟩ : ∃ q, q = 8 * d + k + 7 := ⟨_, rfl⟩
          obtain ⟨q6, hq6⟩ : ∃ q, q = 8 * d + k + 6 := ⟨_, rfl⟩
          rw [if_neg c2, if_neg (show ¬ (192 ≤ c ∧ c < 224) by omega), if_neg (show ¬ (224 ≤ c ∧ c < 240) by omega), if_neg (show ¬ (240 ≤ c ∧ c < 248) by omega), show q8 = q7 + 1 by omega]
          simp only [pantographref03_utf8.j1]
          rw [if_neg (show ¬ false = true by simp), if_neg (show ¬ c ≥ 224 by omega), show q7 = q6 + 1 by omega]
          simp only [pantographref03_utf8.j2]
          rw [if_neg (show ¬ false = true by simp), if_neg (show ¬ c ≥ 240 by omega)]
    · obtain rfl : d = 0 := by omega
      simp only [pantographref03_utf8.l0, u8]
      rw [if_neg (by omega)]

theorem utf8_f (s : ByteArray) (hs : s.size ≤ 140737488355328) : ∃ k, pantographref03_utf8.f k s = some (u8ok s) := by
  refine ⟨8 * s.size + 0 + 1, ?_⟩
  have := l0_eq s hs s.size 0 0 (by omega) (by omega)
  unfold pantographref03_utf8.f u8ok
  rw [List.drop_zero] at this
  exact this
theorem utf8_calls (s : ByteArray) (hs : s.size ≤ 140737488355328) (w : World) :
    Calls Tryd.prog 49 #[.string s] w fun e w' => e = .returned (.bool (u8ok s)) ∧ Drawn0 w w' := by
  obtain ⟨k, h⟩ := utf8_f s hs
  exact pantographref03_utf8.calls k s (u8ok s) w h
end Go.Proofs.YtaddlkokencbkaaDoor.Utf
