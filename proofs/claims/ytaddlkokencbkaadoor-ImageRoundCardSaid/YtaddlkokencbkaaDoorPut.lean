/- Plain laws of image.put: a row's bytes are the byte of its bits and its values' bytes; they tell the row. -/
import Derived.Test.YtaddlkokencbkaaDoorImg
namespace Go.Proofs.YtaddlkokencbkaaDoor.Put
open Go.RowKit Go.Proofs.YtaddlkokencbkaaDoorW.PrintWords Go.Proofs.YtaddlkokencbkaaDoorW.PrintLast Go.Proofs.YtaddlkokencbkaaDoorW.PrintMore Go.Proofs.YtaddlkokencbkaaDoor.Q Go.Proofs.YtaddlkokencbkaaDoor.Plain Go.Proofs.YtaddlkokencbkaaDoor.Exact Go.Proofs.YtaddlkokencbkaaDoor.OpenA Go.Proofs.YtaddlkokencbkaaDoor.Img
set_option linter.unusedVariables false

def bitsTo (row : List S51) : Nat → Int
  | 0 => 0
  | i + 1 => bitsTo row i + if (rd_T51 row (i : Int)).f0 = 0 then ((2 ^ i : Nat) : Int) else 0
theorem bitsTo_range (row : List S51) : ∀ i, 0 ≤ bitsTo row i ∧ bitsTo row i < ((2 ^ i : Nat) : Int)
  | 0 => by simp [bitsTo]
  | i + 1 => by
    have := bitsTo_range row i
    simp only [bitsTo]
    rw [Nat.pow_succ]
    split <;> omega
theorem or_all : ∀ i : Fin 8, ∀ m : Fin 256, m.val < 2 ^ i.val → Go.bits .or .u8 (m.val : Int) (shl .u8 1 (i.val : Int)) = ((m.val + 2 ^ i.val : Nat) : Int) := by decide +kernel
theorem or_bit {i : Nat} {m : Int} (hi : i < 8) (h0 : 0 ≤ m) (h : m < ((2 ^ i : Nat) : Int)) : Go.bits .or .u8 m (shl .u8 1 (i : Int)) = m + ((2 ^ i : Nat) : Int) := by
  obtain ⟨n, rfl⟩ := Int.eq_ofNat_of_zero_le h0
  have hp : 2 ^ i ≤ 2 ^ 7 := Nat.pow_le_pow_right (by omega) (by omega)
  have := or_all ⟨i, hi⟩ ⟨n, by omega⟩ (by simp only; omega)
  simp only at this
  rw [this]
  omega

def valB (v : S51) : List Int :=
  if v.f0 = 1 then [v.f1 % 256] else if v.f0 = 2 then digs (Lib.zigzag v.f1) else if v.f0 = 3 ∨ v.f0 = 4 then digs v.f2.size ++ bytesOf v.f2 else []
def valsTo (row : List S51) : Nat → List Int
  | 0 => []
  | i + 1 => valsTo row i ++ valB (rd_T51 row (i : Int))
def SmallV (v : S51) : Prop := (v.f0 = 2 → RangeI v.f1) ∧ v.f2.size ≤ 40
theorem valB_len {v : S51} (h : SmallV v) : (valB v).length ≤ 60 := by
  unfold valB
  split
  · simp
  · split
    · rename_i h2
      have := h.1 h2
      have := digs_len10 (n := Lib.zigzag v.f1) (Lib.zigzag_lt this.1 this.2)
      omega
    · split
      · have := h.2
        have := digs_len10 (n := v.f2.size) (by omega)
        rw [List.length_append, bytesOf_length]
        omega
      · simp
theorem valsTo_len (row : List S51) (h : ∀ v ∈ row, SmallV v) : ∀ i, i ≤ row.length → (valsTo row i).length ≤ 60 * i
  | 0, _ => by simp [valsTo]
  | i + 1, hi => by
    have h1 := valsTo_len row h i (by omega)
    have h2 := valB_len (h _ (rdv_mem row i (by omega)))
    simp only [valsTo, List.length_append]
    omega

theorem put_l1 (row : List S51) (h : ∀ v ∈ row, SmallV v) (hn : row.length ≤ 1000) (l0 : List Int) (hl : l0.length ≤ 100000) : ∀ (d i : Nat), row.length - i = d → i ≤ row.length →
    Ev (fun k => image_put.l1 k (l0 ++ valsTo row i) row (row.length : Int) (i : Int)) (l0 ++ valsTo row row.length) := by
  intro d
  induction d with
  | zero =>
    intro i hd hi
    obtain rfl : i = row.length := by omega
    refine ev_goal 0 fun k _ => ?_
    rw [image_put.l1, if_neg (by omega)]
  | succ d ih =>
    intro i hd hi
    have e : wrap64 ((i : Int) + 1) = ((i + 1 : Nat) : Int) := by unfold wrap64; omega
    obtain ⟨K, hK⟩ := ih (i + 1) (by omega) (by omega)
    have hlen := valsTo_len row h i (by omega)
    have hs := h _ (rdv_mem row i (by omega))
    have hv := valB_len hs
    have hL : (l0 ++ valsTo row i).length ≤ 200000 := by rw [List.length_append]; omega
    refine ev_goal K fun k hk => ?_
    have step : ∀ t, t = l0 ++ valsTo row i ++ valB (rd_T51 row (i : Int)) → image_put.l1 k t row (row.length : Int) ((i + 1 : Nat) : Int) = some (l0 ++ valsTo row row.length) := by
      intro t ht
      have := hK k hk
      simp only [valsTo] at this
      rw [ht, List.append_assoc]
      exact this
    rw [image_put.l1, if_pos (by omega), if_pos (by omega), if_pos (by omega), e]
    generalize hg : rd_T51 row (i : Int) = v at *
    by_cases c1 : v.f0 = 1
    · rw [if_pos c1, if_pos (by omega)]
      exact step _ (by unfold valB; rw [if_pos c1])
    · rw [if_neg c1]
      by_cases c2 : v.f0 = 2
      · have hr := hs.1 c2
        rw [if_pos c2]
        unfold lay_Signed.f
        rw [if_pos ⟨by unfold Lay.lim; omega, hr.1, hr.2⟩, Option.bind_some]
        exact step _ (by unfold valB; rw [if_neg c1, if_pos c2])
      · rw [if_neg c2]
        have ht : lay_Text.f (l0 ++ valsTo row i) v.f2 = some (l0 ++ valsTo row i ++ digs v.f2.size ++ bytesOf v.f2) := by
          unfold lay_Text.f
          have := hs.2
          rw [if_pos (by unfold Lay.lim; omega)]
        by_cases c3 : v.f0 = 3
        · rw [if_pos c3, ht, Option.bind_some]
          exact step _ (by unfold valB; rw [if_neg c1, if_neg c2, if_pos (.inl c3), List.append_assoc])
        · rw [if_neg c3]
          by_cases c4 : v.f0 = 4
          · rw [if_pos c4, ht, Option.bind_some]
            exact step _ (by unfold valB; rw [if_neg c1, if_neg c2, if_pos (.inr c4), List.append_assoc])
          · rw [if_neg c4]
            exact step _ (by unfold valB; rw [if_neg c1, if_neg c2, if_neg (by omega), List.append_nil])

theorem put_l0 (row : List S51) (h : ∀ v ∈ row, SmallV v) (hn : row.length ≤ 8) (l0 : List Int) (hl : l0.length ≤ 10000) : ∀ (d i : Nat), row.length - i = d → i ≤ row.length →
    Ev (fun k => image_put.l0 k l0 row [bitsTo row i] row (row.length : Int) (i : Int)) (l0 ++ [bitsTo row row.length] ++ valsTo row row.length) := by
  intro d
  induction d with
  | zero =>
    intro i hd hi
    obtain rfl : i = row.length := by omega
    obtain ⟨K, hK⟩ := put_l1 row h (by omega) (l0 ++ [bitsTo row row.length]) (by simp; omega) row.length 0 (by omega) (by omega)
    refine ev_goal K fun k hk => ?_
    rw [image_put.l0, if_neg (by omega)]
    unfold slices_Concat_byte_byte.f
    rw [if_pos (by unfold Lay.lim; simp; omega), Option.bind_some]
    have := hK k hk
    simp only [valsTo, List.append_nil] at this
    simpa using this
  | succ d ih =>
    intro i hd hi
    have e : wrap64 ((i : Int) + 1) = ((i + 1 : Nat) : Int) := by unfold wrap64; omega
    have e8 : wrap64 (Int.tdiv (i : Int) 8) = 0 := by
      rw [Int.tdiv_eq_ediv_of_nonneg (by omega)]
      unfold wrap64
      omega
    have em : Int.tmod (i : Int) 8 = (i : Int) := by
      rw [Int.tmod_eq_emod_of_nonneg (by omega)]
      omega
    obtain ⟨K, hK⟩ := ih (i + 1) (by omega) (by omega)
    have hb := bitsTo_range row i
    refine ev_goal K fun k hk => ?_
    have step := hK k hk
    simp only [bitsTo] at step
    rw [image_put.l0, if_pos (by omega), if_pos (by omega), if_pos (by omega), e, e8, em]
    by_cases c : (rd_T51 row (i : Int)).f0 = 0
    · rw [if_pos c] at step
      rw [if_pos c, if_pos (by omega), if_pos (by simp), if_pos (by omega)]
      have : rd [bitsTo row i] 0 = bitsTo row i := rfl
      rw [this, or_bit (by omega) hb.1 hb.2]
      exact step
    · rw [if_neg c, Int.add_zero] at step
      rw [if_neg c]
      exact step

def rowB (row : List S51) : List Int := bitsTo row row.length :: valsTo row row.length
theorem put_f (row : List S51) (h : ∀ v ∈ row, SmallV v) (h1 : 1 ≤ row.length) (hn : row.length ≤ 8) (l0 : List Int) (hl : l0.length ≤ 10000) : Ev (fun k => image_put.f k l0 row) (l0 ++ rowB row) := by
  have e : wrap64 (Int.tdiv (wrap64 ((wrap64 ((row.length : Int) + 8)) - 1)) 8) = 1 := by
    have e1 : wrap64 ((wrap64 ((row.length : Int) + 8)) - 1) = (row.length : Int) + 7 := by unfold wrap64; omega
    rw [e1, Int.tdiv_eq_ediv_of_nonneg (by omega)]
    unfold wrap64
    omega
  obtain ⟨K, hK⟩ := put_l0 row h hn l0 hl row.length 0 (by omega) (by omega)
  refine ⟨K, fun k hk => ?_⟩
  have := hK k hk
  dsimp only at this
  simp only [image_put.f]
  rw [e, if_pos (by omega), if_pos (by decide)]
  show image_put.l0 k l0 row [0] row (row.length : Int) 0 = _
  unfold rowB
  rw [List.append_cons]
  exact this
theorem write_f (row : List S51) (h : ∀ v ∈ row, SmallV v) (h1 : 1 ≤ row.length) (hn : row.length ≤ 8) (l0 : List Int) (hl : l0.length ≤ 10000) (cs : List S69) (a : Int) : Ev (fun k => image_Write.f k l0 cs a row) (l0 ++ rowB row) := by
  obtain ⟨K, hK⟩ := put_f row h h1 hn l0 hl
  refine ⟨K, fun k hk => ?_⟩
  have := hK k hk
  dsimp only at this
  simp only [image_Write.f]
  rw [this, Option.bind_some]

theorem fit_small {c : S69} {v : S51} (h : Fit c v) (hc : 1 ≤ c.f1 ∧ c.f1 ≤ 4) : SmallV v := by
  have hr := h.range hc
  refine ⟨fun h2 => (h.int h2).1, ?_⟩
  have : v.f0 = 0 ∨ v.f0 = 1 ∨ v.f0 = 2 ∨ v.f0 = 3 ∨ v.f0 = 4 := by omega
  rcases this with h0 | h0 | h0 | h0 | h0
  · rw [(h.null h0).2]; decide
  · rw [(h.bool h0).2]; decide
  · rw [(h.int h0).2]; decide
  · exact (h.text h0).2.1
  · exact (h.byte h0).2

theorem rowOf_at (cs : List S69) (m : List S51) (n i : Nat) (h : i < n) : rd_T51 (rowOf cs m n) (i : Int) = rowV (rd_T69 cs (i : Int)) (rd_T51 m (i : Int)) := by
  conv => lhs; unfold rd_T51 rowOf
  simp [List.getD_eq_getElem?_getD, h]
theorem rdv_ok {m : List S51} (h : ∀ y ∈ m, OkV y) (i : Nat) : OkV (rd_T51 m (i : Int)) := by
  rcases Nat.lt_or_ge i m.length with hi | hi
  · exact h _ (rdv_mem m i hi)
  · rw [rd_out m i hi]
    exact ⟨⟨by decide, by decide⟩, ⟨by decide, by decide⟩⟩
theorem rowOf_fit {cs : List S69} {keys : Int} (hg : GoodS cs keys) {m : List S51} (h : ∀ y ∈ m, OkV y) (i : Nat) (hi : i < cs.length) : Fit (rd_T69 cs (i : Int)) (rd_T51 (rowOf cs m cs.length) (i : Int)) := by
  rw [rowOf_at cs m _ i hi]
  exact rowV_fit _ _ (hg.kinds _ (rd_mem cs i hi)) (rdv_ok h i)
theorem rowOf_small {cs : List S69} {keys : Int} (hg : GoodS cs keys) {m : List S51} (h : ∀ y ∈ m, OkV y) : ∀ v ∈ rowOf cs m cs.length, SmallV v := by
  intro v hv
  obtain ⟨i, hi, e⟩ := List.getElem_of_mem hv
  rw [rowOf_length] at hi
  have hf := rowOf_fit hg h i hi
  have e2 : rd_T51 (rowOf cs m cs.length) (i : Int) = v := by
    unfold rd_T51
    simp [List.getD_eq_getElem?_getD, rowOf_length, hi, e]
  rw [e2] at hf
  exact fit_small hf (hg.kinds _ (rd_mem cs i hi))

theorem lives_f : Ev (fun k => pantographlaw05_lives.f k) true := by
  have h := write_f [⟨2, 1, (⟨#[]⟩ : ByteArray)⟩, ⟨0, 0, (⟨#[]⟩ : ByteArray)⟩] (fun v hv => by
    simp only [List.mem_cons, List.not_mem_nil, or_false] at hv
    rcases hv with rfl | rfl
    · exact ⟨fun _ => ⟨by decide, by decide⟩, by decide⟩
    · exact ⟨fun h => absurd h (by decide), by decide⟩) (by simp) (by simp) [] (by simp) [⟨(⟨#[105, 100]⟩ : ByteArray), 2, false⟩, ⟨(⟨#[110, 97, 109, 101]⟩ : ByteArray), 3, true⟩] 1
  have e : ([] : List Int) ++ rowB [⟨2, 1, (⟨#[]⟩ : ByteArray)⟩, ⟨0, 0, (⟨#[]⟩ : ByteArray)⟩] = [2, 2] := by
    have e1 : valsTo [⟨2, 1, (⟨#[]⟩ : ByteArray)⟩, ⟨0, 0, (⟨#[]⟩ : ByteArray)⟩] 2 = [2] := by
      have d : digs (Lib.zigzag 1) = [2] := by rw [show Lib.zigzag 1 = 2 by decide, digs_small (by omega)]; rfl
      simp only [valsTo]
      show [] ++ digs (Lib.zigzag 1) ++ [] = [2]
      rw [d]
      rfl
    show bitsTo _ 2 :: valsTo _ 2 = _
    rw [e1]
    decide
  rw [e] at h
  obtain ⟨K, hK⟩ := h
  refine ⟨K, fun k hk => ?_⟩
  have := hK k hk
  dsimp only at this
  simp only [pantographlaw05_lives.f]
  rw [this]
  decide
end Go.Proofs.YtaddlkokencbkaaDoor.Put
