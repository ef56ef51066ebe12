/- Plain law: pantographref05.Write of a short row is rowB; image.WriteKey is rowB of the key. -/
import Derived.Test.YtaddlkokencbkaaQ6
import Derived.Test.YtaddlkokencbkaaQ6
import Derived.Test.YtaddlkokencbkaaPut
import Derived.Test.YtaddlkokencbkaaRefB
namespace Go.Proofs.Ytaddlkokencbkaa.Ref5
open Go.RowKit Go.Proofs.YtaddlkokencbkaaW.PrintWords Go.Proofs.YtaddlkokencbkaaW.PrintLast Go.Proofs.YtaddlkokencbkaaW.PrintMore Go.Proofs.Ytaddlkokencbkaa.Q Go.Proofs.Ytaddlkokencbkaa.Plain Go.Proofs.Ytaddlkokencbkaa.Exact Go.Proofs.Ytaddlkokencbkaa.OpenA Go.Proofs.Ytaddlkokencbkaa.Img Go.Proofs.Ytaddlkokencbkaa.Put
set_option linter.unusedVariables false
theorem w5_l2 (row : List S48) (h : ∀ v ∈ row, SmallV v) (hn : row.length ≤ 1000) (l0 : List Int) (hl : l0.length ≤ 100000) : ∀ (d i : Nat), row.length - i = d → i ≤ row.length →
    Ev (fun k => pantographref05_Write.l2 k row (l0 ++ valsTo row i) (row.length : Int) (i : Int)) (l0 ++ valsTo row row.length) := by
  intro d
  induction d with
  | zero =>
    intro i hd hi
    obtain rfl : i = row.length := by omega
    refine ev_goal 0 fun k _ => ?_
    rw [pantographref05_Write.l2, if_neg (by omega)]
  | succ d ih =>
    intro i hd hi
    have e : wrap64 ((i : Int) + 1) = ((i + 1 : Nat) : Int) := by unfold wrap64; omega
    obtain ⟨K, hK⟩ := ih (i + 1) (by omega) (by omega)
    have hlen := valsTo_len row h i (by omega)
    have hs := h _ (rdv_mem row i (by omega))
    have hv := valB_len hs
    have hL : (l0 ++ valsTo row i).length ≤ 200000 := by rw [List.length_append]; omega
    refine ev_goal K fun k hk => ?_
    have step : ∀ t, t = l0 ++ valsTo row i ++ valB (rd_T48 row (i : Int)) → pantographref05_Write.l2 k row t (row.length : Int) ((i + 1 : Nat) : Int) = some (l0 ++ valsTo row row.length) := by
      intro t ht
      have := hK k hk
      simp only [valsTo] at this
      rw [ht, List.append_assoc]
      exact this
    rw [pantographref05_Write.l2, if_pos (by omega), if_pos (by omega), if_pos (by omega), e]
    generalize hg : rd_T48 row (i : Int) = v at *
    by_cases c1 : v.f0 = 1
    · rw [if_pos c1, if_pos (by omega)]
      exact step _ (by unfold valB; rw [if_pos c1])
    · rw [if_neg c1]
      by_cases c2 : v.f0 = 2
      · have hr := hs.1 c2
        have ev : valB v = digs (Lib.zigzag v.f1) := by unfold valB; rw [if_neg c1, if_pos c2]
        rw [ev] at hv
        rw [if_pos c2, RefB.signed_f hr, Option.bind_some, if_pos (by omega)]
        exact step _ (by rw [ev])
      · rw [if_neg c2]
        have ht := RefB.text_f (s := v.f2) (by have := hs.2; omega)
        by_cases c3 : v.f0 = 3
        · have ev : valB v = digs v.f2.size ++ bytesOf v.f2 := by unfold valB; rw [if_neg c1, if_neg c2, if_pos (.inl c3)]
          rw [ev] at hv
          rw [if_pos c3, ht, Option.bind_some, if_pos (by omega)]
          exact step _ (by rw [ev])
        · rw [if_neg c3]
          by_cases c4 : v.f0 = 4
          · have ev : valB v = digs v.f2.size ++ bytesOf v.f2 := by unfold valB; rw [if_neg c1, if_neg c2, if_pos (.inr c4)]
            rw [ev] at hv
            rw [if_pos c4, ht, Option.bind_some, if_pos (by omega)]
            exact step _ (by rw [ev])
          · rw [if_neg c4]
            exact step _ (by unfold valB; rw [if_neg c1, if_neg c2, if_neg (by omega), List.append_nil])
theorem pow8 {i : Nat} (h : i ≤ 8) : ((2 ^ i : Nat) : Int) ≤ 256 := by
  have : 2 ^ i ≤ 2 ^ 8 := Nat.pow_le_pow_right (by omega) h
  omega
theorem w5_l1 (row : List S48) (h : ∀ v ∈ row, SmallV v) (hn : row.length ≤ 8) (h1 : 1 ≤ row.length) : ∀ (d i : Nat), row.length - i = d → i ≤ row.length →
    Ev (fun k => pantographref05_Write.l1 k row [] (row.length : Int) 0 (bitsTo row i) ((2 ^ i : Nat) : Int) (i : Int)) (rowB row) := by
  have e8 : wrap64 ((0 : Int) + 8) = 8 := by unfold wrap64; omega
  intro d
  induction d with
  | zero =>
    intro i hd hi
    obtain rfl : i = row.length := by omega
    obtain ⟨K, hK⟩ := w5_l2 row h (by omega) [bitsTo row row.length] (by simp) row.length 0 (by omega) (by omega)
    have hb := bitsTo_range row row.length
    have hp := pow8 (i := row.length) hn
    have em : bitsTo row row.length % 256 = bitsTo row row.length := by omega
    refine ev_goal (K + 3) fun k hk => ?_
    obtain ⟨k, rfl⟩ : ∃ j, k = j + 2 := ⟨k - 2, by omega⟩
    have := hK k (by omega)
    simp only [valsTo, List.append_nil] at this
    rw [pantographref05_Write.l1, if_neg (by omega), pantographref05_Write.j2, if_neg (by simp), if_pos (by simp), e8, em, List.nil_append, pantographref05_Write.l0, if_neg (by omega)]
    exact this
  | succ d ih =>
    intro i hd hi
    have e : wrap64 ((i : Int) + 1) = ((i + 1 : Nat) : Int) := by unfold wrap64; omega
    have hp := pow8 (i := i) (by omega)
    have hp0 : (0 : Int) < ((2 ^ i : Nat) : Int) := by have := Nat.two_pow_pos i; omega
    have e2 : wrap64 (2 * ((2 ^ i : Nat) : Int)) = ((2 ^ (i + 1) : Nat) : Int) := by
      rw [Nat.pow_succ]
      unfold wrap64
      omega
    have hb := bitsTo_range row i
    obtain ⟨K, hK⟩ := ih (i + 1) (by omega) (by omega)
    refine ev_goal (K + 1) fun k hk => ?_
    obtain ⟨k, rfl⟩ : ∃ j, k = j + 1 := ⟨k - 1, by omega⟩
    have step := hK k (by omega)
    simp only [bitsTo] at step
    rw [pantographref05_Write.l1, if_pos (by omega), e8, pantographref05_Write.j2, if_pos (by rw [decide_eq_true_eq]; omega), if_pos (by omega), if_pos (by omega), e, e2]
    by_cases c : (rd_T48 row (i : Int)).f0 = 0
    · rw [if_pos c] at step
      rw [if_pos c, show wrap64 (bitsTo row i + ((2 ^ i : Nat) : Int)) = bitsTo row i + ((2 ^ i : Nat) : Int) by unfold wrap64; omega]
      exact step
    · rw [if_neg c, Int.add_zero] at step
      rw [if_neg c]
      exact step
theorem w5_f (row : List S48) (h : ∀ v ∈ row, SmallV v) (hn : row.length ≤ 8) (h1 : 1 ≤ row.length) : Ev (fun k => pantographref05_Write.f k row) (rowB row) := by
  obtain ⟨K, hK⟩ := w5_l1 row h hn h1 row.length 0 (by omega) (by omega)
  refine ev_goal K fun k hk => ?_
  have := hK k hk
  simp only [bitsTo] at this
  simp only [pantographref05_Write.f]
  rw [pantographref05_Write.l0, if_pos (by omega)]
  exact this
theorem writeKey_f (cs : List S67) (n : Nat) (p : List S48) (hn1 : 1 ≤ n) (hn : n ≤ p.length) (h6 : p.length ≤ 6) (hs : ∀ v ∈ p, SmallV v) (l0 : List Int) (hl : l0.length ≤ 10000) :
    Ev (fun k => image_WriteKey.f k l0 cs (n : Int) p) (l0 ++ rowB (p.take n)) := by
  have hlen : (p.take n).length = n := by rw [List.length_take]; omega
  obtain ⟨K, hK⟩ := put_f (p.take n) (fun v hv => hs v (List.mem_of_mem_take hv)) (by omega) (by omega) l0 hl
  refine ⟨K, fun k hk => ?_⟩
  have e := hK k hk
  dsimp only at e
  simp only [image_WriteKey.f]
  rw [if_pos (by omega), if_pos (by omega), Int.toNat_natCast, e, Option.bind_some]
end Go.Proofs.Ytaddlkokencbkaa.Ref5
