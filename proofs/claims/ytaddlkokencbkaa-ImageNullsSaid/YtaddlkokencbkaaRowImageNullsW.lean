/- The walk of the law ImageNulls with its answer: a row's bytes are as long as its bits and its values that are not Null. No condition. -/
import Derived.Test.YtaddlkokencbkaaQ28
import Derived.Test.YtaddlkokencbkaaPut
import Derived.Test.YtaddlkokencbkaaRefB
namespace Go.Proofs.Ytaddlkokencbkaa.RowImageNullsW
open Go.RowKit Go.Proofs.YtaddlkokencbkaaW.PrintWords Go.Proofs.YtaddlkokencbkaaW.PrintLast Go.Proofs.YtaddlkokencbkaaW.PrintMore Go.Proofs.Ytaddlkokencbkaa.Q Go.Proofs.Ytaddlkokencbkaa.Plain Go.Proofs.Ytaddlkokencbkaa.Exact Go.Proofs.Ytaddlkokencbkaa.OpenA Go.Proofs.Ytaddlkokencbkaa.Img Go.Proofs.Ytaddlkokencbkaa.Put
set_option linter.unusedVariables false

theorem nulls_l0 (row : List S48) (h : ∀ v ∈ row, SmallV v) (h1 : 1 ≤ row.length) (hn : row.length ≤ 8) (cs : List S67) (a : Int) : ∀ (d i : Nat), row.length - i = d → i ≤ row.length →
    Ev (fun k => pantographlaw05_ImageNulls.l0 k row ((1 + (valsTo row i).length : Nat) : Int) (i : Int) cs a) true := by
  intro d
  induction d with
  | zero =>
    intro i hd hi
    obtain rfl : i = row.length := by omega
    obtain ⟨K, hK⟩ := write_f row h h1 hn [] (by simp) cs a
    obtain ⟨L, hL⟩ := lives_f
    refine ev_goal (K + L) fun k hk => ?_
    have e1 := hK k (by omega)
    have e2 := hL k (by omega)
    dsimp only at e1 e2
    rw [pantographlaw05_ImageNulls.l0, if_neg (by omega), e1, Option.bind_some, if_pos (by simp [rowB]; omega), e2, Option.bind_some]
  | succ d ih =>
    intro i hd hi
    have e : wrap64 ((i : Int) + 1) = ((i + 1 : Nat) : Int) := by unfold wrap64; omega
    obtain ⟨K, hK⟩ := ih (i + 1) (by omega) (by omega)
    have hlen := valsTo_len row h i (by omega)
    have hs := h _ (rdv_mem row i (by omega))
    have hv := valB_len hs
    refine ev_goal K fun k hk => ?_
    have step : ∀ t : Int, t = ((1 + (valsTo row i).length + (valB (rd_T48 row (i : Int))).length : Nat) : Int) → pantographlaw05_ImageNulls.l0 k row t ((i + 1 : Nat) : Int) cs a = some true := by
      intro t ht
      have := hK k hk
      dsimp only at this
      simp only [valsTo, List.length_append] at this
      rw [ht, Nat.add_assoc]
      exact this
    rw [pantographlaw05_ImageNulls.l0, if_pos (by omega), if_pos (by omega), e]
    generalize hg : rd_T48 row (i : Int) = v at *
    by_cases c1 : v.f0 = 1
    · rw [if_pos c1]
      refine step _ ?_
      have : (valB v).length = 1 := by unfold valB; rw [if_pos c1]; rfl
      rw [this]
      unfold wrap64
      omega
    · rw [if_neg c1]
      by_cases c2 : v.f0 = 2
      · have hr := hs.1 c2
        have : valB v = digs (Lib.zigzag v.f1) := by unfold valB; rw [if_neg c1, if_pos c2]
        rw [if_pos c2, RefB.signed_f hr, Option.bind_some]
        refine step _ ?_
        rw [this] at hv ⊢
        unfold wrap64
        omega
      · rw [if_neg c2]
        have ht := RefB.text_f (s := v.f2) (by have := hs.2; omega)
        by_cases c3 : v.f0 = 3
        · have : valB v = digs v.f2.size ++ bytesOf v.f2 := by unfold valB; rw [if_neg c1, if_neg c2, if_pos (.inl c3)]
          rw [if_pos c3, ht, Option.bind_some]
          refine step _ ?_
          rw [this] at hv ⊢
          unfold wrap64
          omega
        · rw [if_neg c3]
          by_cases c4 : v.f0 = 4
          · have : valB v = digs v.f2.size ++ bytesOf v.f2 := by unfold valB; rw [if_neg c1, if_neg c2, if_pos (.inr c4)]
            rw [if_pos c4, ht, Option.bind_some]
            refine step _ ?_
            rw [this] at hv ⊢
            unfold wrap64
            omega
          · have : valB v = [] := by unfold valB; rw [if_neg c1, if_neg c2, if_neg (by omega)]
            rw [if_neg c4]
            refine step _ ?_
            rw [this]
            rfl

theorem law_f (l : List S67) (k : Int) (l1 : List S48) (ok : ∀ y ∈ l, OkC y) (rk : RangeI k) (ok1 : ∀ y ∈ l1, OkV y) (hl : l.length ≤ 9223372036854775807) : ∃ K, pantographlaw05_ImageNulls.f K l k l1 = some true := by
  obtain ⟨cs, keys, ⟨K1, h1⟩, hg⟩ := good_f l ok hl k rk
  obtain ⟨K2, h2⟩ := row_f cs keys l1 (by have := hg.few; omega)
  have hlen := rowOf_length cs l1 cs.length
  obtain ⟨K3, h3⟩ := nulls_l0 (rowOf cs l1 cs.length) (rowOf_small hg ok1) (by have := hg.some_; omega) (by have := hg.few; omega) cs keys _ 0 rfl (Nat.zero_le _)
  refine ⟨K1 + K2 + K3, ?_⟩
  have e1 := h1 (K1 + K2 + K3) (by omega)
  have e2 := h2 (K1 + K2 + K3) (by omega)
  have e3 := h3 (K1 + K2 + K3) (by omega)
  dsimp only at e1 e2 e3
  have e : wrap64 (Int.tdiv (wrap64 (((rowOf cs l1 cs.length).length : Int) + 7)) 8) = 1 := by
    have := hg.few
    have := hg.some_
    have q : wrap64 (((rowOf cs l1 cs.length).length : Int) + 7) = ((rowOf cs l1 cs.length).length : Int) + 7 := by unfold wrap64; omega
    rw [q, Int.tdiv_eq_ediv_of_nonneg (by omega)]
    unfold wrap64
    omega
  unfold pantographlaw05_ImageNulls.f
  rw [e1, Option.bind_some, e2, Option.bind_some, e]
  exact e3

theorem law_calls (A : Option Addr) (c : Nat) (l : List S67) (k : Int) (A1 : Option Addr) (c1 : Nat) (l1 : List S48) (w : World) (hr : Kd.C k67 w A l.length l) (hc : l.length ≤ c) (ok : ∀ y ∈ l, OkC y) (rk : RangeI k) (hr1 : Kd.C k48 w A1 l1.length l1) (hc1 : l1.length ≤ c1) (ok1 : ∀ y ∈ l1, OkV y) :
    Calls Try.prog 7 #[.agg #[.slice A l.length c, .int .i64 k], .slice A1 l1.length c1] w fun e w' => e = .returned (.bool true) ∧ Below w.heap.size w w' := by
  obtain ⟨K, h⟩ := law_f l k l1 ok rk ok1 hr.2.1
  exact pantographlaw05_ImageNulls.calls K A c l k A1 c1 l1 true w hr hc hr1 hc1 h
end Go.Proofs.Ytaddlkokencbkaa.RowImageNullsW
