/- Plain law: the values that Goods makes may be, and which they are. -/
import Derived.Test.YtaddlkokencbkaaDoorOpenV
import Derived.Test.YtaddlkokencbkaaDoorU8V
import Derived.Test.YtaddlkokencbkaaDoorGood
import Derived.Test.YtaddlkokencbkaaDoorVKeyW
import Derived.Test.YtaddlkokencbkaaDoorQ32
namespace Go.Proofs.YtaddlkokencbkaaDoor.Vals
open Go.RowKit Go.Lib Go.Proofs.YtaddlkokencbkaaDoorW.PrintWords Go.Proofs.YtaddlkokencbkaaDoorW.PrintLast Go.Proofs.YtaddlkokencbkaaDoorW.PrintMore Go.Proofs.YtaddlkokencbkaaDoor.Q Go.Proofs.YtaddlkokencbkaaDoor.Good Go.Proofs.YtaddlkokencbkaaDoor.OpenV Go.Proofs.YtaddlkokencbkaaDoor.May Go.Proofs.YtaddlkokencbkaaDoor.VKeyW Go.Proofs.YtaddlkokencbkaaDoor.VKey
set_option linter.unusedVariables false
set_option linter.unusedSimpArgs false
def gv (v : V) : V := ⟨(goodV v.f0 v.f1 v.f2).1, (goodV v.f0 v.f1 v.f2).2.1, (goodV v.f0 v.f1 v.f2).2.2⟩
theorem kindOf_range {k : Int} (h : RangeI k) : 0 ≤ kindOf k ∧ kindOf k ≤ 4 := by
  unfold RangeI at h
  have hm : ∀ x : Int, 0 ≤ x → 0 ≤ Int.tmod x 5 ∧ Int.tmod x 5 ≤ 4 := fun x hx => by
    rw [Int.tmod_eq_emod_of_nonneg hx]; omega
  unfold kindOf
  split
  · exact hm _ (by unfold wrap64; omega)
  · exact hm _ (by omega)
theorem isEmpty_iff (s : ByteArray) : s.toList.isEmpty = decide (s.size = 0) := by
  have e : s.toList = s.data.toList := by rw [ByteArray.toList_eq]
  rw [e]
  have : s.data.toList.length = s.size := by rw [Array.length_toList]; rfl
  cases h : s.data.toList with
  | nil => rw [h] at this; simp at this; simp [← this]
  | cons a l => rw [h] at this; simp at this; simp [← this]
theorem gv_may {v : V} (h : RangeI v.f0) : mayV (gv v) = true := by
  obtain ⟨k, n, s⟩ := v
  obtain ⟨h0, h4⟩ := kindOf_range h
  have hs := cut40_size s
  dsimp only at h0 h4
  unfold mayV gv goodV
  dsimp only
  generalize kindOf k = K at h0 h4
  generalize cut40 s = T at hs
  obtain h | h | h | h | h : K = 0 ∨ K = 1 ∨ K = 2 ∨ K = 3 ∨ K = 4 := by omega
  all_goals subst h
  · unfold mayB; rw [isEmpty_iff]; rfl
  · unfold mayB; rw [isEmpty_iff]; by_cases c : Int.tmod n 2 = 0 <;> simp [c] <;> rfl
  · unfold mayB; rw [isEmpty_iff]; rfl
  · unfold mayB
    rw [U8V.u8ok_valid]
    by_cases c : validD T.data.toList = true
    · simp [c]
      omega
    · simp [c]
      exact ⟨by decide, rfl⟩
  · unfold mayB
    simp
    omega
theorem gv_size (v : V) : (gv v).f2.size ≤ 40 := by
  have := cut40_size v.f2
  unfold gv goodV
  dsimp only
  split
  · split
    · exact this
    · exact Nat.zero_le _
  · split
    · exact this
    · exact Nat.zero_le _
def goodsL (l : List V) (m : Nat) : List V := (l.take m).map gv
theorem goods_l0 (l : List V) (hl : l.length ≤ 9223372036854775807) (m : Nat) (hm : m ≤ 1000) : ∀ (d i : Nat), (l.take m).length - i = d → i ≤ (l.take m).length →
    pantographref03_Goods.l0 (d + 1) l (m : Int) (goodsL l i) (i : Int) = some (goodsL l m) := by
  intro d
  induction d with
  | zero =>
    intro i hd hi
    have hi2 : i = (l.take m).length := by omega
    rw [List.length_take] at hi2
    rw [pantographref03_Goods.l0]
    have e : goodsL l i = goodsL l m := by
      unfold goodsL
      rw [hi2, ← List.take_eq_take_min]
    by_cases c : i < l.length
    · rw [if_pos (by omega), if_neg (by omega), e]
    · rw [if_neg (by omega), e]
  | succ d ih =>
    intro i hd hi
    have hlt : i < (l.take m).length := by omega
    rw [List.length_take] at hlt
    have hg : rd_T51 l (i : Int) = l[i]'(by omega) := by
      unfold rd_T51
      rw [Int.toNat_natCast, List.getD_eq_getElem?_getD, List.getElem?_eq_getElem (by omega)]
      rfl
    have e : wrap64 ((i : Int) + 1) = ((i + 1 : Nat) : Int) := by unfold wrap64; omega
    have hs : goodsL l (i + 1) = goodsL l i ++ [gv (l[i]'(by omega))] := by
      unfold goodsL
      rw [List.take_succ_eq_append_getElem (by omega), List.map_append]
      rfl
    have hlen : (goodsL l i).length ≤ 1000 := by unfold goodsL; rw [List.length_map, List.length_take]; omega
    rw [pantographref03_Goods.l0, if_pos (by omega), if_pos (by omega), if_pos (by omega), hg]
    unfold pantographref03_Good.f
    rw [Option.bind_some, if_pos (by omega), e]
    have := ih (i + 1) (by omega) (by rw [List.length_take]; omega)
    rw [hs] at this
    exact this
theorem goods_f (l : List V) (hl : l.length ≤ 9223372036854775807) (m : Nat) (hm : m ≤ 1000) : ∃ k, pantographref03_Goods.f k l (m : Int) = some (goodsL l m) :=
  ⟨_, goods_l0 l hl m hm _ 0 rfl (Nat.zero_le _)⟩
theorem goods_all {l : List V} (ok : ∀ y ∈ l, OkV y) (m : Nat) : (goodsL l m).all mayV = true := by
  rw [List.all_eq_true]
  intro u hu
  obtain ⟨v, hv, rfl⟩ := List.mem_map.1 hu
  exact gv_may (ok v (List.mem_of_mem_take hv)).1
theorem goods_size (l : List V) (m : Nat) : ∀ v ∈ goodsL l m, v.f2.size ≤ 40 := by
  intro u hu
  obtain ⟨v, hv, rfl⟩ := List.mem_map.1 hu
  exact gv_size v
theorem goods_len (l : List V) (m : Nat) : (goodsL l m).length ≤ m := by unfold goodsL; rw [List.length_map, List.length_take]; omega
theorem keyR_all {l : List V} (h : l.all mayV = true) : keyR l = kb l := by unfold keyR; rw [h]; rfl
theorem keyE_all {l : List V} (h : l.all mayV = true) : keyE l = 0 := by unfold keyE; rw [h]; rfl
theorem kb_append (l m : List V) : kb (l ++ m) = kb l ++ kb m := by unfold kb; rw [List.flatMap_append]
end Go.Proofs.YtaddlkokencbkaaDoor.Vals
