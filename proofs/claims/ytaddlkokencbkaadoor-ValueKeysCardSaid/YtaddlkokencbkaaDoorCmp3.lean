/- pantographref03.Compare: its answer is the order C of values; what Goods gives of a list's beginning; keys of values that may be. -/
import Derived.Test.YtaddlkokencbkaaDoorVOrd
namespace Go.Proofs.YtaddlkokencbkaaDoor.Cmp3
open Go.RowKit Go.Proofs.YtaddlkokencbkaaDoorW.PrintWords Go.Proofs.YtaddlkokencbkaaDoorW.PrintLast Go.Proofs.YtaddlkokencbkaaDoorW.PrintMore Go.Proofs.YtaddlkokencbkaaDoor.Q Go.Proofs.YtaddlkokencbkaaDoor.Shelf Go.Proofs.YtaddlkokencbkaaDoor.May Go.Proofs.YtaddlkokencbkaaDoor.VKeyW Go.Proofs.YtaddlkokencbkaaDoor.OpenV Go.Proofs.YtaddlkokencbkaaDoor.Vals Go.Proofs.YtaddlkokencbkaaDoor.VOrd Go.Proofs.YtaddlkokencbkaaDoor.Plain
set_option linter.unusedVariables false
set_option linter.unusedSimpArgs false
theorem str_append (l m : List Int) : strOfNums l ++ strOfNums m = strOfNums (l ++ m) := by
  apply ByteArray.ext
  apply Array.ext'
  rw [ByteArray.data_append, Array.toList_append, strOfNums_data, strOfNums_data, strOfNums_data, List.map_append]
theorem str_size (l : List Int) : (strOfNums l).size = l.length := by
  show (strOfNums l).data.size = _
  rw [← Array.length_toList, strOfNums_data, List.length_map]
theorem less_bytes (a b : ByteArray) : Op.bytesLess a.toList b.toList = decide (L (bytesOf a) (bytesOf b) = -1) := by
  have := less_L (bytesOf a) (bytesOf b) (bytesOf_bytes a) (bytesOf_bytes b)
  rw [ofNums_bytesOf, ofNums_bytesOf] at this
  exact this
theorem toList_inj {a b : ByteArray} (h : a.toList = b.toList) : a = b := by
  rw [Lib.toList_data, Lib.toList_data] at h
  exact ByteArray.ext (Array.ext' h)
theorem eq_bytes (a b : ByteArray) : (a.toList == b.toList) = decide (L (bytesOf a) (bytesOf b) = 0) := by
  by_cases h : L (bytesOf a) (bytesOf b) = 0
  · have := bytesOf_inj (L_zero _ _ h)
    subst this
    simp [h]
  · have : a.toList ≠ b.toList := fun e => h (by rw [toList_inj e]; exact L_self _)
    simp [h, this]
theorem compare_f (u v : V) : pantographref03_Compare.f 1 u.f0 u.f1 u.f2 v.f0 v.f1 v.f2 = some (C u v) := by
  have h3 := L_three (bytesOf u.f2) (bytesOf v.f2)
  unfold pantographref03_Compare.f C
  simp only [pantographref03_Compare.j0, less_bytes, eq_bytes]
  by_cases a : u.f0 < v.f0
  · simp [a]
  by_cases b : v.f0 < u.f0
  · simp [a, b, show ¬ u.f0 = v.f0 by omega]
  have e : u.f0 = v.f0 := by omega
  by_cases c : u.f1 < v.f1
  · simp [e, c]
  by_cases d : v.f1 < u.f1
  · simp [e, c, d, show ¬ u.f1 = v.f1 by omega]
  have e1 : u.f1 = v.f1 := by omega
  rcases h3 with h | h | h <;> simp [e, e1, h]
theorem compare_calls (k n : Int) (s : ByteArray) (k' n' : Int) (s' : ByteArray) (r : Int) (w : World) (h : C ⟨k, n, s⟩ ⟨k', n', s'⟩ = r) :
    Calls Tryd.prog 26 #[.agg #[.int .i64 k, .int .i64 n, .string s], .agg #[.int .i64 k', .int .i64 n', .string s']] w fun e w' => e = .returned (.int .i64 r) ∧ Below w.heap.size w w' :=
  pantographref03_Compare.calls 1 k n s k' n' s' r w (by rw [← h]; exact compare_f ⟨k, n, s⟩ ⟨k', n', s'⟩)
/-- What Goods gives of a list's first n. -/
theorem goodsN (A : Option Addr) (c n : Nat) (l x : List V) (w : World) (hr : Kd.C k51 w A l.length l) (hn : n ≤ l.length) (hc : n ≤ c) (h4 : n ≤ 1000) (hx : goodsL l n = x) :
    Calls Tryd.prog 24 #[.slice A n c, .int .i64 (n : Int)] w fun e w' => ∃ A1 c1, e = .returned (.slice A1 x.length c1) ∧ x.length ≤ c1 ∧ Kd.C k51 w' A1 x.length x ∧ Below w.heap.size w w' := by
  subst hx
  have hT := Kd.C_take hr hn
  have hl : (l.take n).length = n := by rw [List.length_take]; omega
  obtain ⟨k, h⟩ := goods_f (l.take n) (by rw [hl]; have := hr.2.1; omega) n h4
  have e : goodsL (l.take n) n = goodsL l n := by unfold goodsL; rw [List.take_take, Nat.min_self]
  rw [e] at h
  have := pantographref03_Goods.calls k A c (l.take n) n _ w hT (by omega) h
  rw [hl] at this
  refine this.mono ?_
  rintro e w' ⟨v, rfl, hR, hb⟩
  obtain ⟨A1, c1, rfl, h1, h2⟩ := Kd.R_reads hR
  exact ⟨A1, c1, rfl, h1, h2, hb⟩
/-- What Goods gives of a list, at most m. -/
theorem goodsM (A : Option Addr) (c m : Nat) (l x : List V) (w : World) (hr : Kd.C k51 w A l.length l) (hc : l.length ≤ c) (h4 : m ≤ 1000) (hx : goodsL l m = x) :
    Calls Tryd.prog 24 #[.slice A l.length c, .int .i64 (m : Int)] w fun e w' => ∃ A1 c1, e = .returned (.slice A1 x.length c1) ∧ x.length ≤ c1 ∧ Kd.C k51 w' A1 x.length x ∧ Below w.heap.size w w' := by
  subst hx
  obtain ⟨k, h⟩ := goods_f l hr.2.1 m h4
  refine (pantographref03_Goods.calls k A c l m _ w hr hc h).mono ?_
  rintro e w' ⟨v, rfl, hR, hb⟩
  obtain ⟨A1, c1, rfl, h1, h2⟩ := Kd.R_reads hR
  exact ⟨A1, c1, rfl, h1, h2, hb⟩
/-- value.Key of values that may be. -/
theorem key_good (A : Option Addr) (c : Nat) (l : List V) (k : List Int) (w : World) (hr : Kd.C k51 w A l.length l) (hc : l.length ≤ c) (hs : ∀ v ∈ l, v.f2.size ≤ 40) (hn : l.length ≤ 1000) (hT : Tabs w) (ha : l.all mayV = true) (hk : kb l = k) :
    Calls Tryd.prog 25 #[.slice A l.length c] w fun e w' => e = .returned (.tuple #[.string (strOfNums k), .int .i64 0]) ∧ Below w.heap.size w w' := by
  subst hk
  have := key_calls A c l w hr hc (fun v hv => by have := hs v hv; omega) hn hT
  rw [keyR_all ha, keyE_all ha] at this
  exact this
theorem keyB_bytes (k n : Int) (s : ByteArray) : Bytes (VKey.keyB k n s) := by
  unfold VKey.keyB
  intro x hx
  rcases List.mem_cons.1 hx with rfl | hx
  · omega
  · split at hx
    · simp at hx; omega
    · split at hx
      · simp only [VKey.be8, List.mem_cons, List.not_mem_nil, or_false] at hx
        omega
      · split at hx
        · refine (Bytes.append ?_ (fun y hy => by simp at hy; omega)) x hx
          exact esc_bytes _ (bytesOf_bytes _)
        · cases hx
where
  esc_bytes : ∀ l : List Int, Bytes l → Bytes (VKey.esc l)
  | [], _ => fun x hx => by cases hx
  | c :: l, h => by
    have h' := esc_bytes l fun x hx => h x (List.mem_cons_of_mem _ hx)
    have hc := h c (by simp)
    unfold VKey.esc
    split
    · intro x hx
      simp only [List.mem_cons] at hx
      rcases hx with rfl | rfl | hx
      · omega
      · omega
      · exact h' x hx
    · intro x hx
      simp only [List.mem_cons] at hx
      rcases hx with rfl | hx
      · exact hc
      · exact h' x hx
theorem kb_bytes (l : List V) : Bytes (kb l) := by
  intro x hx
  unfold kb at hx
  obtain ⟨v, _, h⟩ := List.mem_flatMap.1 hx
  exact keyB_bytes _ _ _ x h
theorem extract_list (s : ByteArray) (n : Nat) : (s.extract 0 n).toList = s.toList.take n := by
  rw [Lib.toList_data, Lib.toList_data, ByteArray.data_extract, Array.toList_extract]
  simp [List.extract_eq_take_drop]
/-- No key is the beginning of one that differs. -/
theorem not_begins {s t : List Int} (hs : Bytes s) (ht : Bytes t) (h : D s t ≠ 0) : (((strOfNums t).extract 0 (strOfNums s).size).toList == (strOfNums s).toList) = false := by
  rw [beq_eq_false_iff_ne]
  intro e
  apply h
  rw [extract_list, str_size, strOf_toList, ← List.map_take] at e
  have e2 : t.take s.length = s := strOf_inj (fun x hx => ht x (List.mem_of_mem_take hx)) hs (by rw [strOf_toList, e])
  have e3 : t = s ++ t.drop s.length := by
    conv => lhs; rw [← List.take_append_drop s.length t, e2]
  have := D_same s [] (t.drop s.length)
  rw [List.append_nil, ← e3] at this
  rw [this]
  cases t.drop s.length <;> rfl
end Go.Proofs.YtaddlkokencbkaaDoor.Cmp3
