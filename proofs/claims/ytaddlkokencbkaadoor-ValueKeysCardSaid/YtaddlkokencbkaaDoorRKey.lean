/- Plain law: what pantographref03.Key answers: the keys of the values, one behind the other. -/
import Derived.Test.YtaddlkokencbkaaDoorQ52
import Derived.Test.YtaddlkokencbkaaDoorVPure
namespace Go.Proofs.YtaddlkokencbkaaDoor.RKey
open Go.RowKit Go.Proofs.YtaddlkokencbkaaDoorW.PrintWords Go.Proofs.YtaddlkokencbkaaDoorW.PrintLast Go.Proofs.YtaddlkokencbkaaDoorW.PrintMore Go.Proofs.YtaddlkokencbkaaDoor.Q Go.Proofs.YtaddlkokencbkaaDoor.Plain Go.Proofs.YtaddlkokencbkaaDoor.VKey Go.Proofs.YtaddlkokencbkaaDoor.VKeyW
set_option linter.unusedVariables false
theorem ev_goal {α : Type} {g : Nat → Option α} {r : α} (K : Nat) (h : ∀ k, K ≤ k → g (k + 1) = some r) : Ev g r :=
  ⟨K + 1, fun k hk => by obtain ⟨j, rfl⟩ : ∃ j, k = j + 1 := ⟨k - 1, by omega⟩; exact h j (by omega)⟩

/-! Names, and where a name stands: they end. -/
theorem rdv_mem (l : List S51) (i : Nat) (h : i < l.length) : rd_T51 l (i : Int) ∈ l := by
  unfold rd_T51
  simp [List.getD_eq_getElem?_getD, h]
def keyV (v : S51) : List Int :=
  (v.f0 % 256) :: (if v.f0 = 1 then [v.f1 % 256] else if v.f0 = 2 then be8 (up v.f1) else if v.f0 = 3 ∨ v.f0 = 4 then esc (bytesOf v.f2) ++ [0, 1] else [])
def keyTo (row : List S51) : Nat → List Int
  | 0 => []
  | i + 1 => keyTo row i ++ keyV (rd_T51 row (i : Int))
theorem keyV_len {v : S51} (B : Nat) (h : v.f2.size ≤ B) : (keyV v).length ≤ 2 * B + 10 := by
  unfold keyV
  simp only [List.length_cons]
  split
  · simp
  · split
    · simp [be8]
    · split
      · have := esc_len (bytesOf v.f2)
        rw [bytesOf_length] at this
        simp
        omega
      · simp
theorem keyTo_len (row : List S51) (B : Nat) (h : ∀ v ∈ row, v.f2.size ≤ B) : ∀ i, i ≤ row.length → (keyTo row i).length ≤ (2 * B + 10) * i
  | 0, _ => by simp [keyTo]
  | i + 1, hi => by
    have h1 := keyTo_len row B h i (by omega)
    have h2 := keyV_len B (h _ (rdv_mem row i (by omega)))
    simp only [keyTo, List.length_append]
    rw [Nat.mul_succ]
    omega

theorem up_range (n : Int) : 0 ≤ up n ∧ up n ≤ 18446744073709551615 := by
  unfold up
  rw [IntKind.wrap_u64, IntKind.wrap_u64]
  omega
theorem shift_up {x : Int} (h0 : 0 ≤ x) (h1 : x ≤ 18446744073709551615) : (IntKind.u64.wrap (Int.tdiv x 72057594037927936)) % 256 = x / 72057594037927936 % 256 ∧ 0 ≤ IntKind.u64.wrap (x * 256) ∧ IntKind.u64.wrap (x * 256) ≤ 18446744073709551615 := by
  rw [Int.tdiv_eq_ediv_of_nonneg h0, IntKind.wrap_u64, IntKind.wrap_u64]
  omega

theorem key_l1 (row : List S51) (i : Nat) (r : ByteArray) (x : Int) (h0 : 0 ≤ x) (h1 : x ≤ 18446744073709551615) (l0 : List Int) (hl : l0.length ≤ 1000000)
    (h : Ev (fun k => pantographref03_Key.l0 k row (l0 ++ be8 x) (wrap64 ((i : Int) + 1))) r) : Ev (fun k => pantographref03_Key.l1 k row l0 (i : Int) x 0) r := by
  obtain ⟨K, hK⟩ := h
  have w1 : wrap64 (0 + 1) = 1 := by unfold wrap64; omega
  have w2 : wrap64 (1 + 1) = 2 := by unfold wrap64; omega
  have w3 : wrap64 (2 + 1) = 3 := by unfold wrap64; omega
  have w4 : wrap64 (3 + 1) = 4 := by unfold wrap64; omega
  have w5 : wrap64 (4 + 1) = 5 := by unfold wrap64; omega
  have w6 : wrap64 (5 + 1) = 6 := by unfold wrap64; omega
  have w7 : wrap64 (6 + 1) = 7 := by unfold wrap64; omega
  have w8 : wrap64 (7 + 1) = 8 := by unfold wrap64; omega
  obtain ⟨x1, e1⟩ : ∃ y, y = IntKind.u64.wrap (x * 256) := ⟨_, rfl⟩
  obtain ⟨x2, e2⟩ : ∃ y, y = IntKind.u64.wrap (x1 * 256) := ⟨_, rfl⟩
  obtain ⟨x3, e3⟩ : ∃ y, y = IntKind.u64.wrap (x2 * 256) := ⟨_, rfl⟩
  obtain ⟨x4, e4⟩ : ∃ y, y = IntKind.u64.wrap (x3 * 256) := ⟨_, rfl⟩
  obtain ⟨x5, e5⟩ : ∃ y, y = IntKind.u64.wrap (x4 * 256) := ⟨_, rfl⟩
  obtain ⟨x6, e6⟩ : ∃ y, y = IntKind.u64.wrap (x5 * 256) := ⟨_, rfl⟩
  obtain ⟨x7, e7⟩ : ∃ y, y = IntKind.u64.wrap (x6 * 256) := ⟨_, rfl⟩
  have s0 := shift_up h0 h1
  rw [← e1] at s0
  have s1 := shift_up s0.2.1 s0.2.2
  rw [← e2] at s1
  have s2 := shift_up s1.2.1 s1.2.2
  rw [← e3] at s2
  have s3 := shift_up s2.2.1 s2.2.2
  rw [← e4] at s3
  have s4 := shift_up s3.2.1 s3.2.2
  rw [← e5] at s4
  have s5 := shift_up s4.2.1 s4.2.2
  rw [← e6] at s5
  have s6 := shift_up s5.2.1 s5.2.2
  rw [← e7] at s6
  have s7 := shift_up s6.2.1 s6.2.2
  have q1 : x1 / 72057594037927936 % 256 = x / 281474976710656 % 256 := by rw [e1, IntKind.wrap_u64]; omega
  have q2 : x2 / 72057594037927936 % 256 = x / 1099511627776 % 256 := by rw [e2, e1, IntKind.wrap_u64, IntKind.wrap_u64]; omega
  have q3 : x3 / 72057594037927936 % 256 = x / 4294967296 % 256 := by rw [e3, e2, e1, IntKind.wrap_u64, IntKind.wrap_u64, IntKind.wrap_u64]; omega
  have m3 : x3 = (x % 1099511627776) * 16777216 := by rw [e3, e2, e1, IntKind.wrap_u64, IntKind.wrap_u64, IntKind.wrap_u64]; omega
  have q4 : x4 / 72057594037927936 % 256 = x / 16777216 % 256 := by rw [e4, m3, IntKind.wrap_u64]; omega
  have q5 : x5 / 72057594037927936 % 256 = x / 65536 % 256 := by rw [e5, e4, m3, IntKind.wrap_u64, IntKind.wrap_u64]; omega
  have m5 : x5 = (x % 16777216) * 1099511627776 := by rw [e5, e4, m3, IntKind.wrap_u64, IntKind.wrap_u64]; omega
  have q6 : x6 / 72057594037927936 % 256 = x / 256 % 256 := by rw [e6, m5, IntKind.wrap_u64]; omega
  have q7 : x7 / 72057594037927936 % 256 = x % 256 := by rw [e7, e6, m5, IntKind.wrap_u64, IntKind.wrap_u64]; omega
  refine ⟨K + 9, fun k hk => ?_⟩
  obtain ⟨k, rfl⟩ : ∃ m, k = m + 9 := ⟨k - 9, by omega⟩
  have hend := hK k (by omega)
  dsimp only at hend
  show pantographref03_Key.l1 (k + 8 + 1) row l0 (i : Int) x 0 = some r
  rw [pantographref03_Key.l1, if_pos (by decide), if_pos (by omega), w1, s0.1, ← e1]
  rw [pantographref03_Key.l1, if_pos (by decide), if_pos (by simp; omega), w2, s1.1, q1, ← e2]
  rw [pantographref03_Key.l1, if_pos (by decide), if_pos (by simp; omega), w3, s2.1, q2, ← e3]
  rw [pantographref03_Key.l1, if_pos (by decide), if_pos (by simp; omega), w4, s3.1, q3, ← e4]
  rw [pantographref03_Key.l1, if_pos (by decide), if_pos (by simp; omega), w5, s4.1, q4, ← e5]
  rw [pantographref03_Key.l1, if_pos (by decide), if_pos (by simp; omega), w6, s5.1, q5, ← e6]
  rw [pantographref03_Key.l1, if_pos (by decide), if_pos (by simp; omega), w7, s6.1, q6, ← e7]
  rw [pantographref03_Key.l1, if_pos (by decide), if_pos (by simp; omega), w8, s7.1, q7]
  rw [pantographref03_Key.l1, if_neg (by decide)]
  simp only [List.append_assoc, List.singleton_append]
  exact hend

theorem key_l2 (row : List S51) (i : Nat) (r : ByteArray) (k0 n0 : Int) (s : ByteArray) (hs : s.size ≤ 100000) (l0 : List Int) (hl : l0.length ≤ 1000000)
    (h : Ev (fun k => pantographref03_Key.l0 k row (l0 ++ (esc (bytesOf s) ++ [0, 1])) (wrap64 ((i : Int) + 1))) r) : ∀ (d j : Nat), s.size - j = d → j ≤ s.size →
    Ev (fun k => pantographref03_Key.l2 k row (l0 ++ esc ((bytesOf s).take j)) (i : Int) (j : Int) k0 n0 s) r := by
  intro d
  induction d with
  | zero =>
    intro j hd hj
    obtain rfl : j = s.size := by omega
    have ht : (bytesOf s).take s.size = bytesOf s := List.take_of_length_le (by rw [bytesOf_length]; omega)
    obtain ⟨K, hK⟩ := h
    refine ev_goal K fun k hk => ?_
    have := esc_len (bytesOf s)
    rw [bytesOf_length] at this
    rw [ht, pantographref03_Key.l2, if_neg (by omega), Option.bind_some, if_pos (by simp; omega), List.append_assoc]
    exact hK k hk
  | succ d ih =>
    intro j hd hj
    have e : wrap64 ((j : Int) + 1) = ((j + 1 : Nat) : Int) := by unfold wrap64; omega
    obtain ⟨K, hK⟩ := ih (j + 1) (by omega) (by omega)
    have hlt : j < (bytesOf s).length := by rw [bytesOf_length]; omega
    have hb : (bytesOf s)[j] = bt s (j : Int) := by
      rw [← rd_bytesOf]
      unfold rd
      simp [List.getD_eq_getElem?_getD, List.getElem?_eq_getElem hlt]
    have ht : esc ((bytesOf s).take (j + 1)) = esc ((bytesOf s).take j) ++ esc [bt s (j : Int)] := by
      rw [List.take_succ_eq_append_getElem hlt, esc_append, hb]
    have hlen : (l0 ++ esc ((bytesOf s).take j)).length ≤ 1300000 := by
      have := esc_len ((bytesOf s).take j)
      rw [List.length_take, bytesOf_length] at this
      rw [List.length_append]
      omega
    refine ev_goal K fun k hk => ?_
    have hend := hK k hk
    dsimp only at hend
    rw [ht] at hend
    rw [pantographref03_Key.l2, if_pos (by omega), if_pos (by omega), if_pos (by omega), Option.bind_some, e]
    by_cases c : bt s (j : Int) = 0
    · rw [if_pos c, if_pos (by simp at hlen ⊢; omega), List.append_assoc, List.append_assoc]
      rw [show esc [bt s (j : Int)] = [bt s (j : Int)] ++ [255] by simp [esc, c]] at hend
      exact hend
    · rw [if_neg c, List.append_assoc]
      rw [show esc [bt s (j : Int)] = [bt s (j : Int)] by simp [esc, c]] at hend
      exact hend

theorem key_l0 (row : List S51) (hs : ∀ v ∈ row, v.f2.size ≤ 4096) (hn : row.length ≤ 100) : ∀ (d i : Nat), row.length - i = d → i ≤ row.length →
    Ev (fun k => pantographref03_Key.l0 k row (keyTo row i) (i : Int)) (strOfNums (keyTo row row.length)) := by
  intro d
  induction d with
  | zero =>
    intro i hd hi
    obtain rfl : i = row.length := by omega
    refine ev_goal 0 fun k _ => ?_
    rw [pantographref03_Key.l0, if_neg (by omega)]
  | succ d ih =>
    intro i hd hi
    have e : wrap64 ((i : Int) + 1) = ((i + 1 : Nat) : Int) := by unfold wrap64; omega
    have ih := ih (i + 1) (by omega) (by omega)
    have hlen := keyTo_len row 4096 hs i (by omega)
    have hlen2 : (keyTo row i).length ≤ 900000 := by
      have : (2 * 4096 + 10) * i ≤ (2 * 4096 + 10) * 100 := Nat.mul_le_mul_left _ (by omega)
      omega
    have hsz := hs _ (rdv_mem row i (by omega))
    have hkt : keyTo row (i + 1) = keyTo row i ++ keyV (rd_T51 row (i : Int)) := rfl
    rw [hkt] at ih
    have e0 : ∀ k, pantographref03_Key.l0 (k + 1) row (keyTo row i) (i : Int) = (if ((rd_T51 row (i : Int)).f0) = 1 then (pantographref03_Key.l0 k row ((keyTo row i ++ [(rd_T51 row (i : Int)).f0 % 256]) ++ [((rd_T51 row (i : Int)).f1) % 256]) (wrap64 ((i : Int) + 1))) else (if ((rd_T51 row (i : Int)).f0) = 2 then (pantographref03_Key.l1 k row (keyTo row i ++ [(rd_T51 row (i : Int)).f0 % 256]) (i : Int) (up (rd_T51 row (i : Int)).f1) 0) else (if ((rd_T51 row (i : Int)).f0) = 3 then (pantographref03_Key.j2 k row (keyTo row i ++ [(rd_T51 row (i : Int)).f0 % 256]) (i : Int) (((rd_T51 row (i : Int)).f0) == 3) ((rd_T51 row (i : Int)).f0) ((rd_T51 row (i : Int)).f1) ((rd_T51 row (i : Int)).f2)) else (pantographref03_Key.j2 k row (keyTo row i ++ [(rd_T51 row (i : Int)).f0 % 256]) (i : Int) (((rd_T51 row (i : Int)).f0) == 4) ((rd_T51 row (i : Int)).f0) ((rd_T51 row (i : Int)).f1) ((rd_T51 row (i : Int)).f2))))) := by
      intro k
      have L2 : (keyTo row i ++ [(rd_T51 row (i : Int)).f0 % 256]).length < 140737488355328 := by simp; omega
      rw [pantographref03_Key.l0, if_pos (by omega), if_pos (by omega), if_pos (by omega), Option.bind_some, if_pos L2]
      rfl
    refine Ev.step e0 ?_
    generalize hg : rd_T51 row (i : Int) = v at *
    have L1 : (keyTo row i ++ [v.f0 % 256]).length ≤ 1000000 := by simp; omega
    by_cases c1 : v.f0 = 1
    · refine Ev.congr (fun k => if_pos c1) ?_
      rw [e]
      rw [show keyV v = [v.f0 % 256] ++ [v.f1 % 256] by unfold keyV; rw [if_pos c1]; rfl, ← List.append_assoc] at ih
      exact ih
    · refine Ev.congr (fun k => if_neg c1) ?_
      by_cases c2 : v.f0 = 2
      · refine Ev.congr (fun k => if_pos c2) (key_l1 row i _ _ (up_range _).1 (up_range _).2 _ L1 ?_)
        rw [e]
        rw [show keyV v = [v.f0 % 256] ++ be8 (up v.f1) by unfold keyV; rw [if_neg c1, if_pos c2]; rfl, ← List.append_assoc] at ih
        exact ih
      · refine Ev.congr (fun k => if_neg c2) ?_
        by_cases c34 : v.f0 = 3 ∨ v.f0 = 4
        · have main : Ev (fun k => pantographref03_Key.j2 k row (keyTo row i ++ [v.f0 % 256]) (i : Int) true v.f0 v.f1 v.f2) (strOfNums (keyTo row row.length)) := by
            have h2 := key_l2 row i (strOfNums (keyTo row row.length)) v.f0 v.f1 v.f2 (by omega) (keyTo row i ++ [v.f0 % 256]) L1 (by
              rw [e]
              rw [show keyV v = [v.f0 % 256] ++ (esc (bytesOf v.f2) ++ [0, 1]) by unfold keyV; rw [if_neg c1, if_neg c2, if_pos c34]; rfl, ← List.append_assoc] at ih
              exact ih) v.f2.size 0 (by omega) (by omega)
            refine Ev.step (fun k => ?_) h2
            rw [pantographref03_Key.j2, if_pos rfl]
            simp [esc]
          by_cases c3 : v.f0 = 3
          · refine Ev.congr (fun k => if_pos c3) ?_
            rw [show (v.f0 == 3) = true by simp [c3]]
            exact main
          · refine Ev.congr (fun k => if_neg c3) ?_
            rw [show (v.f0 == 4) = true by simp; omega]
            exact main
        · refine Ev.congr (fun k => if_neg (fun h => c34 (.inl h))) ?_
          rw [show (v.f0 == 4) = false by simp; omega]
          refine Ev.step (fun k => ?_) ih
          rw [pantographref03_Key.j2, if_neg (by simp), e]
          rw [show keyV v = [v.f0 % 256] by unfold keyV; rw [if_neg c1, if_neg c2, if_neg c34]]
theorem key_f (row : List S51) (hs : ∀ v ∈ row, v.f2.size ≤ 4096) (hn : row.length ≤ 100) : Ev (fun k => pantographref03_Key.f k row) (strOfNums (keyTo row row.length)) := by
  obtain ⟨K, hK⟩ := key_l0 row hs hn row.length 0 (by omega) (by omega)
  refine ⟨K, fun k hk => ?_⟩
  simp only [pantographref03_Key.f]
  exact hK k hk

theorem keyTo_take (row : List V) : ∀ i, i ≤ row.length → keyTo row i = kb (row.take i)
  | 0, _ => rfl
  | i + 1, hi => by
    have e : rd_T51 row (i : Int) = row[i]'(by omega) := by
      unfold rd_T51
      rw [Int.toNat_natCast, List.getD_eq_getElem?_getD, List.getElem?_eq_getElem (by omega)]
      rfl
    rw [keyTo, keyTo_take row i (by omega), List.take_succ_eq_append_getElem (by omega), kb_snoc, e]
    rfl
/-- The document's key of values. -/
theorem refkey_calls (A : Option Addr) (c : Nat) (l : List V) (r : ByteArray) (w : World) (hr : Kd.C k51 w A l.length l) (hc : l.length ≤ c) (hs : ∀ v ∈ l, v.f2.size ≤ 4096) (hn : l.length ≤ 100) (h : strOfNums (kb l) = r) :
    Calls Tryd.prog 35 #[.slice A l.length c] w fun e w' => e = .returned (.string r) ∧ Below w.heap.size w w' := by
  obtain ⟨K, hK⟩ := key_f l hs hn
  have := hK K (Nat.le_refl _)
  rw [keyTo_take l l.length (Nat.le_refl _), List.take_of_length_le (Nat.le_refl _), h] at this
  exact pantographref03_Key.calls _ A c l r w hr hc this
end Go.Proofs.YtaddlkokencbkaaDoor.RKey
