/- Plain law: a value's text: the program's and the document's are one; two values of one kind have one text just if they are one. -/
import Derived.Test.YtaddlkokencbkaaDoorVOrd
import Derived.Test.YtaddlkokencbkaaDoorShow
import Derived.Test.YtaddlkokencbkaaDoorQ30
import Derived.Laws.BitsAllLaws
import Derived.Lib.ItoaLen
namespace Go.Proofs.YtaddlkokencbkaaDoor.VShow
open Go.RowKit Go.Lib Go.Proofs.YtaddlkokencbkaaDoorW.PrintWords Go.Proofs.YtaddlkokencbkaaDoorW.PrintLast Go.Proofs.YtaddlkokencbkaaDoorW.PrintMore Go.Proofs.YtaddlkokencbkaaDoor.Q Go.Proofs.YtaddlkokencbkaaDoor.OpenV Go.Proofs.YtaddlkokencbkaaDoor.May Go.Proofs.YtaddlkokencbkaaDoor.VKeyW Go.Proofs.YtaddlkokencbkaaDoor.Vals Go.Proofs.YtaddlkokencbkaaDoor.Plain Go.Proofs.YtaddlkokencbkaaDoor.VOrd Go.Proofs.YtaddlkokencbkaaDoor.Show
set_option linter.unusedVariables false
set_option linter.unusedSimpArgs false
abbrev hexs : ByteArray := ⟨#[48, 49, 50, 51, 52, 53, 54, 55, 56, 57, 97, 98, 99, 100, 101, 102]⟩
/-- One byte of a text between two signs. -/
def qb (c : Int) : List Int := if c < 32 ∨ 126 < c ∨ c = 92 ∨ c = 39 then [92, bt hexs (c / 16), bt hexs (c % 16)] else [c]
def quotedL (l : List Int) : List Int := 39 :: (l.flatMap qb ++ [39])
theorem qb_len (c : Int) : (qb c).length ≤ 3 := by unfold qb; split <;> simp
theorem quo_len : ∀ l : List Int, (l.flatMap qb).length ≤ 3 * l.length
  | [] => by simp
  | c :: l => by
    have := quo_len l
    have := qb_len c
    rw [List.flatMap_cons, List.length_append, List.length_cons]
    omega
theorem and15 (c : Int) (h0 : 0 ≤ c) (h1 : c < 256) : Go.bits .and .u8 c 15 = c % 16 := by
  obtain ⟨m, rfl⟩ := Int.eq_ofNat_of_zero_le h0
  have : ∀ k : Fin 256, Go.bits .and .u8 (k.val : Int) 15 = ((k.val : Int)) % 16 := by decide +kernel
  exact this ⟨m, by omega⟩
theorem byte_at (s : ByteArray) (j : Nat) (hj : j < s.size) : 0 ≤ bt s (j : Int) ∧ bt s (j : Int) < 256 ∧ (bytesOf s).take (j + 1) = (bytesOf s).take j ++ [bt s (j : Int)] := by
  have hlt : j < (bytesOf s).length := by rw [bytesOf_length]; omega
  have hb : (bytesOf s)[j] = bt s (j : Int) := by
    rw [← rd_bytesOf]
    unfold rd
    simp [List.getD_eq_getElem?_getD, List.getElem?_eq_getElem hlt]
  have := bytesOf_bytes s _ (List.getElem_mem hlt)
  rw [hb] at this
  exact ⟨this.1, this.2, by rw [List.take_succ_eq_append_getElem hlt, hb]⟩
theorem quoted_l0 (s : ByteArray) (hs : s.size ≤ 100000) : ∀ (d j : Nat), s.size - j = d → j ≤ s.size →
    value_quoted.l0 (d + 1) s (39 :: ((bytesOf s).take j).flatMap qb) (s.size : Int) (j : Int) = some (strOfNums (quotedL (bytesOf s))) := by
  intro d
  induction d with
  | zero =>
    intro j hd hj
    obtain rfl : j = s.size := by omega
    have ht : (bytesOf s).take s.size = bytesOf s := List.take_of_length_le (by rw [bytesOf_length]; omega)
    have hl := quo_len (bytesOf s)
    rw [bytesOf_length] at hl
    rw [ht, value_quoted.l0, if_neg (by omega)]
    rw [if_pos (by rw [List.length_cons]; omega)]; rfl
  | succ d ih =>
    intro j hd hj
    have e : wrap64 ((j : Int) + 1) = ((j + 1 : Nat) : Int) := by unfold wrap64; omega
    obtain ⟨b0, b1, ht⟩ := byte_at s j (by omega)
    have hend := ih (j + 1) (by omega) (by omega)
    rw [ht, List.flatMap_append] at hend
    have hlen : (39 :: ((bytesOf s).take j).flatMap qb).length ≤ 400000 := by
      have := quo_len ((bytesOf s).take j)
      rw [List.length_take, bytesOf_length] at this
      rw [List.length_cons]
      omega
    have q15 := and15 _ b0 b1
    rw [value_quoted.l0, if_pos (by omega), if_pos (by omega), if_pos (by omega), q15, e]
    generalize bt s (j : Int) = c at *
    have hq : ∀ x, [x].flatMap qb = qb x := fun x => by simp
    rw [hq] at hend
    by_cases c1 : c < 32
    · rw [if_pos c1]
      simp only [Option.bind_some, if_pos (show 0 ≤ c / 16 by omega), if_pos (show c / 16 < 16 by omega), if_pos (show 0 ≤ c % 16 by omega), if_pos (show c % 16 < 16 by omega)]
      rw [if_pos (by simp at hlen ⊢; omega)]
      rw [show qb c = [92, bt hexs (c / 16), bt hexs (c % 16)] by unfold qb; rw [if_pos (.inl c1)]] at hend
      exact hend
    rw [if_neg c1]
    by_cases c2 : c > 126
    · rw [if_pos c2]
      simp only [Option.bind_some, if_pos (show 0 ≤ c / 16 by omega), if_pos (show c / 16 < 16 by omega), if_pos (show 0 ≤ c % 16 by omega), if_pos (show c % 16 < 16 by omega)]
      rw [if_pos (by simp at hlen ⊢; omega)]
      rw [show qb c = [92, bt hexs (c / 16), bt hexs (c % 16)] by unfold qb; rw [if_pos (.inr (.inl c2))]] at hend
      exact hend
    rw [if_neg c2]
    by_cases c3 : c = 92
    · rw [if_pos c3]
      simp only [Option.bind_some, if_pos (show 0 ≤ c / 16 by omega), if_pos (show c / 16 < 16 by omega), if_pos (show 0 ≤ c % 16 by omega), if_pos (show c % 16 < 16 by omega)]
      rw [if_pos (by simp at hlen ⊢; omega)]
      rw [show qb c = [92, bt hexs (c / 16), bt hexs (c % 16)] by unfold qb; rw [if_pos (.inr (.inr (.inl c3)))]] at hend
      exact hend
    rw [if_neg c3]
    by_cases c4 : c = 39
    · rw [if_pos c4]
      simp only [Option.bind_some, if_pos (show 0 ≤ c / 16 by omega), if_pos (show c / 16 < 16 by omega), if_pos (show 0 ≤ c % 16 by omega), if_pos (show c % 16 < 16 by omega)]
      rw [if_pos (by simp at hlen ⊢; omega)]
      rw [show qb c = [92, bt hexs (c / 16), bt hexs (c % 16)] by unfold qb; rw [if_pos (.inr (.inr (.inr c4)))]] at hend
      exact hend
    rw [if_neg c4, if_pos (by simp at hlen ⊢; omega)]
    rw [show qb c = [c] by unfold qb; rw [if_neg (by omega)]] at hend
    exact hend
theorem quoted_f (s : ByteArray) (hs : s.size ≤ 100000) : ∃ K, value_quoted.f K s = some (strOfNums (quotedL (bytesOf s))) := ⟨_, quoted_l0 s hs _ 0 rfl (Nat.zero_le _)⟩
theorem show_l0 (k0 n0 : Int) (s : ByteArray) (hs : s.size ≤ 100000) : ∀ (d j : Nat), s.size - j = d → j ≤ s.size →
    pantographref03_Show.l0 (d + 1) hexs (39 :: ((bytesOf s).take j).flatMap qb) (j : Int) k0 n0 s = some (strOfNums (quotedL (bytesOf s))) := by
  intro d
  have hx : (hexs.size : Int) = 16 := rfl
  induction d with
  | zero =>
    intro j hd hj
    obtain rfl : j = s.size := by omega
    have ht : (bytesOf s).take s.size = bytesOf s := List.take_of_length_le (by rw [bytesOf_length]; omega)
    have hl := quo_len (bytesOf s)
    rw [bytesOf_length] at hl
    rw [ht, pantographref03_Show.l0, if_neg (by omega), if_pos (by rw [List.length_cons]; omega)]
    rfl
  | succ d ih =>
    intro j hd hj
    have e : wrap64 ((j : Int) + 1) = ((j + 1 : Nat) : Int) := by unfold wrap64; omega
    obtain ⟨b0, b1, ht⟩ := byte_at s j (by omega)
    have hend := ih (j + 1) (by omega) (by omega)
    rw [ht, List.flatMap_append] at hend
    have hlen : (39 :: ((bytesOf s).take j).flatMap qb).length ≤ 400000 := by
      have := quo_len ((bytesOf s).take j)
      rw [List.length_take, bytesOf_length] at this
      rw [List.length_cons]
      omega
    rw [pantographref03_Show.l0, if_pos (by omega), if_pos (by omega), e]
    generalize bt s (j : Int) = c at *
    have hq : ∀ x, [x].flatMap qb = qb x := fun x => by simp
    rw [hq] at hend
    have t1 : Int.tdiv c 16 % 256 = c / 16 := by rw [Int.tdiv_eq_ediv_of_nonneg b0]; omega
    have t2 : Int.tmod c 16 = c % 16 := Int.tmod_eq_emod_of_nonneg b0
    rw [t1, t2, hx]
    by_cases c1 : c < 32
    · rw [if_pos c1]
      simp only [Option.bind_some, if_pos (show 0 ≤ c / 16 by omega), if_pos (show c / 16 < 16 by omega), if_pos (show 0 ≤ c % 16 by omega), if_pos (show c % 16 < 16 by omega)]
      rw [if_pos (by simp at hlen ⊢; omega)]
      rw [show qb c = [92, bt hexs (c / 16), bt hexs (c % 16)] by unfold qb; rw [if_pos (.inl c1)]] at hend
      exact hend
    rw [if_neg c1]
    by_cases c2 : c > 126
    · rw [if_pos c2]
      simp only [Option.bind_some, if_pos (show 0 ≤ c / 16 by omega), if_pos (show c / 16 < 16 by omega), if_pos (show 0 ≤ c % 16 by omega), if_pos (show c % 16 < 16 by omega)]
      rw [if_pos (by simp at hlen ⊢; omega)]
      rw [show qb c = [92, bt hexs (c / 16), bt hexs (c % 16)] by unfold qb; rw [if_pos (.inr (.inl c2))]] at hend
      exact hend
    rw [if_neg c2]
    by_cases c3 : c = 92
    · rw [if_pos c3]
      simp only [Option.bind_some, if_pos (show 0 ≤ c / 16 by omega), if_pos (show c / 16 < 16 by omega), if_pos (show 0 ≤ c % 16 by omega), if_pos (show c % 16 < 16 by omega)]
      rw [if_pos (by simp at hlen ⊢; omega)]
      rw [show qb c = [92, bt hexs (c / 16), bt hexs (c % 16)] by unfold qb; rw [if_pos (.inr (.inr (.inl c3)))]] at hend
      exact hend
    rw [if_neg c3]
    by_cases c4 : c = 39
    · rw [if_pos c4]
      simp only [Option.bind_some, if_pos (show 0 ≤ c / 16 by omega), if_pos (show c / 16 < 16 by omega), if_pos (show 0 ≤ c % 16 by omega), if_pos (show c % 16 < 16 by omega)]
      rw [if_pos (by simp at hlen ⊢; omega)]
      rw [show qb c = [92, bt hexs (c / 16), bt hexs (c % 16)] by unfold qb; rw [if_pos (.inr (.inr (.inr c4)))]] at hend
      exact hend
    rw [if_neg c4, if_pos (by simp at hlen ⊢; omega)]
    rw [show qb c = [c] by unfold qb; rw [if_neg (by omega)]] at hend
    exact hend
theorem strOfList (l : List UInt8) : strOfNums (l.map fun x => (x.toNat : Int)) = ⟨l.toArray⟩ := by
  apply ByteArray.ext
  apply Array.ext'
  rw [strOfNums_data, List.map_map, List.map_congr_left (g := id) (fun x _ => by simp), List.map_id]
theorem tens_f : ∀ (u : Nat), u < 18446744073709551616 → ∃ k, pantographref03_tens.f k (u : Int) = some ⟨(decDigits u).toArray⟩ := by
  intro u
  induction u using Nat.strongRecOn with
  | _ u ih =>
    intro hu
    have hm : Int.tmod (u : Int) 10 = ((u % 10 : Nat) : Int) := by rw [Int.tmod_eq_emod_of_nonneg (by omega)]; rfl
    have hd : Int.tdiv (u : Int) 10 = ((u / 10 : Nat) : Int) := by rw [Int.tdiv_eq_ediv_of_nonneg (by omega)]; rfl
    have w1 : IntKind.u64.wrap (48 + ((u % 10 : Nat) : Int)) % 256 = ((48 + u % 10 : Nat) : Int) := by rw [IntKind.wrap_u64]; omega
    have w2 : IntKind.u64.wrap ((u / 10 : Nat) : Int) = ((u / 10 : Nat) : Int) := by rw [IntKind.wrap_u64]; omega
    have s1 : strOfNums [((48 + u % 10 : Nat) : Int)] = ⟨#[UInt8.ofNat (48 + u % 10)]⟩ := by
      have := strOfList [UInt8.ofNat (48 + u % 10)]
      have e : (UInt8.ofNat (48 + u % 10)).toNat = 48 + u % 10 := by simp [UInt8.toNat_ofNat']; omega
      rw [List.map_cons, List.map_nil, e] at this
      exact this
    by_cases h : u < 10
    · refine ⟨1, ?_⟩
      rw [pantographref03_tens.f, Option.bind_some, if_neg (by omega), hm, w1, s1, decDigits, dif_pos h, Nat.mod_eq_of_lt h]
    · obtain ⟨k, hk⟩ := ih (u / 10) (by omega) (by omega)
      refine ⟨k + 1, ?_⟩
      have hlen : (decDigits (u / 10)).length ≤ 21 := by
        rw [decDigits_length]
        have := nDigits_le20 (u / 10) (by omega)
        omega
      rw [pantographref03_tens.f, Option.bind_some, if_pos (by omega), hm, w1, hd, w2, hk, Option.bind_some, s1]
      rw [if_pos (by
        have e1 : ByteArray.size ⟨(decDigits (u / 10)).toArray⟩ = (decDigits (u / 10)).length := by show (Array.size _) = _; simp
        have e2 : ByteArray.size ⟨#[UInt8.ofNat (48 + u % 10)]⟩ = 1 := rfl
        rw [e1, e2]; omega)]
      have e : decDigits u = decDigits (u / 10) ++ [UInt8.ofNat (48 + u % 10)] := by
        conv => lhs; rw [decDigits, dif_neg h]
      rw [e]
      congr 1
theorem tens_up (k : Nat) (x : Int) (r : ByteArray) (h : pantographref03_tens.f k x = some r) : ∀ d, pantographref03_tens.f (k + d) x = some r
  | 0 => h
  | d + 1 => pantographref03_tens.mono_l (k + d) x r (tens_up k x r h d)
theorem decimal_f (n : Int) (h : RangeI n) : ∃ k, ∀ d, pantographref03_Decimal.f (k + d) n = some ⟨(itoa n).toArray⟩ := by
  unfold RangeI at h
  by_cases hn : n < 0
  · obtain ⟨k, hk⟩ := tens_f n.natAbs (by omega)
    refine ⟨k, fun d => ?_⟩
    have hw : IntKind.u64.wrap (IntKind.u64.wrap (wrap64 (-(wrap64 (n + 1)))) + 1) = (n.natAbs : Int) := by rw [IntKind.wrap_u64, IntKind.wrap_u64]; unfold wrap64; omega
    have hlen : (decDigits n.natAbs).length ≤ 21 := by
      rw [decDigits_length]
      have := nDigits_le20 n.natAbs (by omega)
      omega
    unfold pantographref03_Decimal.f
    rw [if_pos hn, hw, tens_up k _ _ hk d, Option.bind_some, if_pos (by
      have e1 : ByteArray.size ⟨(decDigits n.natAbs).toArray⟩ = (decDigits n.natAbs).length := by show (Array.size _) = _; simp
      rw [e1]; omega)]
    congr 1
    apply ByteArray.ext
    apply Array.ext'
    unfold itoa
    rw [if_pos hn, ByteArray.data_append]
    simp
  · obtain ⟨k, hk⟩ := tens_f n.toNat (by omega)
    refine ⟨k, fun d => ?_⟩
    have hw : IntKind.u64.wrap n = (n.toNat : Int) := by rw [IntKind.wrap_u64]; omega
    unfold pantographref03_Decimal.f itoa
    rw [if_neg hn, hw, tens_up k _ _ hk d, Option.bind_some, if_neg hn]
/-- A value's text. -/
def textV (v : V) : ByteArray := showS v.f0 v.f1 (strOfNums (quotedL (bytesOf v.f2)))
theorem refshow_f (v : V) (hr : RangeI v.f1) (hm : mayV v = true) (hs : v.f2.size ≤ 100000) : ∃ K, pantographref03_Show.f K v.f0 v.f1 v.f2 = some (textV v) := by
  obtain ⟨k, n, s⟩ := v
  have hk := may_kind hm
  dsimp only at hk hr hs ⊢
  unfold textV showS
  dsimp only
  rcases hk with ⟨rfl, _⟩ | ⟨rfl, hn, _⟩ | ⟨rfl, _⟩ | ⟨hk, _⟩
  · exact ⟨0, rfl⟩
  · refine ⟨0, ?_⟩
    rcases hn with rfl | rfl
    · rfl
    · rfl
  · obtain ⟨K, hK⟩ := decimal_f n hr
    refine ⟨K, ?_⟩
    have := hK 0
    rw [Nat.add_zero] at this
    unfold pantographref03_Show.f
    rw [if_neg (by omega), if_neg (by omega), if_pos rfl, this, if_neg (by omega), if_neg (by omega), if_pos rfl]
    rfl
  · refine ⟨s.size + 1, ?_⟩
    unfold pantographref03_Show.f
    rw [if_neg (by omega), if_neg (by omega), if_neg (by omega), if_neg (by omega), if_neg (by omega), if_neg (by omega)]
    exact show_l0 k n s hs s.size 0 (by omega) (Nat.zero_le _)
theorem dec_inj : ∀ (a b : Nat), decDigits a = decDigits b → a = b := by
  have val : ∀ u : Nat, (decDigits u).foldl (fun acc x => 10 * acc + (x.toNat - 48)) 0 = u := by
    intro u
    induction u using Nat.strongRecOn with
    | _ u ih =>
      have e : ∀ i, i < 10 → (UInt8.ofNat (48 + i)).toNat = 48 + i := fun i hi => by simp [UInt8.toNat_ofNat']; omega
      by_cases h : u < 10
      · rw [decDigits, dif_pos h]
        simp only [List.foldl_cons, List.foldl_nil]
        rw [e u h]; omega
      · rw [decDigits, dif_neg h, List.foldl_append, ih (u / 10) (by omega)]
        simp only [List.foldl_cons, List.foldl_nil]
        rw [e _ (by omega)]; omega
  intro a b h
  rw [← val a, ← val b, h]
theorem dec_head (u : Nat) : ∃ d l, decDigits u = d :: l ∧ d ≠ 45 := by
  induction u using Nat.strongRecOn with
  | _ u ih =>
    by_cases h : u < 10
    · refine ⟨_, [], by rw [decDigits, dif_pos h], fun e => ?_⟩
      have := congrArg UInt8.toNat e
      rw [show (UInt8.ofNat (48 + u)).toNat = 48 + u by simp [UInt8.toNat_ofNat']; omega] at this
      have : 48 + u = 45 := this
      omega
    · obtain ⟨d, l, hd, hne⟩ := ih (u / 10) (by omega)
      exact ⟨d, l ++ [UInt8.ofNat (48 + u % 10)], by rw [decDigits, dif_neg h, hd]; rfl, hne⟩
theorem itoa_inj {a b : Int} (h : itoa a = itoa b) : a = b := by
  unfold itoa at h
  by_cases ha : a < 0
  · by_cases hb : b < 0
    · rw [if_pos ha, if_pos hb] at h
      have := dec_inj _ _ (List.cons.inj h).2
      omega
    · rw [if_pos ha, if_neg hb] at h
      obtain ⟨d, l, hd, hne⟩ := dec_head b.toNat
      rw [hd] at h
      exact absurd (List.cons.inj h).1.symm hne
  · by_cases hb : b < 0
    · rw [if_neg ha, if_pos hb] at h
      obtain ⟨d, l, hd, hne⟩ := dec_head a.toNat
      rw [hd] at h
      exact absurd (List.cons.inj h).1 hne
    · rw [if_neg ha, if_neg hb] at h
      have := dec_inj _ _ h
      omega
theorem hex_inj {a b : Int} (ha : 0 ≤ a ∧ a < 16) (hb : 0 ≤ b ∧ b < 16) (h : bt hexs a = bt hexs b) : a = b := by
  obtain ⟨m, rfl⟩ := Int.eq_ofNat_of_zero_le ha.1
  obtain ⟨q, rfl⟩ := Int.eq_ofNat_of_zero_le hb.1
  have : ∀ x y : Fin 16, bt hexs (x.val : Int) = bt hexs (y.val : Int) → x = y := by decide +kernel
  have := this ⟨m, by omega⟩ ⟨q, by omega⟩ h
  have := congrArg Fin.val this
  dsimp only at this
  omega
theorem qb_inj (c d : Int) (hc : 0 ≤ c ∧ c < 256) (hd : 0 ≤ d ∧ d < 256) (s t : List Int) (h : qb c ++ s = qb d ++ t) : c = d ∧ s = t := by
  unfold qb at h
  by_cases x : c < 32 ∨ 126 < c ∨ c = 92 ∨ c = 39
  · by_cases y : d < 32 ∨ 126 < d ∨ d = 92 ∨ d = 39
    · rw [if_pos x, if_pos y] at h
      simp only [List.cons_append, List.nil_append, List.cons.injEq, true_and] at h
      have h1 := hex_inj (by omega) (by omega) h.1
      have h2 := hex_inj (by omega) (by omega) h.2.1
      exact ⟨by omega, h.2.2⟩
    · rw [if_pos x, if_neg y] at h
      simp only [List.cons_append, List.cons.injEq] at h
      omega
  · by_cases y : d < 32 ∨ 126 < d ∨ d = 92 ∨ d = 39
    · rw [if_neg x, if_pos y] at h
      simp only [List.cons_append, List.cons.injEq] at h
      omega
    · rw [if_neg x, if_neg y] at h
      simp only [List.cons_append, List.nil_append, List.cons.injEq] at h
      exact h
theorem qb_head (c : Int) (s : List Int) : ∃ d l, qb c ++ s = d :: l ∧ d ≠ 39 := by
  unfold qb
  by_cases x : c < 32 ∨ 126 < c ∨ c = 92 ∨ c = 39
  · rw [if_pos x]; exact ⟨92, _, rfl, by omega⟩
  · rw [if_neg x]; exact ⟨c, _, rfl, by omega⟩
theorem quo_inj : ∀ (a b : List Int), Bytes a → Bytes b → a.flatMap qb ++ [39] = b.flatMap qb ++ [39] → a = b
  | [], [], _, _, _ => rfl
  | [], d :: b, _, _, h => by
    obtain ⟨x, l, e, hne⟩ := qb_head d (b.flatMap qb ++ [39])
    rw [List.flatMap_cons, List.append_assoc, e] at h
    exact absurd (List.cons.inj h).1.symm hne
  | c :: a, [], _, _, h => by
    obtain ⟨x, l, e, hne⟩ := qb_head c (a.flatMap qb ++ [39])
    rw [List.flatMap_cons, List.append_assoc, e] at h
    exact absurd (List.cons.inj h).1 hne
  | c :: a, d :: b, ha, hb, h => by
    rw [List.flatMap_cons, List.flatMap_cons, List.append_assoc, List.append_assoc] at h
    obtain ⟨e1, e2⟩ := qb_inj c d (ha c (by simp)) (hb d (by simp)) _ _ h
    rw [e1, quo_inj a b (fun x hx => ha x (List.mem_cons_of_mem _ hx)) (fun x hx => hb x (List.mem_cons_of_mem _ hx)) e2]
theorem bt_bytes (c : Int) (h : 0 ≤ c ∧ c < 16) : 0 ≤ bt hexs c ∧ bt hexs c < 256 := by
  obtain ⟨m, rfl⟩ := Int.eq_ofNat_of_zero_le h.1
  have : ∀ x : Fin 16, 0 ≤ bt hexs (x.val : Int) ∧ bt hexs (x.val : Int) < 256 := by decide +kernel
  exact this ⟨m, by omega⟩
theorem quoted_bytes {l : List Int} (h : Bytes l) : Bytes (quotedL l) := by
  intro x hx
  unfold quotedL at hx
  rcases List.mem_cons.1 hx with rfl | hx
  · omega
  rcases List.mem_append.1 hx with hx | hx
  · obtain ⟨c, hc, hx⟩ := List.mem_flatMap.1 hx
    have hc := h c hc
    unfold qb at hx
    split at hx
    · simp only [List.mem_cons, List.not_mem_nil, or_false] at hx
      rcases hx with rfl | rfl | rfl
      · omega
      · exact bt_bytes _ (by omega)
      · exact bt_bytes _ (by omega)
    · simp only [List.mem_cons, List.not_mem_nil, or_false] at hx
      omega
  · simp at hx; omega
/-- Values of one kind have one text just if they are one. -/
theorem text_inj {u v : V} (hu : mayV u = true) (hv : mayV v = true) (hk : u.f0 = v.f0) (h : textV u = textV v) : u = v := by
  have a := may_kind hu
  have b := may_kind hv
  obtain ⟨k, n, s⟩ := u
  obtain ⟨k', n', s'⟩ := v
  dsimp only at a b hk
  subst hk
  unfold textV showS at h
  dsimp only at h
  rcases a with ⟨rfl, rfl, hs⟩ | ⟨rfl, hn, hs⟩ | ⟨rfl, hs⟩ | ⟨hk, rfl, hs⟩
  · have hn' : n' = 0 := by omega
    have hs' : s'.size = 0 := by omega
    rw [hn', bytesOf_inj (a := s) (b := s') (by rw [bytesOf_none hs, bytesOf_none hs'])]
  · have hn' : n' = 0 ∨ n' = 1 := by omega
    have hs' : s'.size = 0 := by omega
    have e := bytesOf_inj (a := s) (b := s') (by rw [bytesOf_none hs, bytesOf_none hs'])
    rw [if_neg (by omega), if_pos rfl, if_neg (by omega), if_pos rfl] at h
    have hd := congrArg (fun x => x.data.size) h
    rcases hn with rfl | rfl <;> rcases hn' with rfl | rfl
    · rw [e]
    · exact absurd hd (by decide)
    · exact absurd hd (by decide)
    · rw [e]
  · have hs' : s'.size = 0 := by omega
    have e := bytesOf_inj (a := s) (b := s') (by rw [bytesOf_none hs, bytesOf_none hs'])
    rw [if_neg (by omega), if_neg (by omega), if_pos rfl, if_neg (by omega), if_neg (by omega), if_pos rfl] at h
    have hd := congrArg (fun x => x.data.toList) h
    simp only [List.toList_toArray] at hd
    rw [itoa_inj hd, e]
  · have hn' : n' = 0 := by omega
    rw [if_neg (by omega), if_neg (by omega), if_neg (by omega), if_neg (by omega), if_neg (by omega), if_neg (by omega)] at h
    have h2 := strOf_inj (quoted_bytes (bytesOf_bytes s)) (quoted_bytes (bytesOf_bytes s')) (by rw [h])
    unfold quotedL at h2
    have h3 := quo_inj _ _ (bytesOf_bytes s) (bytesOf_bytes s') (List.cons.inj h2).2
    rw [hn', bytesOf_inj h3]
end Go.Proofs.YtaddlkokencbkaaDoor.VShow
