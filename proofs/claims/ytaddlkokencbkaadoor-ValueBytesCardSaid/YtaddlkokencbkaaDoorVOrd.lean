/- Plain law: the order of keys is the order of values. -/
import Derived.Test.YtaddlkokencbkaaDoorVals
import Derived.Test.YtaddlkokencbkaaDoorPlain
import Derived.Test.YtaddlkokencbkaaDoorQ34
namespace Go.Proofs.YtaddlkokencbkaaDoor.VOrd
open Go.RowKit Go.Lib Go.Proofs.YtaddlkokencbkaaDoorW.PrintWords Go.Proofs.YtaddlkokencbkaaDoorW.PrintLast Go.Proofs.YtaddlkokencbkaaDoorW.PrintMore Go.Proofs.YtaddlkokencbkaaDoor.Q Go.Proofs.YtaddlkokencbkaaDoor.OpenV Go.Proofs.YtaddlkokencbkaaDoor.May Go.Proofs.YtaddlkokencbkaaDoor.VKeyW Go.Proofs.YtaddlkokencbkaaDoor.VKey Go.Proofs.YtaddlkokencbkaaDoor.Vals Go.Proofs.YtaddlkokencbkaaDoor.Plain
set_option linter.unusedVariables false
set_option linter.unusedSimpArgs false
/-- The first difference of two lists: -1, 0, 1. -/
def D : List Int → List Int → Int
  | a :: s, b :: t => if a < b then -1 else if b < a then 1 else D s t
  | _, _ => 0
/-- The order of two lists. -/
def L : List Int → List Int → Int
  | [], [] => 0
  | [], _ :: _ => -1
  | _ :: _, [] => 1
  | a :: s, b :: t => if a < b then -1 else if b < a then 1 else L s t
theorem D_nil (l : List Int) : D l [] = 0 := by cases l <;> rfl
theorem D_same : ∀ k s t : List Int, D (k ++ s) (k ++ t) = D s t
  | [], s, t => rfl
  | a :: k, s, t => by
    simp only [List.cons_append, D]
    rw [if_neg (by omega), if_neg (by omega)]
    exact D_same k s t
theorem D_app : ∀ a b s t : List Int, D a b ≠ 0 → D (a ++ s) (b ++ t) = D a b
  | [], _, _, _, h => absurd rfl h
  | a :: l, [], _, _, h => absurd rfl h
  | a :: l, b :: m, s, t, h => by
    simp only [List.cons_append, D] at h ⊢
    by_cases c : a < b
    · rw [if_pos c, if_pos c]
    · rw [if_neg c] at h
      rw [if_neg c, if_neg c]
      by_cases d : b < a
      · rw [if_pos d, if_pos d]
      · rw [if_neg d] at h
        rw [if_neg d, if_neg d]
        exact D_app l m s t h
theorem L_D : ∀ a b : List Int, L a b = if D a b = 0 then (if a.length < b.length then -1 else if b.length < a.length then 1 else 0) else D a b
  | [], [] => rfl
  | [], _ :: _ => by simp [L, D]
  | _ :: _, [] => by simp [L, D]
  | a :: s, b :: t => by
    have ih := L_D s t
    by_cases c : a < b
    · simp [L, D, c]
    · by_cases d : b < a
      · simp [L, D, c, d]
      · simp only [L, D, if_neg c, if_neg d, List.length_cons, Nat.add_lt_add_iff_right]
        exact ih
theorem L_zero : ∀ a b : List Int, L a b = 0 → a = b
  | [], [], _ => rfl
  | [], _ :: _, h => by simp [L] at h
  | _ :: _, [], h => by simp [L] at h
  | a :: s, b :: t, h => by
    simp only [L] at h
    by_cases c : a < b
    · rw [if_pos c] at h; omega
    · rw [if_neg c] at h
      by_cases d : b < a
      · rw [if_pos d] at h; omega
      · rw [if_neg d] at h
        rw [L_zero s t h, show a = b by omega]
theorem L_self : ∀ a : List Int, L a a = 0
  | [] => rfl
  | a :: s => by simp only [L]; rw [if_neg (by omega), if_neg (by omega)]; exact L_self s
theorem L_three : ∀ a b : List Int, L a b = -1 ∨ L a b = 0 ∨ L a b = 1
  | [], [] => .inr (.inl rfl)
  | [], _ :: _ => .inl rfl
  | _ :: _, [] => .inr (.inr rfl)
  | a :: s, b :: t => by
    simp only [L]
    by_cases c : a < b
    · rw [if_pos c]; exact .inl rfl
    · rw [if_neg c]
      by_cases d : b < a
      · rw [if_pos d]; exact .inr (.inr rfl)
      · rw [if_neg d]; exact L_three s t
theorem L_anti : ∀ a b : List Int, L b a = -(L a b)
  | [], [] => rfl
  | [], _ :: _ => rfl
  | _ :: _, [] => rfl
  | a :: s, b :: t => by
    simp only [L]
    have ih := L_anti s t
    by_cases c : a < b
    · simp [c, show ¬ b < a by omega]
    · by_cases d : b < a
      · simp [c, d]
      · simp [c, d, ih]
/-- Escaped texts stand in the order of the texts. -/
theorem D_esc : ∀ a b : List Int, Bytes a → Bytes b → D (esc a ++ [0, 1]) (esc b ++ [0, 1]) = L a b
  | [], [], _, _ => rfl
  | [], d :: b, _, hb => by
    have hd := hb d (by simp)
    simp only [esc, L, List.nil_append]
    by_cases d0 : d = 0
    · rw [if_pos d0]
      simp [D]
    · rw [if_neg d0]
      simp only [List.cons_append, D]
      rw [if_pos (by omega)]
  | c :: a, [], ha, _ => by
    have hd := ha c (by simp)
    simp only [esc, L, List.nil_append]
    by_cases d0 : c = 0
    · rw [if_pos d0]
      simp [D]
    · rw [if_neg d0]
      simp only [List.cons_append, D]
      rw [if_neg (by omega), if_pos (by omega)]
  | c :: a, d :: b, ha, hb => by
    have hc := ha c (by simp)
    have hd := hb d (by simp)
    have ih := D_esc a b (fun x hx => ha x (List.mem_cons_of_mem _ hx)) (fun x hx => hb x (List.mem_cons_of_mem _ hx))
    simp only [esc, L]
    by_cases c0 : c = 0
    · by_cases d0 : d = 0
      · rw [if_pos c0, if_pos d0, if_neg (by omega), if_neg (by omega)]
        simp only [List.cons_append, D]
        rw [if_neg (by omega), if_neg (by omega), if_neg (by omega), if_neg (by omega)]
        exact ih
      · rw [if_pos c0, if_neg d0, if_pos (by omega)]
        simp only [List.cons_append, D]
        rw [if_pos (by omega)]
    · by_cases d0 : d = 0
      · rw [if_neg c0, if_pos d0, if_neg (by omega), if_pos (by omega)]
        simp only [List.cons_append, D]
        rw [if_neg (by omega), if_pos (by omega)]
      · rw [if_neg c0, if_neg d0]
        simp only [List.cons_append, D]
        rw [ih]
theorem D_self (a : List Int) : D a a = 0 := by
  have := D_same a [] []
  rw [List.append_nil] at this
  exact this
theorem D_cons (a b : Int) (s t : List Int) : D (a :: s) (b :: t) = if a < b then -1 else if b < a then 1 else D s t := rfl
theorem D_step (x y m : Int) (s t : List Int) (hm : 0 < m) (h : x < y) (hq : x / m / 256 = y / m / 256) (k : x / m = y / m → D s t = -1) : D ((x / m % 256) :: s) ((y / m % 256) :: t) = -1 := by
  have le : x / m ≤ y / m := Int.ediv_le_ediv hm (by omega)
  rw [D_cons]
  generalize x / m = X at *
  generalize y / m = Y at *
  by_cases c : X < Y
  · rw [if_pos (by omega)]
  · obtain rfl : X = Y := by omega
    rw [if_neg (by omega), if_neg (by omega)]
    exact k rfl
theorem D_lt (x y : Int) (hx0 : 0 ≤ x) (hy1 : y < 18446744073709551616) (h : x < y) : D (be8 x) (be8 y) = -1 := by
  unfold be8
  refine D_step x y 72057594037927936 _ _ (by decide) h (by omega) fun e => ?_
  clear hx0 hy1
  refine D_step x y 281474976710656 _ _ (by decide) h (by omega) fun e1 => ?_
  clear e
  refine D_step x y 1099511627776 _ _ (by decide) h (by omega) fun e2 => ?_
  clear e1
  refine D_step x y 4294967296 _ _ (by decide) h (by omega) fun e3 => ?_
  clear e2
  refine D_step x y 16777216 _ _ (by decide) h (by omega) fun e4 => ?_
  clear e3
  refine D_step x y 65536 _ _ (by decide) h (by omega) fun e5 => ?_
  clear e4
  refine D_step x y 256 _ _ (by decide) h (by omega) fun e6 => ?_
  clear e5
  rw [D_cons, if_pos (by omega)]
theorem D_anti : ∀ a b : List Int, D b a = -(D a b)
  | [], b => by cases b <;> rfl
  | _ :: _, [] => rfl
  | a :: s, b :: t => by
    have ih := D_anti s t
    simp only [D]
    by_cases c : a < b
    · simp [c, show ¬ b < a by omega]
    · by_cases d : b < a
      · simp [c, d]
      · simp [c, d, ih]
theorem D_be8 (x y : Int) (hx0 : 0 ≤ x) (hx1 : x < 18446744073709551616) (hy0 : 0 ≤ y) (hy1 : y < 18446744073709551616) : D (be8 x) (be8 y) = if x < y then -1 else if y < x then 1 else 0 := by
  by_cases c : x < y
  · rw [if_pos c]; exact D_lt x y hx0 hy1 c
  by_cases d : y < x
  · rw [if_neg c, if_pos d, D_anti, D_lt y x hy0 hx1 d]; rfl
  · obtain rfl : x = y := by omega
    rw [if_neg c, if_neg d, D_self]
/-- The order of two values. -/
def C (u v : V) : Int := if u.f0 < v.f0 then -1 else if v.f0 < u.f0 then 1 else if u.f1 < v.f1 then -1 else if v.f1 < u.f1 then 1 else L (bytesOf u.f2) (bytesOf v.f2)
theorem C_three (u v : V) : C u v = -1 ∨ C u v = 0 ∨ C u v = 1 := by
  unfold C
  repeat' split
  all_goals first | exact .inl rfl | exact .inr (.inr rfl) | exact L_three _ _
theorem C_anti (u v : V) : C v u = -(C u v) := by
  unfold C
  rw [L_anti]
  repeat' split
  all_goals first | rfl | (exfalso; omega)
theorem bytesOf_inj {a b : ByteArray} (h : bytesOf a = bytesOf b) : a = b := by rw [← ofNums_bytesOf a, ← ofNums_bytesOf b, h]
theorem C_zero {u v : V} (h : C u v = 0) : u = v := by
  obtain ⟨a, b, c⟩ := u
  obtain ⟨a', b', c'⟩ := v
  unfold C at h
  dsimp only at h
  split at h
  · omega
  split at h
  · omega
  split at h
  · omega
  split at h
  · omega
  have h1 := bytesOf_inj (L_zero _ _ h)
  obtain rfl : a = a' := by omega
  obtain rfl : b = b' := by omega
  rw [h1]
theorem C_self (u : V) : C u u = 0 := by
  unfold C
  rw [if_neg (by omega), if_neg (by omega), if_neg (by omega), if_neg (by omega)]
  exact L_self _
/-- What a value that may be is. -/
theorem may_kind {k n : Int} {s : ByteArray} (h : mayB k n s = true) : (k = 0 ∧ n = 0 ∧ s.size = 0) ∨ (k = 1 ∧ (n = 0 ∨ n = 1) ∧ s.size = 0) ∨ (k = 2 ∧ s.size = 0) ∨ ((k = 3 ∨ k = 4) ∧ n = 0 ∧ s.size ≤ 4096) := by
  unfold mayB at h
  simp only [isEmpty_iff] at h
  by_cases c0 : k = 0
  · rw [if_pos c0] at h; simp at h; exact .inl ⟨c0, by simpa using h⟩
  rw [if_neg c0] at h
  by_cases c1 : k = 1
  · rw [if_pos c1] at h; simp at h; exact .inr (.inl ⟨c1, by simpa using h⟩)
  rw [if_neg c1] at h
  by_cases c2 : k = 2
  · rw [if_pos c2] at h; simp at h; exact .inr (.inr (.inl ⟨c2, by simpa using h⟩))
  rw [if_neg c2] at h
  by_cases c3 : k = 3
  · rw [if_pos c3] at h; simp at h; exact .inr (.inr (.inr ⟨.inl c3, by omega, by omega⟩))
  rw [if_neg c3] at h
  by_cases c4 : k = 4
  · rw [if_pos c4] at h; simp at h; exact .inr (.inr (.inr ⟨.inr c4, by omega, by omega⟩))
  · rw [if_neg c4] at h; cases h
theorem bytesOf_none {s : ByteArray} (h : s.size = 0) : bytesOf s = [] := List.eq_nil_of_length_eq_zero (by rw [bytesOf_length]; exact h)
theorem up_of {n : Int} (h : RangeI n) : up n = n + 9223372036854775808 := by
  unfold RangeI at h
  unfold up
  rw [IntKind.wrap_u64, IntKind.wrap_u64]
  omega
/-- Two values' keys differ first as the values do. -/
theorem D_key (u v : V) (hu : mayV u = true) (hv : mayV v = true) (ru : RangeI u.f1) (rv : RangeI v.f1) : D (keyB u.f0 u.f1 u.f2) (keyB v.f0 v.f1 v.f2) = C u v := by
  have a := may_kind hu
  have b := may_kind hv
  obtain ⟨k, n, s⟩ := u
  obtain ⟨k', n', s'⟩ := v
  dsimp only at a b ru rv ⊢
  unfold C keyB
  dsimp only
  have ek : k % 256 = k := by omega
  have ek' : k' % 256 = k' := by omega
  simp only [D, ek, ek']
  by_cases c : k < k'
  · rw [if_pos c, if_pos c]
  rw [if_neg c, if_neg c]
  by_cases d : k' < k
  · rw [if_pos d, if_pos d]
  rw [if_neg d, if_neg d]
  obtain rfl : k = k' := by omega
  rcases a with ⟨rfl, rfl, hs⟩ | ⟨rfl, hn, hs⟩ | ⟨rfl, hs⟩ | ⟨hk, rfl, hs⟩
  · have hn' : n' = 0 := by omega
    have hs' : s'.size = 0 := by omega
    rw [bytesOf_none hs, bytesOf_none hs', hn']
    rfl
  · have hs' : s'.size = 0 := by omega
    have hn' : n' = 0 ∨ n' = 1 := by omega
    rw [bytesOf_none hs, bytesOf_none hs', if_pos rfl, if_pos rfl]
    rcases hn with rfl | rfl <;> rcases hn' with rfl | rfl <;> rfl
  · have hs' : s'.size = 0 := by omega
    rw [bytesOf_none hs, bytesOf_none hs', if_neg (by omega), if_pos rfl, if_neg (by omega), if_pos rfl, up_of ru, up_of rv]
    unfold RangeI at ru rv
    rw [D_be8 _ _ (by omega) (by omega) (by omega) (by omega)]
    by_cases c : n < n'
    · rw [if_pos (by omega), if_pos c]
    rw [if_neg (by omega), if_neg c]
    by_cases d : n' < n
    · rw [if_pos (by omega), if_pos d]
    rw [if_neg (by omega), if_neg d]
    rfl
  · have hn' : n' = 0 := by omega
    subst hn'
    rw [if_neg (by omega), if_neg (by omega), if_pos hk, if_neg (by omega), if_neg (by omega), if_pos hk, if_neg (by omega), if_neg (by omega)]
    exact D_esc _ _ (bytesOf_bytes _) (bytesOf_bytes _)
/-- The order of two lists of values. -/
def W : List V → List V → Int
  | u :: x, v :: y => if C u v = 0 then W x y else C u v
  | _, _ => 0
theorem W_app : ∀ x y x' y' : List V, x.length = y.length → W (x ++ x') (y ++ y') = if W x y = 0 then W x' y' else W x y
  | [], [], _, _, _ => rfl
  | [], _ :: _, _, _, h => by simp at h
  | _ :: _, [], _, _, h => by simp at h
  | u :: x, v :: y, x', y', h => by
    simp only [List.cons_append, W]
    by_cases c : C u v = 0
    · simp only [if_pos c]
      exact W_app x y x' y' (by simpa using h)
    · simp only [if_neg c]
theorem W_zero : ∀ x y : List V, x.length = y.length → W x y = 0 → x = y
  | [], [], _, _ => rfl
  | [], _ :: _, h, _ => by simp at h
  | _ :: _, [], h, _ => by simp at h
  | u :: x, v :: y, h, hw => by
    simp only [W] at hw
    by_cases c : C u v = 0
    · rw [if_pos c] at hw
      rw [C_zero c, W_zero x y (by simpa using h) hw]
    · rw [if_neg c] at hw; exact absurd hw c
theorem W_three : ∀ x y : List V, W x y = -1 ∨ W x y = 0 ∨ W x y = 1
  | [], _ => .inr (.inl rfl)
  | _ :: _, [] => .inr (.inl rfl)
  | u :: x, v :: y => by
    simp only [W]
    split
    · exact W_three x y
    · exact C_three u v
def Fine (l : List V) : Prop := ∀ v ∈ l, mayV v = true ∧ RangeI v.f1
theorem W_D : ∀ x y : List V, x.length = y.length → Fine x → Fine y → D (kb x) (kb y) = W x y
  | [], [], _, _, _ => rfl
  | [], _ :: _, h, _, _ => by simp at h
  | _ :: _, [], h, _, _ => by simp at h
  | u :: x, v :: y, h, hx, hy => by
    have e : ∀ (v : V) l, kb (v :: l) = keyB v.f0 v.f1 v.f2 ++ kb l := fun v l => by simp [kb]
    have d := D_key u v (hx u (by simp)).1 (hy v (by simp)).1 (hx u (by simp)).2 (hy v (by simp)).2
    have ih := W_D x y (by simpa using h) (fun w hw => hx w (List.mem_cons_of_mem _ hw)) (fun w hw => hy w (List.mem_cons_of_mem _ hw))
    rw [e, e]
    simp only [W]
    by_cases c : C u v = 0
    · rw [if_pos c, ← ih]
      have : u = v := C_zero c
      rw [this, D_same]
    · rw [if_neg c, D_app _ _ _ _ (by rw [d]; exact c), d]
theorem gv_range (v : V) (h : RangeI v.f1) : RangeI (gv v).f1 := by
  unfold gv Good.goodV RangeI
  unfold RangeI at h
  dsimp only
  split
  · split <;> omega
  · split <;> omega
theorem goods_fine {l : List V} (ok : ∀ y ∈ l, OkV y) (m : Nat) : Fine (goodsL l m) := by
  intro u hu
  obtain ⟨v, hv, rfl⟩ := List.mem_map.1 hu
  have := ok v (List.mem_of_mem_take hv)
  exact ⟨gv_may this.1, gv_range v this.2⟩
/-- Go's order of texts. -/
theorem less_L (a b : List Int) (ha : Bytes a) (hb : Bytes b) : Op.bytesLess (strOfNums a).toList (strOfNums b).toList = decide (L a b = -1) := by
  rw [strOf_toList, strOf_toList]
  exact less_map a b ha hb
where
  less_map : ∀ a b : List Int, Bytes a → Bytes b → Op.bytesLess (a.map fun n => UInt8.ofNat n.toNat) (b.map fun n => UInt8.ofNat n.toNat) = decide (L a b = -1)
  | [], [], _, _ => rfl
  | [], _ :: _, _, _ => rfl
  | _ :: _, [], _, _ => rfl
  | a :: s, b :: t, ha, hb => by
    have h1 := ha a (by simp)
    have h2 := hb b (by simp)
    have ih := less_map s t (fun x hx => ha x (List.mem_cons_of_mem _ hx)) (fun x hx => hb x (List.mem_cons_of_mem _ hx))
    have n1 : (UInt8.ofNat a.toNat).toNat = a.toNat := by simp [UInt8.toNat_ofNat']; omega
    have n2 : (UInt8.ofNat b.toNat).toNat = b.toNat := by simp [UInt8.toNat_ofNat']; omega
    simp only [List.map_cons, Op.bytesLess, L]
    rw [ih]
    by_cases c : a < b
    · have : UInt8.ofNat a.toNat < UInt8.ofNat b.toNat := by rw [UInt8.lt_iff_toNat_lt, n1, n2]; omega
      simp [this, c]
    · have : ¬ UInt8.ofNat a.toNat < UInt8.ofNat b.toNat := by rw [UInt8.lt_iff_toNat_lt, n1, n2]; omega
      by_cases d : b < a
      · have e : UInt8.ofNat a.toNat ≠ UInt8.ofNat b.toNat := fun e => by
          have := congrArg UInt8.toNat e
          rw [n1, n2] at this
          omega
        simp [this, c, d, e]
      · obtain rfl : a = b := by omega
        simp
end Go.Proofs.YtaddlkokencbkaaDoor.VOrd
