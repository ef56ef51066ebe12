/- Plain law: a key's values, and values' key. -/
import Derived.Test.YtaddlkokencbkaaDoorValues
import Derived.Test.YtaddlkokencbkaaDoorCmp3
namespace Go.Proofs.YtaddlkokencbkaaDoor.VPure
open Go.RowKit Go.Proofs.YtaddlkokencbkaaDoorW.PrintWords Go.Proofs.YtaddlkokencbkaaDoorW.PrintLast Go.Proofs.YtaddlkokencbkaaDoorW.PrintMore Go.Proofs.YtaddlkokencbkaaDoor.Q Go.Proofs.YtaddlkokencbkaaDoor.Text Go.Proofs.YtaddlkokencbkaaDoor.One Go.Proofs.YtaddlkokencbkaaDoor.May Go.Proofs.YtaddlkokencbkaaDoor.VKey Go.Proofs.YtaddlkokencbkaaDoor.VKeyW Go.Proofs.YtaddlkokencbkaaDoor.Values Go.Proofs.YtaddlkokencbkaaDoor.Plain Go.Proofs.YtaddlkokencbkaaDoor.OpenV Go.Proofs.YtaddlkokencbkaaDoor.VOrd
set_option linter.unusedVariables false
set_option linter.unusedSimpArgs false
def ints (l : List UInt8) : List Int := l.map fun b => (b.toNat : Int)
theorem bytesOf_ints (s : ByteArray) : bytesOf s = ints s.data.toList := rfl
theorem ints_mk (l : List UInt8) : bytesOf ⟨l.toArray⟩ = ints l := by
  rw [bytesOf_ints]
theorem u8_zero {c : UInt8} (h : (c.toNat : Int) = 0) : c = 0 := UInt8.toNat_inj.1 (by show c.toNat = 0; omega)
theorem u8_one {c : UInt8} (h : (c.toNat : Int) = 1) : c = 1 := UInt8.toNat_inj.1 (by show c.toNat = 1; omega)
theorem u8_255 {c : UInt8} (h : (c.toNat : Int) = 255) : c = 255 := UInt8.toNat_inj.1 (by show c.toNat = 255; omega)
theorem textP_sound : ∀ (m : Nat) (l t r : List UInt8), l.length ≤ m → textP l = some (t, r) → ints l = esc (ints t) ++ [0, 1] ++ ints r
  | m, [], _, _, _, h => by rw [textP_short (by simp)] at h; cases h
  | m, [_], _, _, _, h => by rw [textP_short (by simp)] at h; cases h
  | 0, _ :: _ :: _, _, _, hl, _ => by simp at hl
  | m + 1, c :: d :: l, t, r, hl, h => by
    rw [textP] at h
    have hl2 : (d :: l).length ≤ m := by simpa using hl
    split at h
    · rename_i hc
      subst hc
      split at h
      · rename_i hd
        subst hd
        simp only [Option.some.injEq, Prod.mk.injEq] at h
        obtain ⟨rfl, rfl⟩ := h
        simp [ints, esc]
      · split at h
        · rename_i hd
          subst hd
          obtain ⟨p, hp, e⟩ := Option.map_eq_some_iff.1 h
          simp only [Prod.mk.injEq] at e
          have := textP_sound m l p.1 p.2 (by simp at hl2; omega) hp
          rw [← e.1, ← e.2]
          unfold ints at this ⊢
          simp only [List.map_cons, esc]
          rw [this]
          simp
        · cases h
    · rename_i hc
      obtain ⟨p, hp, e⟩ := Option.map_eq_some_iff.1 h
      simp only [Prod.mk.injEq] at e
      have := textP_sound m (d :: l) p.1 p.2 hl2 hp
      rw [← e.1, ← e.2]
      have hn : (c.toNat : Int) ≠ 0 := fun e => hc (u8_zero e)
      unfold ints at this ⊢
      rw [List.map_cons, this, List.map_cons]
      simp only [esc]
      rw [if_neg hn]
      simp
theorem textP_full : ∀ (t r : List UInt8) (l : List UInt8), ints l = esc (ints t) ++ [0, 1] ++ ints r → textP l = some (t, r)
  | [], r, l, h => by
    match l, h with
    | [], h => simp [ints, esc] at h
    | [_], h => simp [ints, esc] at h
    | c :: d :: l, h =>
      simp only [ints, esc, List.map_nil, List.nil_append, List.map_cons, List.cons_append, List.cons.injEq] at h
      have h0 : c = 0 := u8_zero (by omega)
      have h1 : d = 1 := u8_one (by omega)
      have h2 : l = r := ints_inj h.2.2
      rw [textP, h0, h1, h2]
      simp
  | b :: t, r, l, h => by
    by_cases hb : b = 0
    · subst hb
      match l, h with
      | [], h => simp [ints, esc] at h
      | [_], h => simp [ints, esc] at h
      | c :: d :: l, h =>
        have h' : (c.toNat : Int) :: (d.toNat : Int) :: ints l = 0 :: 255 :: (esc (ints t) ++ [0, 1] ++ ints r) := h
        simp only [List.cons.injEq] at h'
        have h0 : c = 0 := u8_zero (by omega)
        have h1 : d = 255 := u8_255 (by omega)
        have ih := textP_full t r l h'.2.2
        rw [textP, h0, h1, ih]
        simp
    · have hn : (b.toNat : Int) ≠ 0 := fun e => hb (u8_zero e)
      have e : esc (ints (b :: t)) = (b.toNat : Int) :: esc (ints t) := by
        unfold ints
        simp only [List.map_cons, esc]
        rw [if_neg hn]
      rw [e] at h
      match l, h with
      | [], h => simp [ints] at h
      | [c], h =>
        have h' : (c.toNat : Int) :: [] = (b.toNat : Int) :: (esc (ints t) ++ [0, 1] ++ ints r) := h
        simp only [List.cons.injEq] at h'
        have := congrArg List.length h'.2
        simp at this
      | c :: d :: l, h =>
        have h' : (c.toNat : Int) :: ints (d :: l) = (b.toNat : Int) :: (esc (ints t) ++ [0, 1] ++ ints r) := h
        simp only [List.cons.injEq] at h'
        have h0 : c = b := UInt8.toNat_inj.1 (by omega)
        have ih := textP_full t r (d :: l) h'.2
        rw [textP, h0, ih, if_neg hb]
        rfl
where
  ints_inj {a b : List UInt8} (h : ints a = ints b) : a = b := by
    have := congrArg (List.map fun n : Int => UInt8.ofNat n.toNat) h
    simpa [ints, List.map_map, Function.comp_def] using this
theorem be8_numL (l : List Int) (h : l.length = 8) (hb : Bytes l) : be8 (numL l) = l := by
  match l, h with
  | [a, b, c, d, e, f, g, i], _ =>
    have h0 := hb a (by simp)
    have h1 := hb b (by simp)
    have h2 := hb c (by simp)
    have h3 := hb d (by simp)
    have h4 := hb e (by simp)
    have h5 := hb f (by simp)
    have h6 := hb g (by simp)
    have h7 := hb i (by simp)
    unfold be8 numL
    simp only [List.foldl_cons, List.foldl_nil]
    simp only [List.cons.injEq, and_true]
    clear hb
    refine ⟨?_, ?_, ?_, ?_, ?_, ?_, ?_, ?_⟩ <;> omega
theorem numL_be8 (x : Int) (h0 : 0 ≤ x) (h1 : x < 18446744073709551616) : numL (be8 x) = x := by
  unfold be8 numL
  simp only [List.foldl_cons, List.foldl_nil]
  omega
theorem bytes_extract (s : ByteArray) (n : Nat) : bytesOf (s.extract n s.size) = (bytesOf s).drop n := by
  rw [extract_drop, ints_mk, bytesOf_ints]
  unfold ints
  rw [List.map_drop]
theorem bytes_hd (s : ByteArray) (hz : 0 < s.size) : bytesOf s = ((hd s).toNat : Int) :: (bytesOf s).drop 1 := by
  have hlt : 0 < (bytesOf s).length := by rw [bytesOf_length]; exact hz
  have e : hd s = s[0]'hz := by unfold hd; rw [ByteArray.getElem?_lt' s 0 hz]; rfl
  have hb : (bytesOf s)[0] = bt s (0 : Int) := by
    rw [← rd_bytesOf]
    unfold rd
    simp [List.getD_eq_getElem?_getD, List.getElem?_eq_getElem hlt]
  have e2 : bt s 0 = ((hd s).toNat : Int) := by rw [e, ← bt_at s 0 hz]; rfl
  rw [← e2, ← hb]
  exact List.drop_eq_getElem_cons hlt
theorem hd_bt (s : ByteArray) (hz : 0 < s.size) : bytesOf s = bt s 0 :: (bytesOf s).drop 1 := by
  have e : hd s = s[0]'hz := by unfold hd; rw [ByteArray.getElem?_lt' s 0 hz]; rfl
  have e2 : bt s 0 = ((hd s).toNat : Int) := by rw [e, ← bt_at s 0 hz]; rfl
  rw [e2]
  exact bytes_hd s hz
/-- What is read of a key is written so. -/
theorem one_sound (s : ByteArray) (hz : 0 < s.size) (h : oneIs s = true) : bytesOf s = keyB (oneV s).f0 (oneV s).f1 (oneV s).f2 ++ bytesOf (oneRest s) := by
  unfold oneIs at h
  rw [Bool.and_eq_true] at h
  obtain ⟨h1, hm⟩ := h
  have hk := may_kind hm
  have hbs := bytes_hd s hz
  rw [← bytes_extract] at hbs
  rw [hbs]
  unfold oneRest
  unfold oneV at hk ⊢
  dsimp only at hk ⊢
  have kl := (hd s).toNat_lt
  generalize hd s = k at *
  generalize s.extract 1 s.size = r at *
  unfold keyB
  rw [show ((k.toNat : Int)) % 256 = (k.toNat : Int) by omega, List.cons_append]
  congr 1
  by_cases c1 : k.toNat = 1
  · have e : oneM k r = if r.size = 0 then (0, ⟨#[]⟩, r, false) else (bt r 0, ⟨#[]⟩, r.extract 1 r.size, true) := by unfold oneM; rw [if_pos c1]
    by_cases hr : r.size = 0
    · rw [e, if_pos hr] at h1; cases h1
    · rw [e, if_neg hr]
      dsimp only
      rw [if_pos (by omega), bytes_extract]
      have := bt_range r 0
      rw [show bt r 0 % 256 = bt r 0 by omega]
      exact hd_bt r (by omega)
  by_cases c2 : k.toNat = 2
  · have e : oneM k r = if 8 ≤ r.size then (numL ((bytesOf r).take 8) - 9223372036854775808, ⟨#[]⟩, r.extract 8 r.size, true) else (0, ⟨#[]⟩, r, false) := by unfold oneM; rw [if_neg c1, if_pos c2]
    by_cases hr : 8 ≤ r.size
    · rw [e, if_pos hr]
      dsimp only
      have hl : ((bytesOf r).take 8).length = 8 := by rw [List.length_take, bytesOf_length]; omega
      have hb : Bytes ((bytesOf r).take 8) := fun x hx => bytesOf_bytes r x (List.mem_of_mem_take hx)
      have hn := numL_range 8 _ hl hb
      rw [if_neg (by omega), if_pos (by omega), bytes_extract, up_of (by unfold RangeI; omega), Int.sub_add_cancel, be8_numL _ hl hb, List.take_append_drop]
    · rw [e, if_neg hr] at h1; cases h1
  by_cases c3 : k.toNat = 3 ∨ k.toNat = 4
  · cases ht : textP r.data.toList with
    | none =>
      have e : oneM k r = (0, ⟨#[]⟩, ⟨#[]⟩, false) := by unfold oneM; rw [if_neg c1, if_neg c2, if_pos c3, ht]
      rw [e] at h1; cases h1
    | some p =>
      have e : oneM k r = (0, ⟨p.1.toArray⟩, ⟨p.2.toArray⟩, true) := by unfold oneM; rw [if_neg c1, if_neg c2, if_pos c3, ht]
      rw [e]
      dsimp only
      rw [if_neg (by omega), if_neg (by omega), if_pos (by omega), ints_mk, ints_mk, bytesOf_ints]
      exact textP_sound _ _ p.1 p.2 (Nat.le_refl _) ht
  · have e : oneM k r = (0, ⟨#[]⟩, r, true) := by unfold oneM; rw [if_neg c1, if_neg c2, if_neg c3]
    rw [e]
    dsimp only
    rw [if_neg (by omega), if_neg (by omega), if_neg (by omega)]
    rfl
theorem vals_sound : ∀ (m : Nat) (s : ByteArray) (l : List V), s.size ≤ m → valsP m s = some l → bytesOf s = kb l ∧ ∀ v ∈ l, mayV v = true
  | 0, s, l, hs, h => by
    simp only [valsP, Option.some.injEq] at h
    subst h
    exact ⟨bytesOf_none (by omega), fun v hv => by cases hv⟩
  | m + 1, s, l, hs, h => by
    rw [valsP] at h
    by_cases hz : s.size = 0
    · rw [if_pos hz] at h
      obtain rfl := Option.some.inj h
      exact ⟨bytesOf_none hz, fun v hv => by cases hv⟩
    · rw [if_neg hz] at h
      by_cases hi : oneIs s = true
      · rw [if_pos hi] at h
        obtain ⟨q, hq, rfl⟩ := Option.map_eq_some_iff.1 h
        have hlt := rest_lt s (by omega)
        obtain ⟨e1, e2⟩ := vals_sound m (oneRest s) q (by omega) hq
        refine ⟨by rw [one_sound s (by omega) hi, e1]; simp [kb], fun v hv => ?_⟩
        rcases List.mem_cons.1 hv with rfl | hv
        · unfold oneIs at hi
          rw [Bool.and_eq_true] at hi
          exact hi.2
        · exact e2 v hv
      · rw [if_neg hi] at h; cases h
theorem ofNums_extract {l : List Int} (h : Bytes l) (n : Nat) : (strOfNums l).extract n (strOfNums l).size = strOfNums (l.drop n) := by
  rw [← ofNums_bytesOf ((strOfNums l).extract n (strOfNums l).size), bytes_extract, bytesOf_ofNums h]
theorem bt_ofNums {c : Int} {l : List Int} (h : Bytes (c :: l)) : bt (strOfNums (c :: l)) 0 = c := by
  have := hd_bt (strOfNums (c :: l)) (by rw [Cmp3.str_size]; simp)
  rw [bytesOf_ofNums h] at this
  exact (List.cons.inj this).1.symm
/-- What is written of a value is read as it was. -/
theorem one_full (v : V) (R : List Int) (hR : Bytes R) (hm : mayV v = true) (hr : RangeI v.f1) :
    oneV (strOfNums (keyB v.f0 v.f1 v.f2 ++ R)) = v ∧ oneRest (strOfNums (keyB v.f0 v.f1 v.f2 ++ R)) = strOfNums R ∧ oneIs (strOfNums (keyB v.f0 v.f1 v.f2 ++ R)) = true := by
  have hk := may_kind hm
  have hB : Bytes (keyB v.f0 v.f1 v.f2 ++ R) := (Cmp3.keyB_bytes _ _ _).append hR
  obtain ⟨k, n, t⟩ := v
  dsimp only at hk hr hB ⊢
  have hk4 : 0 ≤ k ∧ k ≤ 4 := by omega
  obtain ⟨L, hL⟩ : ∃ L, keyB k n t ++ R = k :: L ∧ L = (if k = 1 then [n % 256] else if k = 2 then be8 (up n) else if k = 3 ∨ k = 4 then esc (bytesOf t) ++ [0, 1] else []) ++ R := by
    refine ⟨_, ?_, rfl⟩
    unfold keyB
    rw [List.cons_append, show k % 256 = k by omega]
  obtain ⟨hL, hLe⟩ := hL
  rw [hL] at hB ⊢
  have hBL : Bytes L := fun x hx => hB x (List.mem_cons_of_mem _ hx)
  have hx := ofNums_extract hB 1
  rw [List.drop_one, List.tail_cons] at hx
  have hhd : (hd (strOfNums (k :: L))).toNat = k.toNat := by
    have h1 := bytes_hd (strOfNums (k :: L)) (by rw [Cmp3.str_size]; simp)
    rw [bytesOf_ofNums hB] at h1
    have := (List.cons.inj h1).1
    omega
  have key : ∀ rest, oneM (hd (strOfNums (k :: L))) (strOfNums L) = (n, t, rest, true) → rest = strOfNums R →
      oneV (strOfNums (k :: L)) = ⟨k, n, t⟩ ∧ oneRest (strOfNums (k :: L)) = strOfNums R ∧ oneIs (strOfNums (k :: L)) = true := by
    intro rest e1 e2
    have ev : oneV (strOfNums (k :: L)) = ⟨k, n, t⟩ := by
      unfold oneV
      rw [hx, e1, hhd, show ((k.toNat : Nat) : Int) = k by omega]
    refine ⟨ev, ?_, ?_⟩
    · unfold oneRest
      rw [hx, e1]
      exact e2
    · unfold oneIs
      rw [hx, e1, ev, hm]
      rfl
  clear hx
  generalize hd (strOfNums (k :: L)) = K at *
  rcases hk with ⟨rfl, rfl, hs⟩ | ⟨rfl, hn, hs⟩ | ⟨rfl, hs⟩ | ⟨hk, rfl, hs⟩
  · have ht : t = ⟨#[]⟩ := bytesOf_inj (by rw [bytesOf_none hs]; rfl)
    refine key (strOfNums L) ?_ (by rw [hLe]; rfl)
    unfold oneM
    rw [if_neg (by omega), if_neg (by omega), if_neg (by omega), ht]
  · have ht : t = ⟨#[]⟩ := bytesOf_inj (by rw [bytesOf_none hs]; rfl)
    rw [if_pos rfl, List.singleton_append, show n % 256 = n by omega] at hLe
    have hne : ¬ (strOfNums L).size = 0 := by rw [Cmp3.str_size, hLe]; simp
    refine key ((strOfNums L).extract 1 (strOfNums L).size) ?_ (by rw [ofNums_extract hBL, hLe]; rfl)
    unfold oneM
    rw [if_pos (by omega), if_neg hne, ht]
    rw [hLe] at hBL ⊢
    rw [bt_ofNums hBL]
  · have ht : t = ⟨#[]⟩ := bytesOf_inj (by rw [bytesOf_none hs]; rfl)
    rw [if_neg (by omega), if_pos rfl] at hLe
    have h8 : (be8 (up n)).length = 8 := rfl
    have hsz : 8 ≤ (strOfNums L).size := by rw [Cmp3.str_size, hLe, List.length_append, h8]; omega
    refine key ((strOfNums L).extract 8 (strOfNums L).size) ?_ (by rw [ofNums_extract hBL, hLe, ← h8, List.drop_left])
    unfold oneM
    rw [if_neg (by omega), if_pos (by omega), if_pos hsz, ht, bytesOf_ofNums hBL]
    rw [hLe, ← h8, List.take_left, up_of hr, numL_be8 _ (by unfold RangeI at hr; omega) (by unfold RangeI at hr; omega)]
    congr 1
    omega
  · rw [if_neg (by omega), if_neg (by omega), if_pos hk] at hLe
    obtain ⟨RL, hRL⟩ : ∃ RL : List UInt8, ints RL = R := ⟨(strOfNums R).data.toList, by rw [← bytesOf_ints, bytesOf_ofNums hR]⟩
    have hte : textP (strOfNums L).data.toList = some (t.data.toList, RL) := textP_full _ _ _ (by rw [← bytesOf_ints, bytesOf_ofNums hBL, hLe, hRL, bytesOf_ints])
    refine key ⟨RL.toArray⟩ ?_ ?_
    · unfold oneM
      rw [if_neg (by omega), if_neg (by omega), if_pos (by omega), hte]
    · apply bytesOf_inj
      rw [ints_mk, hRL, bytesOf_ofNums hR]
theorem vals_full : ∀ (l : List V) (m : Nat), Fine l → (kb l).length ≤ m → valsP m (strOfNums (kb l)) = some l
  | [], 0, _, _ => rfl
  | [], m + 1, _, _ => by
    rw [valsP, if_pos (by rw [Cmp3.str_size]; rfl)]
  | v :: l, m, hf, hm => by
    have e : kb (v :: l) = keyB v.f0 v.f1 v.f2 ++ kb l := by simp [kb]
    rw [e] at hm ⊢
    have hl : 1 ≤ (keyB v.f0 v.f1 v.f2).length := by unfold keyB; simp
    rw [List.length_append] at hm
    obtain ⟨m, rfl⟩ : ∃ q, m = q + 1 := ⟨m - 1, by omega⟩
    obtain ⟨e1, e2, e3⟩ := one_full v (kb l) (Cmp3.kb_bytes l) (hf v (by simp)).1 (hf v (by simp)).2
    have ih := vals_full l m (fun u hu => hf u (List.mem_cons_of_mem _ hu)) (by omega)
    rw [valsP, if_neg (by rw [Cmp3.str_size, List.length_append]; omega), if_pos e3, e2, ih, e1]
    rfl
end Go.Proofs.YtaddlkokencbkaaDoor.VPure
