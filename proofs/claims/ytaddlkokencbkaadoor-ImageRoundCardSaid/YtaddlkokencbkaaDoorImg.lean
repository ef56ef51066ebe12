/- Plain laws of the references of schemas and rows, and of image.put: what the printed functions answer. -/
import Derived.Test.YtaddlkokencbkaaDoorGood
import Derived.Test.YtaddlkokencbkaaDoorQ3
import Derived.Test.YtaddlkokencbkaaDoorQ5
import Derived.Test.YtaddlkokencbkaaDoorQ6
import Derived.Test.YtaddlkokencbkaaDoorMBase
import Derived.Test.YtaddlkokencbkaaDoorOpenA
namespace Go.Proofs.YtaddlkokencbkaaDoor.Img
open Go.RowKit Go.Proofs.YtaddlkokencbkaaDoorW.PrintWords Go.Proofs.YtaddlkokencbkaaDoorW.PrintLast Go.Proofs.YtaddlkokencbkaaDoorW.PrintMore Go.Proofs.YtaddlkokencbkaaDoor.Q Go.Proofs.YtaddlkokencbkaaDoor.Plain Go.Proofs.YtaddlkokencbkaaDoor.Exact Go.Proofs.YtaddlkokencbkaaDoor.OpenA
set_option linter.unusedVariables false

theorem wrap_small {x : Int} (h0 : -9223372036854775808 ≤ x) (h1 : x ≤ 9223372036854775807) : wrap64 x = x := by unfold wrap64; omega

theorem ev_goal {α : Type} {g : Nat → Option α} {r : α} (K : Nat) (h : ∀ k, K ≤ k → g (k + 1) = some r) : Ev g r :=
  ⟨K + 1, fun k hk => by obtain ⟨j, rfl⟩ : ∃ j, k = j + 1 := ⟨k - 1, by omega⟩; exact h j (by omega)⟩

/-! Names, and where a name stands: they end. -/
def nameOk (c : Int) : Prop := (97 ≤ c ∧ c ≤ 122) ∨ (48 ≤ c ∧ c ≤ 57) ∨ c = 95
instance (c : Int) : Decidable (nameOk c) := by unfold nameOk; infer_instance
theorem name_step (k : Nat) (s : ByteArray) (i : Nat) (h : i < s.size) (hs : s.size ≤ 100) :
    pantographref04_Name.l0 (k + 1) s (i : Int) = if nameOk (bt s (i : Int)) then pantographref04_Name.l0 k s ((i + 1 : Nat) : Int) else some false := by
  have e : wrap64 ((i : Int) + 1) = ((i + 1 : Nat) : Int) := by unfold wrap64; omega
  simp only [pantographref04_Name.l0]
  rw [if_pos (show (i : Int) < (s.size : Int) by omega), if_pos (show (0 : Int) ≤ (i : Int) by omega), e]
  generalize bt s (i : Int) = c
  by_cases hc : nameOk c
  · rw [if_pos hc]
    unfold nameOk at hc
    repeat' split
    all_goals first | rfl | (exfalso; omega)
  · rw [if_neg hc]
    unfold nameOk at hc
    repeat' split
    all_goals first | rfl | (exfalso; omega)
theorem name_l0 (s : ByteArray) (hs : s.size ≤ 100) : ∀ (d i : Nat), s.size - i = d → i ≤ s.size → ∃ b, Ev (fun k => pantographref04_Name.l0 k s (i : Int)) b := by
  intro d
  induction d with
  | zero =>
    intro i hd hi
    refine ⟨true, Ev.step (f := fun _ => some true) (fun k => ?_) (Ev.now _)⟩
    simp only [pantographref04_Name.l0]
    rw [if_neg (by omega)]
  | succ d ih =>
    intro i hd hi
    obtain ⟨b, hb⟩ := ih (i + 1) (by omega) (by omega)
    by_cases hc : nameOk (bt s (i : Int))
    · exact ⟨b, Ev.step (fun k => by rw [name_step k s i (by omega) hs, if_pos hc]) hb⟩
    · exact ⟨false, Ev.step (f := fun _ => some false) (fun k => by rw [name_step k s i (by omega) hs, if_neg hc]) (Ev.now _)⟩
theorem name_f (s : ByteArray) : ∃ b, Ev (fun k => pantographref04_Name.f k s) b := by
  have fl : Ev (fun k => pantographref04_Name.j0 k s true) false := Ev.step (f := fun _ => some false) (fun k => by simp only [pantographref04_Name.j0]; rfl) (Ev.now _)
  by_cases h1 : (s.size : Int) < 1
  · exact ⟨false, Ev.congr (fun k => by unfold pantographref04_Name.f; rw [if_pos h1]) fl⟩
  · by_cases h2 : (s.size : Int) > 32
    · exact ⟨false, Ev.congr (fun k => by unfold pantographref04_Name.f; rw [if_neg h1, if_pos h2]) fl⟩
    · by_cases h3 : bt s 0 < 97
      · exact ⟨false, Ev.congr (fun k => by unfold pantographref04_Name.f; rw [if_neg h1, if_neg h2, if_pos (by omega), if_pos h3]) fl⟩
      · by_cases h4 : bt s 0 > 122
        · exact ⟨false, Ev.congr (fun k => by unfold pantographref04_Name.f; rw [if_neg h1, if_neg h2, if_pos (by omega), if_neg h3, decide_eq_true h4]) fl⟩
        · obtain ⟨b, hb⟩ := name_l0 s (by omega) s.size 0 (by omega) (by omega)
          exact ⟨b, Ev.congr (fun k => by unfold pantographref04_Name.f; rw [if_neg h1, if_neg h2, if_pos (by omega), if_neg h3, decide_eq_false h4]) (Ev.step (fun k => by simp only [pantographref04_Name.j0]; rfl) hb)⟩

theorem find_l0 (l : List S69) (a : Int) (s : ByteArray) (hl : l.length ≤ 1000) : ∀ (d i : Nat), l.length - i = d → i ≤ l.length → ∃ r, Ev (fun k => pantographref04_Find.l0 k s (i : Int) l a) r := by
  intro d
  induction d with
  | zero =>
    intro i hd hi
    refine ⟨-1, Ev.step (f := fun _ => some (-1)) (fun k => ?_) (Ev.now _)⟩
    simp only [pantographref04_Find.l0]
    rw [if_neg (by omega)]
  | succ d ih =>
    intro i hd hi
    obtain ⟨b, hb⟩ := ih (i + 1) (by omega) (by omega)
    have e : wrap64 ((i : Int) + 1) = ((i + 1 : Nat) : Int) := by unfold wrap64; omega
    by_cases hc : ((rd_T69 l (i : Int)).f0).toList = s.toList
    · exact ⟨i, Ev.step (f := fun _ => some (i : Int)) (fun k => by simp only [pantographref04_Find.l0]; rw [if_pos (by omega), if_pos (by omega), if_pos hc]) (Ev.now _)⟩
    · exact ⟨b, Ev.step (fun k => by simp only [pantographref04_Find.l0]; rw [if_pos (by omega), if_pos (by omega), if_neg hc, e]) hb⟩
theorem find_f (l : List S69) (a : Int) (s : ByteArray) (hl : l.length ≤ 1000) : ∃ r, Ev (fun k => pantographref04_Find.f k l a s) r := by
  obtain ⟨r, hr⟩ := find_l0 l a s hl l.length 0 (by omega) (by omega)
  exact ⟨r, Ev.congr (fun k => by unfold pantographref04_Find.f; rfl) hr⟩

/-! A schema that may be, made of any. -/
structure GoodS (l : List S69) (keys : Int) : Prop where
  some_ : 1 ≤ l.length
  few : l.length ≤ 6
  kinds : ∀ c ∈ l, 1 ≤ c.f1 ∧ c.f1 ≤ 4
  k1 : 1 ≤ keys
  k3 : keys ≤ 3
  kn : keys ≤ l.length
  none_ : ∀ i : Nat, (i : Int) < keys → (rd_T69 l (i : Int)).f2 = false
def KindsOk (l : List S69) : Prop := ∀ c ∈ l, 1 ≤ c.f1 ∧ c.f1 ≤ 4
theorem KindsOk.snoc {l : List S69} (h : KindsOk l) {c : S69} (hc : 1 ≤ c.f1 ∧ c.f1 ≤ 4) : KindsOk (l ++ [c]) := fun x hx => by
  rcases List.mem_append.1 hx with hx | hx
  · exact h x hx
  · rw [List.mem_singleton.1 hx]; exact hc

theorem rd_set_same (l : List S69) (i : Nat) (c : S69) (h : i < l.length) : rd_T69 (l.set i c) (i : Int) = c := by
  unfold rd_T69
  simp [List.getD_eq_getElem?_getD, h]
theorem rd_set_other (l : List S69) (i j : Nat) (c : S69) (h : i ≠ j) : rd_T69 (l.set i c) (j : Int) = rd_T69 l (j : Int) := by
  unfold rd_T69
  simp [List.getD_eq_getElem?_getD, List.getElem?_set_ne h]
theorem rd_mem (l : List S69) (i : Nat) (h : i < l.length) : rd_T69 l (i : Int) ∈ l := by
  unfold rd_T69
  simp [List.getD_eq_getElem?_getD, h]

theorem good_l1 (keys : Nat) (h1 : 1 ≤ keys) (h3 : keys ≤ 3) : ∀ (d i : Nat) (l : List S69), keys - i = d → i ≤ keys → KindsOk l → 1 ≤ l.length → l.length ≤ 6 → keys ≤ l.length → (∀ j : Nat, j < i → (rd_T69 l (j : Int)).f2 = false) →
    ∃ l', Ev (fun k => pantographref04_Good.l1 k (i : Int) l (keys : Int)) (l', (keys : Int)) ∧ GoodS l' (keys : Int) := by
  intro d
  induction d with
  | zero =>
    intro i l hd hi hk hl1 hl6 hkl hn
    refine ⟨l, Ev.step (f := fun _ => some (l, (keys : Int))) (fun k => ?_) (Ev.now _), ⟨hl1, hl6, hk, by omega, by omega, by omega, fun j hj => hn j (by omega)⟩⟩
    simp only [pantographref04_Good.l1]
    rw [if_neg (by omega)]
  | succ d ih =>
    intro i l hd hi hk hl1 hl6 hkl hn
    have e : wrap64 ((i : Int) + 1) = ((i + 1 : Nat) : Int) := by unfold wrap64; omega
    have hmem := hk _ (rd_mem l i (by omega))
    obtain ⟨l', h1, h2⟩ := ih (i + 1) (l.set i ⟨(rd_T69 l (i : Int)).f0, (rd_T69 l (i : Int)).f1, false⟩) (by omega) (by omega) (fun c hc => by
      rcases List.mem_or_eq_of_mem_set hc with hc | rfl
      · exact hk c hc
      · exact hmem) (by simpa using hl1) (by simpa using hl6) (by simpa using hkl) (fun j hj => by
        by_cases hji : j = i
        · subst hji
          rw [rd_set_same l j _ (by omega)]
        · rw [rd_set_other l i j _ (fun h => hji h.symm)]
          exact hn j (by omega))
    refine ⟨l', Ev.step (fun k => ?_) h1, h2⟩
    simp only [pantographref04_Good.l1]
    rw [if_pos (by omega), if_pos (by omega), if_pos (by omega), e, Int.toNat_natCast]

theorem good_j4 (l0 : List S69) (a : Int) (ha : RangeI a) (l : List S69) (x : Int) (hk : KindsOk l) (hl1 : 1 ≤ l.length) (hl6 : l.length ≤ 6) :
    ∃ l' keys, Ev (fun k => pantographref04_Good.j4 k l0 a l x) (l', keys) ∧ GoodS l' keys := by
  unfold RangeI at ha
  have hm : 1 ≤ mn (l.length : Int) 3 ∧ mn (l.length : Int) 3 ≤ 3 ∧ mn (l.length : Int) 3 ≤ l.length := by unfold mn; omega
  have j5 : ∀ y : Int, 0 ≤ y → y ≤ 9223372036854775807 → ∃ l' keys, Ev (fun k => pantographref04_Good.j5 k y l x) (l', keys) ∧ GoodS l' keys := by
    intro y h0 h1
    have hmod : 0 ≤ Int.tmod y (mn (l.length : Int) 3) ∧ Int.tmod y (mn (l.length : Int) 3) < mn (l.length : Int) 3 := by
      rw [Int.tmod_eq_emod_of_nonneg h0]
      exact ⟨Int.emod_nonneg _ (by omega), Int.emod_lt_of_pos _ (by omega)⟩
    generalize hq : Int.tmod y (mn (l.length : Int) 3) = q at *
    obtain ⟨keys, hkeys⟩ : ∃ n : Nat, (n : Int) = 1 + q := ⟨(1 + q).toNat, by omega⟩
    have e : wrap64 (1 + q) = (keys : Int) := by unfold wrap64; omega
    obtain ⟨l', h1, h2⟩ := good_l1 keys (by omega) (by omega) keys 0 l (by omega) (by omega) hk hl1 hl6 (by omega) (fun j hj => by omega)
    refine ⟨l', keys, Ev.step (fun k => ?_) h1, h2⟩
    simp only [pantographref04_Good.j5]
    rw [if_neg (by omega), hq, e]
    rfl
  by_cases hn : a < 0
  · have e : wrap64 (-(wrap64 (a + 1))) = -(a + 1) := by unfold wrap64; omega
    obtain ⟨l', keys, h1, h2⟩ := j5 (-(a + 1)) (by omega) (by omega)
    exact ⟨l', keys, Ev.step (fun k => by simp only [pantographref04_Good.j4]; rw [if_pos hn, e]) h1, h2⟩
  · obtain ⟨l', keys, h1, h2⟩ := j5 a (by omega) (by omega)
    exact ⟨l', keys, Ev.step (fun k => by simp only [pantographref04_Good.j4]; rw [if_neg hn]) h1, h2⟩

/-- One round of the columns' loop. -/
theorem good_j3 (names : List ByteArray) (i : Nat) (b : Bool) (l0 : List S69) (a : Int) (l : List S69) (x : Int) (s : ByteArray) (kd : Int) (no : Bool) (hi : i < 6) (hn : names.length = 6) (hl : l.length ≤ 6)
    (h : ∀ l2 : List S69, (l2 = l ∨ ∃ s2, l2 = l ++ [⟨s2, kd, no⟩]) → ∃ l' keys, Ev (fun k => pantographref04_Good.l0 k names ((i + 1 : Nat) : Int) l0 a l2 x) (l', keys) ∧ GoodS l' keys) :
    ∃ l' keys, Ev (fun k => pantographref04_Good.j3 k names (i : Int) b l0 a l x s kd no) (l', keys) ∧ GoodS l' keys := by
  have e : wrap64 ((i : Int) + 1) = ((i + 1 : Nat) : Int) := by unfold wrap64; omega
  cases b with
  | true =>
    obtain ⟨r, hr⟩ := find_f l x (rdOf ByteArray.empty names (i : Int)) (by omega)
    by_cases h0 : r < 0
    · obtain ⟨l', keys, h1, h2⟩ := h (l ++ [⟨rdOf ByteArray.empty names (i : Int), kd, no⟩]) (.inr ⟨_, rfl⟩)
      refine ⟨l', keys, Ev.step (f := fun k => (pantographref04_Find.f k l x (rdOf ByteArray.empty names (i : Int))).bind fun t => if t < 0 then (if l.length < 4398046511104 then pantographref04_Good.l0 k names (wrap64 ((i : Int) + 1)) l0 a (l ++ [⟨rdOf ByteArray.empty names (i : Int), kd, no⟩]) x else none) else pantographref04_Good.l0 k names (wrap64 ((i : Int) + 1)) l0 a l x) (fun k => ?_) (Ev.bind hr (Ev.congr (fun k => ?_) h1)), h2⟩
      · rw [pantographref04_Good.j3, if_pos rfl, if_pos (by omega), if_pos (by omega)]
      · rw [if_pos h0, if_pos (by omega), e]
    · obtain ⟨l', keys, h1, h2⟩ := h l (.inl rfl)
      refine ⟨l', keys, Ev.step (f := fun k => (pantographref04_Find.f k l x (rdOf ByteArray.empty names (i : Int))).bind fun t => if t < 0 then (if l.length < 4398046511104 then pantographref04_Good.l0 k names (wrap64 ((i : Int) + 1)) l0 a (l ++ [⟨rdOf ByteArray.empty names (i : Int), kd, no⟩]) x else none) else pantographref04_Good.l0 k names (wrap64 ((i : Int) + 1)) l0 a l x) (fun k => ?_) (Ev.bind hr (Ev.congr (fun k => ?_) h1)), h2⟩
      · rw [pantographref04_Good.j3, if_pos rfl, if_pos (by omega), if_pos (by omega)]
      · rw [if_neg h0, e]
  | false =>
    obtain ⟨r, hr⟩ := find_f l x s (by omega)
    by_cases h0 : r < 0
    · obtain ⟨l', keys, h1, h2⟩ := h (l ++ [⟨s, kd, no⟩]) (.inr ⟨_, rfl⟩)
      refine ⟨l', keys, Ev.step (f := fun k => (pantographref04_Find.f k l x s).bind fun t => if t < 0 then (if l.length < 4398046511104 then pantographref04_Good.l0 k names (wrap64 ((i : Int) + 1)) l0 a (l ++ [⟨s, kd, no⟩]) x else none) else pantographref04_Good.l0 k names (wrap64 ((i : Int) + 1)) l0 a l x) (fun k => ?_) (Ev.bind hr (Ev.congr (fun k => ?_) h1)), h2⟩
      · rw [pantographref04_Good.j3, if_neg (by simp)]
      · rw [if_pos h0, if_pos (by omega), e]
    · obtain ⟨l', keys, h1, h2⟩ := h l (.inl rfl)
      refine ⟨l', keys, Ev.step (f := fun k => (pantographref04_Find.f k l x s).bind fun t => if t < 0 then (if l.length < 4398046511104 then pantographref04_Good.l0 k names (wrap64 ((i : Int) + 1)) l0 a (l ++ [⟨s, kd, no⟩]) x else none) else pantographref04_Good.l0 k names (wrap64 ((i : Int) + 1)) l0 a l x) (fun k => ?_) (Ev.bind hr (Ev.congr (fun k => ?_) h1)), h2⟩
      · rw [pantographref04_Good.j3, if_neg (by simp)]
      · rw [if_neg h0, e]

theorem good_j2 (names : List ByteArray) (i : Nat) (y : Int) (l0 : List S69) (a : Int) (l : List S69) (x : Int) (s : ByteArray) (kd0 : Int) (no : Bool) (hi : i < 6) (hn : names.length = 6) (hl : l.length ≤ 6)
    (h : ∀ l2 : List S69, (l2 = l ∨ ∃ s2, l2 = l ++ [⟨s2, wrap64 (1 + Int.tmod y 4), no⟩]) → ∃ l' keys, Ev (fun k => pantographref04_Good.l0 k names ((i + 1 : Nat) : Int) l0 a l2 x) (l', keys) ∧ GoodS l' keys) :
    ∃ l' keys, Ev (fun k => pantographref04_Good.j2 k names (i : Int) y l0 a l x s kd0 no) (l', keys) ∧ GoodS l' keys := by
  obtain ⟨b, Kb, hb⟩ := name_f s
  cases b with
  | true =>
    obtain ⟨r, Kr, hr⟩ := find_f l x s (by omega)
    obtain ⟨l', keys, ⟨K1, h1⟩, h2⟩ := good_j3 names i (decide (r ≥ 0)) l0 a l x s (wrap64 (1 + Int.tmod y 4)) no hi hn hl h
    refine ⟨l', keys, ev_goal (Kb + Kr + K1) fun k hk => ?_, h2⟩
    have e1 : pantographref04_Name.f k s = some true := hb k (by omega)
    have e2 : pantographref04_Find.f k l x s = some r := hr k (by omega)
    rw [pantographref04_Good.j2, e1, Option.bind_some, if_pos rfl, e2, Option.bind_some]
    exact h1 k (by omega)
  | false =>
    obtain ⟨l', keys, ⟨K1, h1⟩, h2⟩ := good_j3 names i true l0 a l x s (wrap64 (1 + Int.tmod y 4)) no hi hn hl h
    refine ⟨l', keys, ev_goal (Kb + K1) fun k hk => ?_, h2⟩
    have e1 : pantographref04_Name.f k s = some false := hb k (by omega)
    rw [pantographref04_Good.j2, e1, Option.bind_some, if_neg (by simp)]
    exact h1 k (by omega)

theorem good_fin (names : List ByteArray) (i : Nat) (l0 : List S69) (a : Int) (ha : RangeI a) (l : List S69) (x : Int) (hk : KindsOk l) (hl6 : l.length ≤ 6) :
    ∃ l' keys, Ev (fun k => pantographref04_Good.j1 k names (i : Int) false l0 a l x) (l', keys) ∧ GoodS l' keys := by
  by_cases h0 : l.length = 0
  · obtain rfl : l = [] := List.eq_nil_of_length_eq_zero h0
    obtain ⟨l', keys, h1, h2⟩ := good_j4 l0 a ha ([] ++ [⟨(⟨#[105, 100]⟩ : ByteArray), 2, false⟩]) x (hk.snoc ⟨by decide, by decide⟩) (by simp) (by simp)
    refine ⟨l', keys, Ev.step (fun k => ?_) h1, h2⟩
    rw [pantographref04_Good.j1, if_neg (by simp), if_pos (by simp), if_pos (by simp)]
  · obtain ⟨l', keys, h1, h2⟩ := good_j4 l0 a ha l x hk (by omega) hl6
    refine ⟨l', keys, Ev.step (fun k => ?_) h1, h2⟩
    rw [pantographref04_Good.j1, if_neg (by simp), if_neg (by omega)]

theorem good_l0 (names : List ByteArray) (hn : names.length = 6) (l0 : List S69) (h0 : ∀ c ∈ l0, OkC c) (hl0 : l0.length ≤ 9223372036854775807) (a : Int) (ha : RangeI a) (x : Int) : ∀ (d i : Nat) (l : List S69), 6 - i = d → i ≤ 6 → KindsOk l → l.length ≤ i →
    ∃ l' keys, Ev (fun k => pantographref04_Good.l0 k names (i : Int) l0 a l x) (l', keys) ∧ GoodS l' keys := by
  intro d
  induction d with
  | zero =>
    intro i l hd hi hk hl
    obtain ⟨l', keys, h1, h2⟩ := good_fin names i l0 a ha l x hk (by omega)
    refine ⟨l', keys, Ev.step (fun k => ?_) h1, h2⟩
    simp only [pantographref04_Good.l0]
    by_cases hlt : (i : Int) < (l0.length : Int)
    · rw [if_pos hlt, decide_eq_false (by omega)]
    · rw [if_neg hlt]
  | succ d ih =>
    intro i l hd hi hk hl
    by_cases hlt : (i : Int) < (l0.length : Int)
    · have hc := h0 _ (rd_mem l0 i (by omega))
      unfold OkC RangeI at hc
      have next : ∀ y : Int, 0 ≤ y → ∀ l2 : List S69, (l2 = l ∨ ∃ s2, l2 = l ++ [⟨s2, wrap64 (1 + Int.tmod y 4), (rd_T69 l0 (i : Int)).f2⟩]) → ∃ l' keys, Ev (fun k => pantographref04_Good.l0 k names ((i + 1 : Nat) : Int) l0 a l2 x) (l', keys) ∧ GoodS l' keys := by
        intro y hy l2 hl2
        have hmod : 0 ≤ Int.tmod y 4 ∧ Int.tmod y 4 < 4 := by
          rw [Int.tmod_eq_emod_of_nonneg hy]
          exact ⟨Int.emod_nonneg _ (by omega), Int.emod_lt_of_pos _ (by omega)⟩
        have ek : wrap64 (1 + Int.tmod y 4) = 1 + Int.tmod y 4 := by unfold wrap64; omega
        rcases hl2 with rfl | ⟨s2, rfl⟩
        · exact ih (i + 1) l2 (by omega) (by omega) hk (by omega)
        · exact ih (i + 1) _ (by omega) (by omega) (hk.snoc (by simp only [ek]; omega)) (by simp; omega)
      by_cases hneg : (rd_T69 l0 (i : Int)).f1 < 0
      · have e : wrap64 (-(wrap64 ((rd_T69 l0 (i : Int)).f1 + 1))) = -((rd_T69 l0 (i : Int)).f1 + 1) := by unfold wrap64; omega
        obtain ⟨l', keys, ⟨K1, h1⟩, h2⟩ := good_j2 names i (-((rd_T69 l0 (i : Int)).f1 + 1)) l0 a l x (rd_T69 l0 (i : Int)).f0 (rd_T69 l0 (i : Int)).f1 (rd_T69 l0 (i : Int)).f2 (by omega) hn (by omega) (next _ (by omega))
        refine ⟨l', keys, ev_goal (K1 + 1) fun k hk => ?_, h2⟩
        obtain ⟨k, rfl⟩ : ∃ m, k = m + 1 := ⟨k - 1, by omega⟩
        rw [pantographref04_Good.l0, if_pos hlt, decide_eq_true (show (i : Int) < 6 by omega), pantographref04_Good.j1, if_pos rfl, if_pos (by omega), if_pos (by omega), if_pos hneg, e]
        exact h1 k (by omega)
      · obtain ⟨l', keys, ⟨K1, h1⟩, h2⟩ := good_j2 names i (rd_T69 l0 (i : Int)).f1 l0 a l x (rd_T69 l0 (i : Int)).f0 (rd_T69 l0 (i : Int)).f1 (rd_T69 l0 (i : Int)).f2 (by omega) hn (by omega) (next _ (by omega))
        refine ⟨l', keys, ev_goal (K1 + 1) fun k hk => ?_, h2⟩
        obtain ⟨k, rfl⟩ : ∃ m, k = m + 1 := ⟨k - 1, by omega⟩
        rw [pantographref04_Good.l0, if_pos hlt, decide_eq_true (show (i : Int) < 6 by omega), pantographref04_Good.j1, if_pos rfl, if_pos (by omega), if_pos (by omega), if_neg hneg]
        exact h1 k (by omega)
    · obtain ⟨l', keys, h1, h2⟩ := good_fin names i l0 a ha l x hk (by omega)
      refine ⟨l', keys, Ev.step (fun k => ?_) h1, h2⟩
      simp only [pantographref04_Good.l0]
      rw [if_neg hlt]

def pool : List ByteArray := [(⟨#[105, 100]⟩ : ByteArray), (⟨#[110, 97, 109, 101]⟩ : ByteArray), (⟨#[110]⟩ : ByteArray), (⟨#[102, 108, 97, 103]⟩ : ByteArray), (⟨#[114, 97, 119]⟩ : ByteArray), (⟨#[120]⟩ : ByteArray)]
theorem good_f (l0 : List S69) (h0 : ∀ c ∈ l0, OkC c) (hl0 : l0.length ≤ 9223372036854775807) (a : Int) (ha : RangeI a) :
    ∃ l' keys, Ev (fun k => pantographref04_Good.f k l0 a) (l', keys) ∧ GoodS l' keys := by
  obtain ⟨l', keys, h1, h2⟩ := good_l0 pool rfl l0 h0 hl0 a ha 0 6 0 [] (by omega) (by omega) (fun c hc => by cases hc) (by simp)
  exact ⟨l', keys, Ev.congr (fun k => by unfold pantographref04_Good.f; rfl) h1, h2⟩

/-! A row that fits. -/
theorem rdv_mem (l : List S51) (i : Nat) (h : i < l.length) : rd_T51 l (i : Int) ∈ l := by
  unfold rd_T51
  simp [List.getD_eq_getElem?_getD, h]
def rowV (c : S69) (v : S51) : S51 :=
  if c.f2 = true ∧ Int.tmod v.f0 3 = 0 then ⟨0, 0, ⟨#[]⟩⟩ else ⟨(Good.goodV c.f1 v.f1 v.f2).1, (Good.goodV c.f1 v.f1 v.f2).2.1, (Good.goodV c.f1 v.f1 v.f2).2.2⟩
def rowOf (l : List S69) (m : List S51) (n : Nat) : List S51 := (List.range n).map fun i : Nat => rowV (rd_T69 l (i : Int)) (rd_T51 m (i : Int))
theorem rowOf_length (l : List S69) (m : List S51) (n : Nat) : (rowOf l m n).length = n := by simp [rowOf]
theorem rowOf_snoc (l : List S69) (m : List S51) (n : Nat) : rowOf l m (n + 1) = rowOf l m n ++ [rowV (rd_T69 l (n : Int)) (rd_T51 m (n : Int))] := by
  simp [rowOf, List.range_succ]
theorem rd_out (m : List S51) (i : Nat) (h : m.length ≤ i) : rd_T51 m (i : Int) = ⟨0, 0, ⟨#[]⟩⟩ := by
  unfold rd_T51 z51
  simp [List.getD_eq_getElem?_getD, h]

/-- A value that may stand in a column. -/
structure Fit (c : S69) (v : S51) : Prop where
  kind : v.f0 = c.f1 ∨ (v.f0 = 0 ∧ c.f2 = true)
  null : v.f0 = 0 → v.f1 = 0 ∧ v.f2 = ⟨#[]⟩
  bool : v.f0 = 1 → (v.f1 = 0 ∨ v.f1 = 1) ∧ v.f2 = ⟨#[]⟩
  int : v.f0 = 2 → RangeI v.f1 ∧ v.f2 = ⟨#[]⟩
  text : v.f0 = 3 → v.f1 = 0 ∧ v.f2.size ≤ 40 ∧ Utf.u8ok v.f2 = true
  byte : v.f0 = 4 → v.f1 = 0 ∧ v.f2.size ≤ 40
theorem Fit.range {c : S69} {v : S51} (h : Fit c v) (hc : 1 ≤ c.f1 ∧ c.f1 ≤ 4) : 0 ≤ v.f0 ∧ v.f0 ≤ 4 := by
  rcases h.kind with h | h <;> omega
theorem u8ok_empty : Utf.u8ok (⟨#[]⟩ : ByteArray) = true := rfl
theorem rowV_fit (c : S69) (v : S51) (hc : 1 ≤ c.f1 ∧ c.f1 ≤ 4) (hv : OkV v) : Fit c (rowV c v) := by
  unfold rowV
  by_cases h : c.f2 = true ∧ Int.tmod v.f0 3 = 0
  · rw [if_pos h]
    exact ⟨.inr ⟨rfl, h.1⟩, fun _ => ⟨rfl, rfl⟩, fun h => absurd h (by decide), fun h => absurd h (by decide), fun h => absurd h (by decide), fun h => absurd h (by decide)⟩
  · rw [if_neg h]
    have hk : Good.kindOf c.f1 = c.f1 := by
      unfold Good.kindOf
      rw [if_neg (by omega), Int.tmod_eq_emod_of_nonneg (by omega)]
      omega
    have h40 := Good.cut40_size v.f2
    unfold Good.goodV
    simp only [hk]
    refine ⟨.inl rfl, fun h => ?_, fun h => ?_, fun h => ?_, fun h => ?_, fun h => ?_⟩
    · have h : c.f1 = 0 := h
      omega
    · have h : c.f1 = 1 := h
      show ((if c.f1 = 1 then _ else _) = (0 : Int) ∨ (if c.f1 = 1 then _ else _) = (1 : Int)) ∧ (if c.f1 = 3 then _ else if c.f1 = 4 then _ else _) = (⟨#[]⟩ : ByteArray)
      rw [if_pos h, if_neg (show ¬ c.f1 = 3 by omega), if_neg (show ¬ c.f1 = 4 by omega)]
      refine ⟨?_, rfl⟩
      split
      · exact .inl rfl
      · exact .inr rfl
    · have h : c.f1 = 2 := h
      show RangeI (if c.f1 = 1 then _ else if c.f1 = 2 then v.f1 else 0) ∧ (if c.f1 = 3 then _ else if c.f1 = 4 then _ else _) = (⟨#[]⟩ : ByteArray)
      rw [if_neg (by omega), if_pos h, if_neg (by omega), if_neg (by omega)]
      exact ⟨hv.2, rfl⟩
    · have h : c.f1 = 3 := h
      show (if c.f1 = 1 then _ else if c.f1 = 2 then v.f1 else 0) = (0 : Int) ∧ ByteArray.size (if c.f1 = 3 then _ else if c.f1 = 4 then _ else _) ≤ 40 ∧ Utf.u8ok (if c.f1 = 3 then _ else if c.f1 = 4 then _ else _) = true
      rw [if_neg (by omega), if_neg (by omega), if_pos h]
      refine ⟨rfl, ?_⟩
      split
      · rename_i hu
        exact ⟨h40, hu⟩
      · exact ⟨by decide, u8ok_empty⟩
    · have h : c.f1 = 4 := h
      show (if c.f1 = 1 then _ else if c.f1 = 2 then v.f1 else 0) = (0 : Int) ∧ ByteArray.size (if c.f1 = 3 then _ else if c.f1 = 4 then _ else _) ≤ 40
      rw [if_neg (by omega), if_neg (by omega), if_neg (by omega), if_pos h]
      exact ⟨rfl, h40⟩
end Go.Proofs.YtaddlkokencbkaaDoor.Img
