/- The walk of the law ImageKeys with its answer: two rows of one key have the same bytes of the key, of unlike keys unlike ones. No condition. -/
import Derived.Test.YtaddlkokencbkaaQ8
import Derived.Test.YtaddlkokencbkaaKey
namespace Go.Proofs.Ytaddlkokencbkaa.RowImageKeysW
open Go.RowKit Go.Proofs.YtaddlkokencbkaaW.PrintWords Go.Proofs.YtaddlkokencbkaaW.PrintLast Go.Proofs.YtaddlkokencbkaaW.PrintMore Go.Proofs.Ytaddlkokencbkaa.Q Go.Proofs.Ytaddlkokencbkaa.Plain Go.Proofs.Ytaddlkokencbkaa.Exact Go.Proofs.Ytaddlkokencbkaa.OpenA Go.Proofs.Ytaddlkokencbkaa.Img Go.Proofs.Ytaddlkokencbkaa.Put Go.Proofs.Ytaddlkokencbkaa.Inj Go.Proofs.Ytaddlkokencbkaa.Key
set_option linter.unusedVariables false

theorem empty_list : (⟨#[]⟩ : ByteArray).toList = ([] : List UInt8) := by rw [ByteArray.toList_eq]
theorem may_f {c : S67} {v : S48} (h : Fit c v) (hc : 1 ≤ c.f1 ∧ c.f1 ≤ 4) : pantographref03_May.f v.f0 v.f1 v.f2 = some true := by
  have hr := h.range hc
  unfold pantographref03_May.f pantographref03_utf8.f
  have : v.f0 = 0 ∨ v.f0 = 1 ∨ v.f0 = 2 ∨ v.f0 = 3 ∨ v.f0 = 4 := by omega
  rcases this with k | k | k | k | k
  · obtain ⟨a, b⟩ := h.null k
    rw [if_pos k, if_pos a, b, empty_list]
    rfl
  · obtain ⟨a, b⟩ := h.bool k
    rw [if_neg (by omega), if_pos k, b, if_pos empty_list]
    rcases a with a | a
    · rw [if_pos a]
    · rw [if_neg (by omega), a]
      rfl
  · obtain ⟨a, b⟩ := h.int k
    rw [if_neg (by omega), if_neg (by omega), if_pos k, b, empty_list]
    rfl
  · obtain ⟨a, b, u⟩ := h.text k
    rw [if_neg (by omega), if_neg (by omega), if_neg (by omega), if_pos k, if_pos (by omega), Option.bind_some, if_pos u, if_pos a, decide_eq_true (by omega)]
  · obtain ⟨a, b⟩ := h.byte k
    rw [if_neg (by omega), if_neg (by omega), if_neg (by omega), if_neg (by omega), if_pos k, if_pos a, decide_eq_true (by omega)]
theorem stands_f {c : S67} {v : S48} (h : Fit c v) (hc : 1 ≤ c.f1 ∧ c.f1 ≤ 4) : pantographref04_stands.f c.f0 c.f1 c.f2 v.f0 v.f1 v.f2 = some true := by
  unfold pantographref04_stands.f
  rw [may_f h hc, Option.bind_some, if_pos rfl]
  rcases h.kind with a | ⟨a, b⟩
  · rw [if_pos a]
  · by_cases e : v.f0 = c.f1
    · rw [if_pos e]
    · rw [if_neg e, if_pos a, b]

theorem rdv_take (p : List S48) (n i : Nat) (h : i < n) : rd_T48 (p.take n) (i : Int) = rd_T48 p (i : Int) := by
  unfold rd_T48
  simp [List.getD_eq_getElem?_getD, h]
theorem rdc_take (p : List S67) (n i : Nat) (h : i < n) : rd_T67 (p.take n) (i : Int) = rd_T67 p (i : Int) := by
  unfold rd_T67
  simp [List.getD_eq_getElem?_getD, h]

theorem key4_l0 (cs : List S67) (n : Nat) (p : List S48) (hkd : KindsOk cs) (hp : p.length = cs.length) (hn : n ≤ cs.length) (h6 : cs.length ≤ 6) (hs : ∀ v ∈ p, SmallV v) (fp : ∀ i : Nat, i < cs.length → Fit (rd_T67 cs (i : Int)) (rd_T48 p (i : Int))) : ∀ (d i : Nat), n - i = d → i ≤ n →
    Ev (fun k => pantographref04_Key.l0 k p (i : Int) cs (n : Int)) (strOfNums (keyTo (p.take n) n), 0) := by
  intro d
  induction d with
  | zero =>
    intro i hd hi
    obtain rfl : i = n := by omega
    have hl : (p.take i).length = i := by rw [List.length_take]; omega
    obtain ⟨K, hK⟩ := key_f (p.take i) (fun v hv => by have := (hs v (List.mem_of_mem_take hv)).2; omega) (by omega)
    refine ev_goal K fun k hk => ?_
    have e := hK k hk
    dsimp only at e
    rw [hl] at e
    rw [pantographref04_Key.l0, if_neg (by omega), if_pos (by omega), if_pos (by omega), Int.toNat_natCast, e, Option.bind_some]
  | succ d ih =>
    intro i hd hi
    have e : wrap64 ((i : Int) + 1) = ((i + 1 : Nat) : Int) := by unfold wrap64; omega
    obtain ⟨K, hK⟩ := ih (i + 1) (by omega) (by omega)
    refine ev_goal K fun k hk => ?_
    rw [pantographref04_Key.l0, if_pos (by omega), if_pos (by omega), if_pos (by omega), if_pos (by omega), stands_f (fp i (by omega)) (hkd _ (rd_mem cs i (by omega))), Option.bind_some, if_pos rfl, e]
    exact hK k hk
theorem key4_f (cs : List S67) (n : Nat) (p : List S48) (hkd : KindsOk cs) (hp : p.length = cs.length) (hn : n ≤ cs.length) (h6 : cs.length ≤ 6) (hs : ∀ v ∈ p, SmallV v) (fp : ∀ i : Nat, i < cs.length → Fit (rd_T67 cs (i : Int)) (rd_T48 p (i : Int))) :
    Ev (fun k => pantographref04_Key.f k cs (n : Int) p) (strOfNums (keyTo (p.take n) n), 0) := by
  obtain ⟨K, hK⟩ := key4_l0 cs n p hkd hp hn h6 hs fp n 0 (by omega) (by omega)
  refine ⟨K, fun k hk => ?_⟩
  simp only [pantographref04_Key.f]
  rw [if_neg (by omega)]
  exact hK k hk
theorem writeKey_f (cs : List S67) (n : Nat) (p : List S48) (hn1 : 1 ≤ n) (hn : n ≤ p.length) (h6 : p.length ≤ 6) (hs : ∀ v ∈ p, SmallV v) (l0 : List Int) (hl : l0.length ≤ 10000) :
    Ev (fun k => image_WriteKey.f k l0 cs (n : Int) p) (l0 ++ rowB (p.take n)) := by
  have hlen : (p.take n).length = n := by rw [List.length_take]; omega
  obtain ⟨K, hK⟩ := put_f (p.take n) (fun v hv => hs v (List.mem_of_mem_take hv)) (by omega) (by omega) l0 hl
  refine ⟨K, fun k hk => ?_⟩
  have e := hK k hk
  dsimp only at e
  simp only [image_WriteKey.f]
  rw [if_pos (by omega), if_pos (by omega), Int.toNat_natCast, e, Option.bind_some]

theorem law_f (l : List S67) (k : Int) (l1 l2 : List S48) (ok : ∀ y ∈ l, OkC y) (rk : RangeI k) (ok1 : ∀ y ∈ l1, OkV y) (ok2 : ∀ y ∈ l2, OkV y) (hl : l.length ≤ 9223372036854775807) : ∃ K, pantographlaw05_ImageKeys.f K l k l1 l2 = some true := by
  obtain ⟨cs, keys, ⟨K1, h1⟩, hg⟩ := good_f l ok hl k rk
  have hfew := hg.few
  have hsome := hg.some_
  have hk1 := hg.k1
  have hkn := hg.kn
  obtain ⟨n, rfl⟩ := Int.eq_ofNat_of_zero_le (show 0 ≤ keys by omega)
  obtain ⟨K2, h2⟩ := row_f cs (n : Int) l1 (by omega)
  obtain ⟨K3, h3⟩ := row_f cs (n : Int) l2 (by omega)
  have p1 := rowOf_length cs l1 cs.length
  have p2 := rowOf_length cs l2 cs.length
  have f1 := rowOf_fit hg ok1
  have f2 := rowOf_fit hg ok2
  have s1 := rowOf_small hg ok1
  have s2 := rowOf_small hg ok2
  generalize rowOf cs l1 cs.length = p at *
  generalize rowOf cs l2 cs.length = q at *
  obtain ⟨K4, h4⟩ := key4_f cs n p hg.kinds p1 (by omega) hfew s1 f1
  obtain ⟨K5, h5⟩ := key4_f cs n q hg.kinds p2 (by omega) hfew s2 f2
  obtain ⟨K6, h6⟩ := writeKey_f cs n p (by omega) (by omega) (by omega) s1 [] (by simp)
  obtain ⟨K7, h7⟩ := writeKey_f cs n q (by omega) (by omega) (by omega) s2 [] (by simp)
  obtain ⟨K8, h8⟩ := lives_f
  have lp : (p.take n).length = n := by rw [List.length_take]; omega
  have lq : (q.take n).length = n := by rw [List.length_take]; omega
  have lc : (cs.take n).length = n := by rw [List.length_take]; omega
  have inj := rowB_inj (cs.take n) (p.take n) (q.take n) (fun c hc => hg.kinds c (List.mem_of_mem_take hc)) (by omega) (by omega)
    (fun i hi => by rw [rdc_take _ _ _ (by omega), rdv_take _ _ _ (by omega)]; exact f1 i (by omega)) (fun i hi => by rw [rdc_take _ _ _ (by omega), rdv_take _ _ _ (by omega)]; exact f2 i (by omega))
  have kinj := key_inj (p.take n) (q.take n) (by omega) (fun i hi => by
    rw [rdv_take _ _ _ (by omega), rdv_take _ _ _ (by omega)]
    have a := f1 i (by omega)
    have b := f2 i (by omega)
    have hc := hg.kinds _ (rd_mem cs i (by omega))
    have hno := hg.none_ i (by omega)
    refine ⟨?_, _, hc.1, hc.2, a, b⟩
    rcases a.kind with x | ⟨_, x⟩
    · rcases b.kind with y | ⟨_, y⟩
      · omega
      · rw [hno] at y; cases y
    · rw [hno] at x; cases x)
  rw [lp, lq] at kinj
  have b1 := rowB_bytes (p.take n) (by omega)
  have b2 := rowB_bytes (q.take n) (by omega)
  have b3 := keyTo_bytes (p.take n) n
  have b4 := keyTo_bytes (q.take n) n
  obtain ⟨K, hK⟩ : ∃ K, K = K1 + K2 + K3 + K4 + K5 + K6 + K7 + K8 := ⟨_, rfl⟩
  refine ⟨K, ?_⟩
  have e1 := h1 K (by omega)
  have e2 := h2 K (by omega)
  have e3 := h3 K (by omega)
  have e4 := h4 K (by omega)
  have e5 := h5 K (by omega)
  have e6 := h6 K (by omega)
  have e7 := h7 K (by omega)
  have e8 := h8 K (by omega)
  dsimp only at e1 e2 e3 e4 e5 e6 e7 e8
  rw [List.nil_append] at e6 e7
  unfold pantographlaw05_ImageKeys.f
  rw [e1, Option.bind_some, e2, Option.bind_some, e3, Option.bind_some, e4, Option.bind_some, e5, Option.bind_some, e6, Option.bind_some, e7, Option.bind_some, if_pos ?_, e8, Option.bind_some]
  rw [str_beq b1 b2, str_beq b3 b4, beq_iff_eq, Bool.eq_iff_iff, decide_eq_true_iff, decide_eq_true_iff]
  constructor
  · intro h
    have := (inj [] [] (by simpa using h)).1
    rw [this]
  · intro h
    rw [kinj h]

theorem law_calls (A : Option Addr) (c : Nat) (l : List S67) (k : Int) (A1 : Option Addr) (c1 : Nat) (l1 : List S48) (A2 : Option Addr) (c2 : Nat) (l2 : List S48) (w : World) (hr : Kd.C k67 w A l.length l) (hc : l.length ≤ c) (ok : ∀ y ∈ l, OkC y) (rk : RangeI k)
    (hr1 : Kd.C k48 w A1 l1.length l1) (hc1 : l1.length ≤ c1) (ok1 : ∀ y ∈ l1, OkV y) (hr2 : Kd.C k48 w A2 l2.length l2) (hc2 : l2.length ≤ c2) (ok2 : ∀ y ∈ l2, OkV y) :
    Calls Try.prog 9 #[.agg #[.slice A l.length c, .int .i64 k], .slice A1 l1.length c1, .slice A2 l2.length c2] w fun e w' => e = .returned (.bool true) ∧ Below w.heap.size w w' := by
  obtain ⟨K, h⟩ := law_f l k l1 l2 ok rk ok1 ok2 hr.2.1
  exact pantographlaw05_ImageKeys.calls K A c l k A1 c1 l1 A2 c2 l2 true w hr hc hr1 hc1 hr2 hc2 h
end Go.Proofs.Ytaddlkokencbkaa.RowImageKeysW
