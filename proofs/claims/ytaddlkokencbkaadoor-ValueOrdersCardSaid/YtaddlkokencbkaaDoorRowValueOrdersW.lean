/- The walk of the law ValueOrders: keys of as many values stand in the order of those, and none is the beginning of another one. No condition. -/
import Derived.Test.YtaddlkokencbkaaDoorCmp3
import Derived.Test.YtaddlkokencbkaaDoorLives3
import Derived.Deep.RegionWith
import Derived.Deep.DeepCutAuto
import Derived.Deep.CutBlock
import Derived.Outline
namespace Go.Proofs.YtaddlkokencbkaaDoor.RowValueOrdersW
open Go.RowKit Go.Proofs.YtaddlkokencbkaaDoorW.PrintWords Go.Proofs.YtaddlkokencbkaaDoorW.PrintLast Go.Proofs.YtaddlkokencbkaaDoorW.PrintMore Go.Proofs.YtaddlkokencbkaaDoor.Q Go.Proofs.YtaddlkokencbkaaDoor.Shelf Go.Proofs.YtaddlkokencbkaaDoor.May Go.Proofs.YtaddlkokencbkaaDoor.VKeyW Go.Proofs.YtaddlkokencbkaaDoor.OpenV Go.Proofs.YtaddlkokencbkaaDoor.Vals Go.Proofs.YtaddlkokencbkaaDoor.VOrd Go.Proofs.YtaddlkokencbkaaDoor.Plain Go.Proofs.YtaddlkokencbkaaDoor.Cmp3
theorem gtr_str (t : TypeId) (a b : ByteArray) : binOp .gtr t (.string a) (.string b) = pure (.bool !(Op.bytesLess a.toList b.toList || a.toList == b.toList)) := by simp [binOp, Op.stringOp]
attribute [local go_sem] min2_int min_two min_three gtr_str   -- for this text's walks alone
set_option linter.unusedVariables false
set_option linter.unusedSimpArgs false
set_option maxHeartbeats 4000000 in
set_option maxRecDepth 100000 in
theorem walk (n : Nat) (A : Option Addr) (c : Nat) (l : List V) (A1 : Option Addr) (c1 : Nat) (l1 : List V) (x y : List V) (S T : ByteArray) (w : World) (hr : Kd.C k51 w A l.length l) (hc : l.length ≤ c)
    (hr1 : Kd.C k51 w A1 l1.length l1) (hc1 : l1.length ≤ c1) (hT : Tabs w) (hP : Pow w) (hn : n ≤ 4) (hnl : n ≤ l.length) (hnl1 : n ≤ l1.length) (hmin : n = min (min l.length l1.length) 4)
    (hx : goodsL l n = x) (hy : goodsL l1 n = y) (lx : x.length = n) (ly : y.length = n) (sx : ∀ v ∈ x, v.f2.size ≤ 40) (sy : ∀ v ∈ y, v.f2.size ≤ 40) (ax : x.all mayV = true) (ay : y.all mayV = true)
    (hS : strOfNums (kb x) = S) (hTT : strOfNums (kb y) = T)
    (ends : (W x y = 0 ∧ S = T ∧ Op.bytesLess S.toList S.toList = false) ∨ (W x y = -1 ∧ Op.bytesLess S.toList T.toList = true ∧ ((T.extract 0 S.size).toList == S.toList) = false) ∨ (W x y = 1 ∧ Op.bytesLess S.toList T.toList = false ∧ (S.toList == T.toList) = false ∧ ((T.extract 0 S.size).toList == S.toList) = false)) :
    Calls Tryd.prog 5 #[.slice A l.length c, .slice A1 l1.length c1] w fun e w' => e = .returned (.bool true) ∧ Below w.heap.size w w' := by
  have key : ∀ (A : Option Addr) (c : Nat) (l : List V) (k : ByteArray) (w : World), Kd.C k51 w A l.length l → l.length ≤ c → (∀ v ∈ l, v.f2.size ≤ 40) → l.length ≤ 1000 → Tabs w → l.all mayV = true → strOfNums (kb l) = k →
      Calls Tryd.prog 25 #[.slice A l.length c] w fun e w' => e = .returned (.tuple #[.string k, .int .i64 0]) ∧ Below w.heap.size w w' := fun A c l k w h1 h2 h3 h4 h5 h6 h7 => by
    subst h7
    exact key_good A c l _ w h1 h2 h3 h4 h5 h6 rfl
  have hcn : n ≤ c := by omega
  have hcn1 : n ≤ c1 := by omega
  have HX := Aside0.mk hx
  have HY := Aside0.mk hy
  have HS := Aside0.mk hS
  have HTT := Aside0.mk hTT
  have GA := Aside0.mk ax
  have GB := Aside0.mk ay
  have SA := Aside0.mk sx
  have SB := Aside0.mk sy
  have LX := Aside0.mk lx
  have LY := Aside0.mk ly
  have HR := Aside0.mk hr
  have HR1 := Aside0.mk hr1
  have HC := Aside0.mk hc
  have HC1 := Aside0.mk hc1
  have HT := Aside0.mk hT
  have HP := Aside0.mk hP
  have HMIN := Aside0.mk hmin
  have ENDS := Aside0.mk ends
  have KEY := Aside0.mk key
  have HNL := Aside0.mk hnl
  have HNL1 := Aside0.mk hnl1
  clear hx hy hS hTT ax ay sx sy lx ly hr hr1 hc hc1 hT hP hmin ends key hnl hnl1
  go_enter Tryd.func5, Tryd.ntmps5
  go_upto_region 1 with fail
  go_cut [5] (fun v5 wx => v5 = .int .i64 (n : Int) ∧ w = wx)
  case first =>
    go_wp2_with fail
    all_goals
      go_meet
      refine ⟨?_, rfl⟩
      have h := HMIN.out
      congr 1
      first | omega | (split <;> omega) | (repeat' split) <;> omega
  case rest =>
  obtain ⟨rfl, rfl⟩ := hcut
  go_upto_region 3 with (first | (go_at_call 24; refine (goodsN A c n l x w HR.out HNL.out hcn (by omega) HX.out).mono ?_; rintro e w1 ⟨A2, c2, rfl, hc2, hC2, hb1⟩; rw [LX.out]; have HB1 := Aside0.mk hb1; have HC2 := Aside0.mk hC2; have HL2 := Aside0.mk hc2; have HR1' := Aside0.mk (Kd.C_below HR1.out hb1); clear hb1 hC2 hc2))
  go_upto_region 4 with (first | (go_at_call 24; refine (goodsN A1 c1 n l1 y w1 HR1'.out HNL1.out hcn1 (by omega) HY.out).mono ?_; rintro e w2 ⟨A3, c3, rfl, hc3, hC3, hb2⟩; rw [LY.out]; have HB2 := Aside0.mk (below_step HB1.out hb2); have HC3 := Aside0.mk hC3; have HL3 := Aside0.mk hc3; have HC2' := Aside0.mk (Kd.C_below HC2.out hb2); clear hb2 hC3 hc3))
  go_upto_region 5 with (first | (go_at_call 25; rw [← LX.out]; refine (KEY.out A2 c2 x S w2 HC2'.out HL2.out SA.out (by rw [LX.out]; omega) (Tabs.below HT.out HB2.out) GA.out HS.out).mono ?_; rw [LX.out]; rintro e w3 ⟨rfl, hb3⟩; have HB3 := Aside0.mk (below_step HB2.out hb3); have HC33 := Aside0.mk (Kd.C_below HC3.out hb3); have HC23 := Aside0.mk (Kd.C_below HC2'.out hb3); clear hb3))
  go_upto_region 6 with (first | (go_at_call 25; rw [← LY.out]; refine (KEY.out A3 c3 y T w3 HC33.out HL3.out SB.out (by rw [LY.out]; omega) (Tabs.below HT.out HB3.out) GB.out HTT.out).mono ?_; rw [LY.out]; rintro e w4 ⟨rfl, hb4⟩; have HB4 := Aside0.mk (below_step HB3.out hb4); have HC34 := Aside0.mk (Kd.C_below HC33.out hb4); have HC24 := Aside0.mk (Kd.C_below HC23.out hb4); clear hb4))
  go_upto_block 0 with fail
  go_cut [12] (fun v12 wx => v12 = .int .i64 (W x y) ∧ Below w4.heap.size w4 wx)
  case first =>
    go_wp2_with fail
    go_loopw [12, 13] (fun v12 v13 wr => ∃ i : Nat, v13 = .int .i64 (i : Int) ∧ i ≤ n ∧ v12 = .int .i64 (W (x.take i) (y.take i)) ∧ Below w4.heap.size w4 wr) (fun _ v13 _ => (n - intOf v13).toNat)
    case atStart => exact ⟨0, rfl, Nat.zero_le _, rfl, Below.refl _ _⟩
    case round =>
      obtain ⟨i, rfl, hi, rfl, hb⟩ := hrel
      have HB := Aside0.mk hb
      clear hb
      by_cases hil : i < n
      · have d1 : decide ((i : Int) < (n : Int)) = true := decide_eq_true (by omega)
        by_cases hw : W (x.take i) (y.take i) = 0
        · have HW := Aside0.mk hw
          rw [hw]
          clear hw
          have hwp : ((0 : Int) == 0) = true := rfl
          obtain ⟨ad, pp, u, rfl, hpp, hu, q0, q1, q2⟩ := C3 (Kd.C_below HC24.out HB.out) i (by rw [LX.out]; exact hil)
          obtain ⟨ad1, pp1, v, rfl, hpp1, hv, q3, q4, q5⟩ := C3 (Kd.C_below HC34.out HB.out) i (by rw [LY.out]; exact hil)
          have HU := Aside0.mk hu
          have HV := Aside0.mk hv
          clear hu hv
          obtain ⟨f0, f1, f2⟩ := u
          obtain ⟨g0, g1, g2⟩ := v
          dsimp only at q0 q1 q2 q3 q4 q5
          obtain ⟨r, hr⟩ : ∃ r, C ⟨f0, f1, f2⟩ ⟨g0, g1, g2⟩ = r := ⟨_, rfl⟩
          have HRR := Aside0.mk hr
          have HWS : Aside0 (W (x.take (i + 1)) (y.take (i + 1)) = r) := ⟨by
            have e := W_app (x.take i) (y.take i) [⟨f0, f1, f2⟩] [⟨g0, g1, g2⟩] (by rw [List.length_take, List.length_take, LX.out, LY.out])
            rw [take_at HU.out, take_at HV.out, e, if_pos HW.out]
            simp only [W]
            rw [hr]
            split
            · rename_i h; exact h.symm
            · rfl⟩
          clear hr
          go_wp2
          go_region_with (first | (go_at_call 26; refine (compare_calls f0 f1 f2 g0 g1 g2 r _ HRR.out).mono ?_; rintro e w5 ⟨rfl, hb5⟩; have HB5 := Aside0.mk (below_step (HB.out.drew) hb5); clear hb5))
          all_goals
            go_wp2
            go_roundw
            case rel => exact ⟨i + 1, by go_num, by omega, by rw [HWS.out], HB5.out⟩
            case measure => simp [intOf]; omega
        · have HW : Aside0 (W x y = W (x.take i) (y.take i)) := ⟨by
            have e := W_app (x.take i) (y.take i) (x.drop i) (y.drop i) (by rw [List.length_take, List.length_take, LX.out, LY.out])
            rw [List.take_append_drop, List.take_append_drop, if_neg hw] at e
            exact e⟩
          obtain ⟨r, hr⟩ : ∃ r, W (x.take i) (y.take i) = r := ⟨_, rfl⟩
          rw [hr] at hw HW
          rw [hr]
          clear hr
          have hwp : (r == 0) = false := by simpa using hw
          clear hw
          go_wp2
          go_meet
          exact ⟨by rw [HW.out], HB.out⟩
      · have d1 : decide ((i : Int) < (n : Int)) = false := decide_eq_false (by omega)
        have HW : Aside0 (W x y = W (x.take i) (y.take i)) := ⟨by rw [List.take_of_length_le (by rw [LX.out]; omega), List.take_of_length_le (by rw [LY.out]; omega)]⟩
        obtain ⟨r, hr⟩ : ∃ r, W (x.take i) (y.take i) = r := ⟨_, rfl⟩
        rw [hr] at HW
        rw [hr]
        clear hr
        go_wp2
        go_meet
        exact ⟨by rw [HW.out], HB.out⟩
  case rest =>
  obtain ⟨rfl, hb⟩ := hcut
  have HB5 := Aside0.mk (below_step HB4.out hb)
  clear hb
  have cee : ∀ y : List UInt8, (y == y) = true := by simp
  rcases ENDS.out with ⟨e1, e2, e3⟩ | ⟨e1, e2, e4⟩ | ⟨e1, e2, e3, e4⟩
  · rw [e1]
    subst e2
    clear e1
    go_wp2_with (first | (go_at_call 27; refine (Lives3.lives_calls wc (Tabs.below HT.out HB5.out) (Show.Pow.below HP.out HB5.out)).mono ?_; rintro e w8 ⟨rfl, hb8⟩; have HB8 := Aside0.mk (below_step HB5.out hb8); clear hb8))
    go_ret
    exact ⟨rfl, HB8.out⟩
  · rw [e1]
    clear e1
    by_cases hl : S.size < T.size
    · have h1 : decide ((S.size : Int) < (T.size : Int)) = true := decide_eq_true (by omega)
      have h2 : (S.size : Int) ≤ (T.size : Int) := by omega
      have h3 : S.size ≤ T.size := by omega
      go_wp2_with (first | (go_at_call 27; refine (Lives3.lives_calls wc (Tabs.below HT.out HB5.out) (Show.Pow.below HP.out HB5.out)).mono ?_; rintro e w8 ⟨rfl, hb8⟩; have HB8 := Aside0.mk (below_step HB5.out hb8); clear hb8))
      go_ret
      exact ⟨rfl, HB8.out⟩
    · have h1 : decide ((S.size : Int) < (T.size : Int)) = false := decide_eq_false (by omega)
      go_wp2_with (first | (go_at_call 27; refine (Lives3.lives_calls wc (Tabs.below HT.out HB5.out) (Show.Pow.below HP.out HB5.out)).mono ?_; rintro e w8 ⟨rfl, hb8⟩; have HB8 := Aside0.mk (below_step HB5.out hb8); clear hb8))
      go_ret
      exact ⟨rfl, HB8.out⟩
  · rw [e1]
    clear e1
    by_cases hl : S.size < T.size
    · have h1 : decide ((S.size : Int) < (T.size : Int)) = true := decide_eq_true (by omega)
      have h2 : (S.size : Int) ≤ (T.size : Int) := by omega
      have h3 : S.size ≤ T.size := by omega
      go_wp2_with (first | (go_at_call 27; refine (Lives3.lives_calls wc (Tabs.below HT.out HB5.out) (Show.Pow.below HP.out HB5.out)).mono ?_; rintro e w8 ⟨rfl, hb8⟩; have HB8 := Aside0.mk (below_step HB5.out hb8); clear hb8))
      go_ret
      exact ⟨rfl, HB8.out⟩
    · have h1 : decide ((S.size : Int) < (T.size : Int)) = false := decide_eq_false (by omega)
      go_wp2_with (first | (go_at_call 27; refine (Lives3.lives_calls wc (Tabs.below HT.out HB5.out) (Show.Pow.below HP.out HB5.out)).mono ?_; rintro e w8 ⟨rfl, hb8⟩; have HB8 := Aside0.mk (below_step HB5.out hb8); clear hb8))
      go_ret
      exact ⟨rfl, HB8.out⟩
theorem min3 (a b : Nat) : min (min a b) 4 ≤ 4 ∧ min (min a b) 4 ≤ a ∧ min (min a b) 4 ≤ b := by omega
theorem law_calls (A : Option Addr) (c : Nat) (l : List V) (A1 : Option Addr) (c1 : Nat) (l1 : List V) (w : World) (hr : Kd.C k51 w A l.length l) (hc : l.length ≤ c) (ok : ∀ y ∈ l, OkV y) (sm : ∀ y ∈ l, Small y)
    (hr1 : Kd.C k51 w A1 l1.length l1) (hc1 : l1.length ≤ c1) (ok1 : ∀ y ∈ l1, OkV y) (sm1 : ∀ y ∈ l1, Small y) (hT : Tabs w) (hP : Pow w) :
    Calls Tryd.prog 5 #[.slice A l.length c, .slice A1 l1.length c1] w fun e w' => e = .returned (.bool true) ∧ Below w.heap.size w w' := by
  obtain ⟨n, hn⟩ : ∃ n, n = min (min l.length l1.length) 4 := ⟨_, rfl⟩
  have hm := min3 l.length l1.length
  rw [← hn] at hm
  have lx : (goodsL l n).length = n := by unfold goodsL; rw [List.length_map, List.length_take]; omega
  have ly : (goodsL l1 n).length = n := by unfold goodsL; rw [List.length_map, List.length_take]; omega
  have hD := W_D (goodsL l n) (goodsL l1 n) (by omega) (goods_fine ok n) (goods_fine ok1 n)
  have b1 := kb_bytes (goodsL l n)
  have b2 := kb_bytes (goodsL l1 n)
  refine walk n A c l A1 c1 l1 (goodsL l n) (goodsL l1 n) _ _ w hr hc hr1 hc1 hT hP hm.1 hm.2.1 hm.2.2 hn rfl rfl lx ly (goods_size l n) (goods_size l1 n) (goods_all ok n) (goods_all ok1 n) rfl rfl ?_
  have z := W_zero (goodsL l n) (goodsL l1 n) (by omega)
  have l1' := L_D (kb (goodsL l n)) (kb (goodsL l1 n))
  rcases W_three (goodsL l n) (goodsL l1 n) with h | h | h
  · rw [h] at hD
    rw [if_neg (by omega), hD] at l1'
    refine .inr (.inl ⟨h, ?_, not_begins b1 b2 (by omega)⟩)
    rw [less_L _ _ b1 b2, l1']; rfl
  · refine .inl ⟨h, by rw [z h], ?_⟩
    rw [less_L _ _ b1 b1, L_self]; rfl
  · rw [h] at hD
    rw [if_neg (by omega), hD] at l1'
    refine .inr (.inr ⟨h, ?_, ?_, not_begins b1 b2 (by omega)⟩)
    · rw [less_L _ _ b1 b2, l1']; rfl
    · rw [str_beq b1 b2, decide_eq_false_iff_not]
      intro e
      rw [e, L_self] at l1'
      omega
end Go.Proofs.YtaddlkokencbkaaDoor.RowValueOrdersW
