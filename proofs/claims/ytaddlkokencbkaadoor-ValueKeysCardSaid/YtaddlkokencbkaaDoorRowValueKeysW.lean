/- The walk of the law ValueKeys: values' key is the document's, and its values are they; of a value that may not be there is none. No condition. -/
import Derived.Test.YtaddlkokencbkaaDoorRKey
import Derived.Test.YtaddlkokencbkaaDoorQ44
import Derived.Test.YtaddlkokencbkaaDoorLives3
import Derived.Deep.DeepCutAuto
import Derived.Deep.CutBlock
namespace Go.Proofs.YtaddlkokencbkaaDoor.VKeyB
open Go.RowKit Go.Proofs.YtaddlkokencbkaaDoorW.PrintWords Go.Proofs.YtaddlkokencbkaaDoorW.PrintLast Go.Proofs.YtaddlkokencbkaaDoorW.PrintMore Go.Proofs.YtaddlkokencbkaaDoor.Q Go.Proofs.YtaddlkokencbkaaDoor.Shelf Go.Proofs.YtaddlkokencbkaaDoor.May Go.Proofs.YtaddlkokencbkaaDoor.VKey Go.Proofs.YtaddlkokencbkaaDoor.VKeyW
set_option linter.unusedVariables false
set_option linter.unusedSimpArgs false
theorem may_size {v : V} (h : mayV v = true) : v.f2.size ≤ 4096 := by have := VOrd.may_kind h; omega
set_option maxHeartbeats 2000000 in
theorem key_any (A : Option Addr) (c : Nat) (l : List V) (w : World) (hr : Kd.C k51 w A l.length l) (hc : l.length ≤ c) (hs : ∀ v ∈ l, v.f2.size ≤ 140737488355000) (hn : l.length ≤ 1000) (hT : Tabs w) :
    Calls Tryd.prog 25 #[.slice A l.length c] w fun e w' => e = .returned (.tuple #[.string (strOfNums (keyR l)), .int .i64 (keyE l)]) ∧ Below w.heap.size w w' := by
  have HR := Aside0.mk hr
  have HS := Aside0.mk hs
  have HT := Aside0.mk hT
  clear hr hs hT
  go_enter Tryd.func25, Tryd.ntmps25
  go_wp2
  go_loopw [4, 9] (fun v4 v9 wr => RelK w l v4 v9 wr) (fun _ v9 _ => (l.length - intOf v9).toNat)
  case atStart => exact ⟨0, rfl, by omega, Kd.R_nil _ _ _ _ _, by simp, Below.refl _ _⟩
  case round =>
    obtain ⟨i, rfl, hi, hR, hall, hb⟩ := hrel
    have HO := Aside0.mk hR
    have HA := Aside0.mk hall
    have HB := Aside0.mk hb
    clear hR hall hb
    by_cases hil : i < l.length
    · have c1 : decide ((i : Int) < (l.length : Int)) = true := decide_eq_true (by omega)
      obtain ⟨ad, pp, v, rfl, hpp, hv, q0, q1, q2⟩ := C3 (Kd.C_below HR.out HB.out) i hil
      have HV := Aside0.mk hv
      clear hv
      obtain ⟨f0, f1, f2⟩ := v
      dsimp only at q0 q1 q2
      have HTW := Aside0.mk (Tabs.below HT.out HB.out)
      have hs2 := HS.out _ (mem_at HV.out)
      dsimp only at hs2
      obtain ⟨pre, hpre⟩ : ∃ pre, kb (l.take i) = pre := ⟨_, rfl⟩
      have HPre := Aside0.mk hpre
      have HO2 : Aside0 (Kd.R (Kd.int .u8) 5 wr w.heap.size (fun _ => True) u4 pre) := ⟨by rw [← hpre]; exact HO.out⟩
      have hlen : pre.length ≤ 10000000 := by
        rw [← hpre]
        have := kb_len 4096 (l.take i) (fun u hu => may_size (HA.out u hu))
        rw [List.length_take] at this
        have h2 : min i l.length ≤ 1000 := by omega
        have h3 : (2 * 4096 + 9) * min i l.length ≤ (2 * 4096 + 9) * 1000 := Nat.mul_le_mul (Nat.le_refl _) h2
        omega
      clear hpre
      have HTA := Aside0.mk (fun o => Tabs.below HTW.out (below_alloc (Below.refl wr.heap.size wr) o))
      have HBA := Aside0.mk (fun o => below_step HB.out (below_alloc (Below.refl wr.heap.size wr) o))
      by_cases hm : mayB f0 f1 f2 = true
      · have HM := Aside0.mk hm
        have hsm : f2.size ≤ 4096 := may_size (v := ⟨f0, f1, f2⟩) hm
        obtain ⟨KK, hKK⟩ := VKey.key_f f0 f1 f2 (by omega) pre (by omega)
        have HK := Aside0.mk (hKK KK (Nat.le_refl _))
        clear hm hKK hsm
        go_wp2_with (first | (go_at_call 31; refine (may_calls f0 f1 f2 _ (by omega) (HTA.out _)).mono ?_; rintro e w1 ⟨rfl, hb1⟩; rw [HM.out]; have BK := blk_below (blk_new wr _) hb1; have kc0 := (blk_cell BK 0).trans rfl; have kc1 := (blk_cell BK 1).trans rfl; have kc2 := (blk_cell BK 2).trans rfl; have HO3 := Aside0.mk (Kd.R_below (Kd.R_alloc HO2.out _) hb1); have HB1 := Aside0.mk (below_step (HBA.out _) hb1); clear hb1 BK) | (go_at_call 48; refine (value_key.calls KK (fun _ => True) u4 pre f0 f1 f2 _ w w1 HB1.out HO3.out HK.out).mono ?_; rintro e w2 ⟨v0, rfl, ho, hb2, _⟩; have HO4 := Aside0.mk (Kd.R_mono ho (fun _ _ => trivial)); have HB2 := Aside0.mk hb2; clear ho hb2))
        go_roundw
        case rel => exact ⟨i + 1, by go_num, by omega, by rw [take_at HV.out, kb_snoc, HPre.out]; exact HO4.out, fun u hu => by
          rw [take_at HV.out] at hu
          rcases List.mem_append.1 hu with h | h
          · exact HA.out u h
          · obtain rfl := List.mem_singleton.1 h; exact HM.out, HB2.out⟩
        case measure => simp [intOf]; omega
      · have HM : Aside0 (mayB f0 f1 f2 = false) := ⟨by simpa using hm⟩
        have E : Aside0 (l.all mayV = false) := ⟨by
          rw [List.all_eq_false]
          exact ⟨_, mem_at HV.out, by unfold mayV; rw [HM.out]; simp⟩⟩
        clear hm
        go_wp2_with (first | (go_at_call 31; refine (may_calls f0 f1 f2 _ (by omega) (HTA.out _)).mono ?_; rintro e w1 ⟨rfl, hb1⟩; rw [HM.out]; have HB1 := Aside0.mk (below_step (HBA.out _) hb1); clear hb1))
        go_ret2
        exact ⟨by unfold keyR keyE; rw [E.out]; rfl, HB1.out⟩
    · have hi2 : i = l.length := by omega
      subst hi2
      have E : Aside0 (l.all mayV = true) := ⟨by
        rw [List.all_eq_true]
        intro u hu
        exact HA.out u (by rw [List.take_of_length_le (Nat.le_refl _)]; exact hu)⟩
      have HO2 : Aside0 (Kd.R (Kd.int .u8) 5 wr w.heap.size (fun _ => True) u4 (kb l)) := ⟨by have h := HO.out; rw [List.take_of_length_le (Nat.le_refl _)] at h; exact h⟩
      obtain ⟨A4, c4, rfl, hc4, hC4⟩ := Kd.R_reads HO2.out
      have hcs : (convert 25 9 (.slice A4 (kb l).length c4)).run Tryd.prog wr = .ok (.string (strOfNums (kb l))) wr := Kd.C_string Tryd.underlying25 Tryd.underlying5 Tryd.underlying9 hC4
      clear hC4
      go_wp2
      go_ret2
      exact ⟨by unfold keyR keyE; rw [E.out]; rfl, HB.out⟩
theorem same_l0 (l : List V) (hl : l.length ≤ 100000) : ∀ (d i : Nat), l.length - i = d → i ≤ l.length → pantographref03_Same.l0 (d + 1) l l (i : Int) = some true := by
  intro d
  induction d with
  | zero =>
    intro i hd hi
    rw [pantographref03_Same.l0, if_neg (by omega)]
  | succ d ih =>
    intro i hd hi
    have e : wrap64 ((i : Int) + 1) = ((i + 1 : Nat) : Int) := by unfold wrap64; omega
    rw [pantographref03_Same.l0, if_pos (by omega), if_pos (by omega), if_pos (by omega), if_neg (by simp), e]
    exact ih (i + 1) (by omega) (by omega)
theorem same_f (l : List V) (hl : l.length ≤ 100000) : ∃ K, pantographref03_Same.f K l l = some true :=
  ⟨_, by unfold pantographref03_Same.f; rw [if_pos rfl]; exact same_l0 l hl _ 0 rfl (Nat.zero_le _)⟩
theorem same_calls (A : Option Addr) (c : Nat) (A1 : Option Addr) (c1 : Nat) (l : List V) (w : World) (hr : Kd.C k51 w A l.length l) (hc : l.length ≤ c) (hr1 : Kd.C k51 w A1 l.length l) (hc1 : l.length ≤ c1) (hl : l.length ≤ 100000) :
    Calls Tryd.prog 17 #[.slice A l.length c, .slice A1 l.length c1] w fun e w' => e = .returned (.bool true) ∧ Below w.heap.size w w' := by
  obtain ⟨K, hK⟩ := same_f l hl
  refine (pantographref03_Same.calls K A c l A1 c1 l true w hr hc hr1 hc1 hK).mono ?_
  rintro e w' ⟨he, n, rfl⟩
  exact ⟨he, pw_below_drewN (Below.refl _ _) _⟩
end Go.Proofs.YtaddlkokencbkaaDoor.VKeyB
namespace Go.Proofs.YtaddlkokencbkaaDoor.RowValueKeysW
open Go.RowKit Go.Proofs.YtaddlkokencbkaaDoorW.PrintWords Go.Proofs.YtaddlkokencbkaaDoorW.PrintLast Go.Proofs.YtaddlkokencbkaaDoorW.PrintMore Go.Proofs.YtaddlkokencbkaaDoor.Q Go.Proofs.YtaddlkokencbkaaDoor.Shelf Go.Proofs.YtaddlkokencbkaaDoor.May Go.Proofs.YtaddlkokencbkaaDoor.VKeyW Go.Proofs.YtaddlkokencbkaaDoor.OpenV Go.Proofs.YtaddlkokencbkaaDoor.Vals Go.Proofs.YtaddlkokencbkaaDoor.VOrd Go.Proofs.YtaddlkokencbkaaDoor.Plain Go.Proofs.YtaddlkokencbkaaDoor.Values Go.Proofs.YtaddlkokencbkaaDoor.VPure
set_option linter.unusedVariables false
set_option linter.unusedSimpArgs false
theorem keyR_none {l : List V} (h : l.all mayV = false) : keyR l = [] := by unfold keyR; rw [h]; rfl
theorem keyE_none {l : List V} (h : l.all mayV = false) : keyE l = 1 := by unfold keyE; rw [h]; rfl
theorem key_c (A : Option Addr) (c n : Nat) (l : List V) (k : ByteArray) (e : Int) (w : World) (hn : l.length = n) (hr : Kd.C k51 w A n l) (hc : n ≤ c) (hs : ∀ v ∈ l, v.f2.size ≤ 140737488355000) (h6 : n ≤ 1000) (hT : Tabs w) (hk : strOfNums (keyR l) = k) (he : keyE l = e) :
    Calls Tryd.prog 25 #[.slice A n c] w fun en w' => en = .returned (.tuple #[.string k, .int .i64 e]) ∧ Below w.heap.size w w' := by
  subst hn hk he
  exact VKeyB.key_any A c l w hr hc hs h6 hT
theorem goods_c (A : Option Addr) (c n : Nat) (l x : List V) (w : World) (hn : l.length = n) (hr : Kd.C k51 w A n l) (hc : n ≤ c) (hx : goodsL l 6 = x) :
    Calls Tryd.prog 24 #[.slice A n c, .int .i64 6] w fun e w' => ∃ A1 c1, e = .returned (.slice A1 x.length c1) ∧ x.length ≤ c1 ∧ Kd.C k51 w' A1 x.length x ∧ Below w.heap.size w w' := by
  subst hn
  exact Cmp3.goodsM A c 6 l x w hr hc (by omega) hx
theorem values_c (s : ByteArray) (l : List V) (w : World) (hs : s.size ≤ 100000) (hT : Tabs w) (ho : valsP s.size s = some l) :
    Calls Tryd.prog 34 #[.string s] w fun e w' => ∃ A c, e = .returned (.tuple #[.slice A l.length c, .int .i64 0]) ∧ l.length ≤ c ∧ Kd.C k51 w' A l.length l ∧ Below w.heap.size w w' := by
  refine (values_calls s (some l) w hs hT ho).mono ?_
  rintro e w' ⟨⟨A, c, h1, h2, h3⟩, hb⟩
  exact ⟨A, c, h1, h2, h3, hb⟩
set_option maxHeartbeats 4000000 in
set_option maxRecDepth 100000 in
theorem walk (A : Option Addr) (c n0 n : Nat) (l x : List V) (S : ByteArray) (w : World) (hr : Kd.C k51 w A n l) (hc : n ≤ c) (hn : l.length = n) (hn6 : n ≤ 6) (h0 : (6 < n0 ∧ n = 6) ∨ (n0 ≤ 6 ∧ n0 = n)) (hc0 : n0 ≤ c)
    (hs : ∀ v ∈ l, v.f2.size ≤ 140737488355000) (hT : Tabs w) (hP : Pow w) (hx : goodsL l 6 = x) (lx : x.length ≤ 6) (sx : ∀ v ∈ x, v.f2.size ≤ 40) (ax : x.all mayV = true) (hS : strOfNums (kb x) = S) (hSs : S.size ≤ 100000) (hv : valsP S.size S = some x) :
    Calls Tryd.prog 9 #[.slice A n0 c] w fun e w' => e = .returned (.bool true) ∧ Below w.heap.size w w' := by
  have H0 : Aside0 (((6 : Int) < (n0 : Int) ∧ 6 ≤ n0 ∧ n = 6 ∧ 6 ≤ c) ∨ (¬ (6 : Int) < (n0 : Int) ∧ n0 = n)) := ⟨by
    rcases h0 with ⟨h, e⟩ | ⟨h, e⟩
    · exact .inl ⟨by omega, by omega, e, by omega⟩
    · exact .inr ⟨by omega, e⟩⟩
  have HR := Aside0.mk hr
  have HC := Aside0.mk hc
  have HN := Aside0.mk hn
  have HS := Aside0.mk hs
  have HT := Aside0.mk hT
  have HP := Aside0.mk hP
  have HX := Aside0.mk hx
  have LX := Aside0.mk lx
  have SX := Aside0.mk sx
  have AX := Aside0.mk ax
  have HSS := Aside0.mk hS
  have HSZ := Aside0.mk hSs
  have HV := Aside0.mk hv
  clear hr hc hn h0 hs hT hP hx lx sx ax hS hSs hv hc0
  have cee : ∀ y : List UInt8, (y == y) = true := by simp
  go_enter Tryd.func9, Tryd.ntmps9
  go_upto_if 15 with fail
  go_cut [0] (fun v0 wx => v0 = .slice A n c ∧ w = wx)
  case first =>
    rcases H0.out with ⟨c1, csz, c2, c3⟩ | ⟨c1, c2⟩
    · subst c2
      go_wp2_with fail
      go_meet
      exact ⟨rfl, rfl⟩
    · subst c2
      go_wp2_with fail
      go_meet
      exact ⟨rfl, rfl⟩
  case rest =>
  obtain ⟨rfl, rfl⟩ := hcut
  go_wp2_with fail
  go_loopw [3, 4] (fun v3 v4 wr => ∃ i : Nat, v4 = .int .i64 (i : Int) ∧ i ≤ n ∧ v3 = .bool ((l.take i).all mayV) ∧ Below w.heap.size w wr) (fun _ v4 _ => (n - intOf v4).toNat)
  case atStart => exact ⟨0, rfl, Nat.zero_le _, rfl, Below.refl _ _⟩
  case round =>
    obtain ⟨i, rfl, hi, rfl, hb⟩ := hrel
    have HB := Aside0.mk hb
    clear hb
    by_cases hil : i < n
    · have d1 : decide ((i : Int) < (n : Int)) = true := decide_eq_true (by omega)
      obtain ⟨ad, pp, u, rfl, hpp, hu, q0, q1, q2⟩ := C3 (Kd.C_below HR.out HB.out) i hil
      have HU := Aside0.mk hu
      clear hu
      obtain ⟨f0, f1, f2⟩ := u
      dsimp only at q0 q1 q2
      have HZU : Aside0 (f2.size ≤ 140737488355000) := ⟨HS.out _ (mem_at HU.out)⟩
      obtain ⟨a, ha⟩ : ∃ a, (l.take i).all mayV = a := ⟨_, rfl⟩
      obtain ⟨b, hb⟩ : ∃ b, mayB f0 f1 f2 = b := ⟨_, rfl⟩
      have HBB := Aside0.mk hb
      have HA2 : Aside0 ((l.take (i + 1)).all mayV = (a && b)) := ⟨by
        rw [take_at HU.out, List.all_append, ha]
        simp only [List.all_cons, List.all_nil, Bool.and_true]
        unfold mayV
        rw [hb]⟩
      rw [ha]
      clear ha hb
      cases a
      · go_wp2_with (first | (go_at_call 32; refine (May3.refmay_calls f0 f1 f2 b _ (by have := HZU.out; omega) HBB.out).mono ?_; rintro e w5 ⟨rfl, hb5⟩; have HB5 := Aside0.mk (below_step HB.out hb5); clear hb5))
        go_roundw
        case rel => exact ⟨i + 1, by go_num, by omega, by rw [HA2.out]; rfl, HB5.out⟩
        case measure => simp [intOf]; omega
      · go_wp2_with (first | (go_at_call 32; refine (May3.refmay_calls f0 f1 f2 b _ (by have := HZU.out; omega) HBB.out).mono ?_; rintro e w5 ⟨rfl, hb5⟩; have HB5 := Aside0.mk (below_step HB.out hb5); clear hb5))
        go_roundw
        case rel => exact ⟨i + 1, by go_num, by omega, by rw [HA2.out]; rfl, HB5.out⟩
        case measure => simp [intOf]; omega
    · have d1 : decide ((i : Int) < (n : Int)) = false := decide_eq_false (by omega)
      have HRW := Aside0.mk (Kd.C_below HR.out HB.out)
      obtain ⟨a, ha⟩ : ∃ a, l.all mayV = a := ⟨_, rfl⟩
      rw [List.take_of_length_le (by rw [HN.out]; omega), ha]
      obtain ⟨k, e, hk, he, hke⟩ : ∃ k e, strOfNums (keyR l) = k ∧ keyE l = e ∧ ((a = true ∧ e = 0) ∨ (a = false ∧ e = 1 ∧ k = ⟨#[]⟩)) := by
        refine ⟨_, _, rfl, rfl, ?_⟩
        cases a
        · exact .inr ⟨rfl, keyE_none ha, by rw [keyR_none ha]; rfl⟩
        · exact .inl ⟨rfl, keyE_all ha⟩
      have HK := Aside0.mk hk
      have HE := Aside0.mk he
      clear ha hk he
      rcases hke with ⟨rfl, rfl⟩ | ⟨rfl, rfl, rfl⟩
      all_goals
        go_wp2_with (go_at_call 25; refine (key_c A c n l _ _ wr HN.out HRW.out HC.out HS.out (by omega) (Tabs.below HT.out HB.out) HK.out HE.out).mono ?_)
        rintro en w2 ⟨rfl, hb2⟩
        have HB2 := Aside0.mk (below_step HB.out hb2)
        have HR2 := Aside0.mk (Kd.C_below HRW.out hb2)
        clear hb2
        go_wp2_with (go_at_call 24; refine (goods_c A c n l x w2 HN.out HR2.out HC.out HX.out).mono ?_)
        rintro en w3 ⟨A3, c3, rfl, hc3, hC3, hb3⟩
        have HB3 := Aside0.mk (below_step HB2.out hb3)
        have HC3 := Aside0.mk hC3
        have HCC3 := Aside0.mk hc3
        clear hC3 hc3 hb3
        go_wp2_with (go_at_call 25; refine (key_c A3 c3 x.length x S 0 w3 rfl HC3.out HCC3.out (fun v hv => by have := SX.out v hv; omega) (by have := LX.out; omega) (Tabs.below HT.out HB3.out) (by rw [keyR_all AX.out]; exact HSS.out) (keyE_all AX.out)).mono ?_)
        rintro en w4 ⟨rfl, hb4⟩
        have HB4 := Aside0.mk (below_step HB3.out hb4)
        have HC4 := Aside0.mk (Kd.C_below HC3.out hb4)
        clear hb4
        go_wp2_with (go_at_call 34; refine (values_c S x w4 HSZ.out (Tabs.below HT.out HB4.out) HV.out).mono ?_)
        rintro en w5 ⟨A5, c5, rfl, hc5, hC5, hb5⟩
        have HB5 := Aside0.mk (below_step HB4.out hb5)
        have HC5 := Aside0.mk hC5
        have HCC5 := Aside0.mk hc5
        have HG5 := Aside0.mk (Kd.C_below HC4.out hb5)
        clear hC5 hc5 hb5
        go_wp2_with (go_at_call 35; refine (RKey.refkey_calls A3 c3 x S w5 HG5.out HCC3.out (fun v hv => by have := SX.out v hv; omega) (by have := LX.out; omega) HSS.out).mono ?_)
        rintro en w6 ⟨rfl, hb6⟩
        have HB6 := Aside0.mk (below_step HB5.out hb6)
        have HG6 := Aside0.mk (Kd.C_below HG5.out hb6)
        have HC6 := Aside0.mk (Kd.C_below HC5.out hb6)
        clear hb6
        go_wp2_with (first | (go_at_call 17; refine (VKeyB.same_calls A5 c5 A3 c3 x w6 HC6.out HCC5.out HG6.out HCC3.out (by have := LX.out; omega)).mono ?_; rintro e w7 ⟨rfl, hb7⟩; have HB7 := Aside0.mk (below_step HB6.out hb7); clear hb7) | (go_at_call 27; refine (Lives3.lives_calls _ (Tabs.below HT.out HB7.out) (Show.Pow.below HP.out HB7.out)).mono ?_; rintro e w9 ⟨rfl, hb9⟩; have HB9 := Aside0.mk (below_step HB7.out hb9); clear hb9))
        go_ret
        exact ⟨rfl, HB9.out⟩
theorem law_calls (A : Option Addr) (c : Nat) (l : List V) (w : World) (hr : Kd.C k51 w A l.length l) (hc : l.length ≤ c) (ok : ∀ y ∈ l, OkV y) (sm : ∀ y ∈ l, Small y) (hT : Tabs w) (hP : Pow w) :
    Calls Tryd.prog 9 #[.slice A l.length c] w fun e w' => e = .returned (.bool true) ∧ Below w.heap.size w w' := by
  have ok6 : ∀ y ∈ l.take 6, OkV y := fun y hy => ok y (List.mem_of_mem_take hy)
  have hlen : (l.take 6).length = min 6 l.length := List.length_take
  have hkl := kb_len 40 (goodsL (l.take 6) 6) (goods_size _ 6)
  have hgl := goods_len (l.take 6) 6
  have hsz : (strOfNums (kb (goodsL (l.take 6) 6))).size ≤ 100000 := by
    rw [Cmp3.str_size]
    have : (2 * 40 + 9) * (goodsL (l.take 6) 6).length ≤ (2 * 40 + 9) * 6 := Nat.mul_le_mul_left _ hgl
    omega
  exact walk A c l.length (l.take 6).length (l.take 6) (goodsL (l.take 6) 6) _ w (by
      by_cases h : 6 ≤ l.length
      · exact Kd.C_take hr h
      · have e : l.take 6 = l := List.take_of_length_le (by omega)
        rw [e]; exact hr) (by omega) rfl (by omega) (by omega) hc
    (fun v hv => by have := sm v (List.mem_of_mem_take hv); unfold Small reachBytes at this; omega) hT hP rfl hgl (goods_size _ 6) (goods_all ok6 6) rfl hsz
    (vals_full _ _ (goods_fine ok6 6) (by rw [Cmp3.str_size]; exact Nat.le_refl _))
end Go.Proofs.YtaddlkokencbkaaDoor.RowValueKeysW
