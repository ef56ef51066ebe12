/- The walk of the law ValueParts: the key of two lists, one behind the other, is their keys, one behind the other. No condition. -/
import Derived.Test.YtaddlkokencbkaaDoorVals
import Derived.Test.YtaddlkokencbkaaDoorLives3
namespace Go.Proofs.YtaddlkokencbkaaDoor.RowValuePartsW
open Go.RowKit Go.Proofs.YtaddlkokencbkaaDoorW.PrintWords Go.Proofs.YtaddlkokencbkaaDoorW.PrintLast Go.Proofs.YtaddlkokencbkaaDoorW.PrintMore Go.Proofs.YtaddlkokencbkaaDoor.Q Go.Proofs.YtaddlkokencbkaaDoor.Shelf Go.Proofs.YtaddlkokencbkaaDoor.May Go.Proofs.YtaddlkokencbkaaDoor.VKeyW Go.Proofs.YtaddlkokencbkaaDoor.OpenV Go.Proofs.YtaddlkokencbkaaDoor.Vals
set_option linter.unusedVariables false
set_option linter.unusedSimpArgs false
theorem str_append (l m : List Int) : strOfNums l ++ strOfNums m = strOfNums (l ++ m) := by
  apply ByteArray.ext
  apply Array.ext'
  rw [ByteArray.data_append, Array.toList_append, strOfNums_data, strOfNums_data, strOfNums_data, List.map_append]
theorem str_size (l : List Int) : (strOfNums l).size = l.length := by
  show (strOfNums l).data.size = _
  rw [← Array.length_toList, strOfNums_data, List.length_map]
/-- What Goods gives: a slice of values that may be. -/
theorem goods4 (A : Option Addr) (c : Nat) (l x : List V) (w : World) (hr : Kd.C k51 w A l.length l) (hc : l.length ≤ c) (hx : goodsL l 4 = x) :
    Calls Tryd.prog 24 #[.slice A l.length c, .int .i64 4] w fun e w' => ∃ A1 c1, e = .returned (.slice A1 x.length c1) ∧ x.length ≤ c1 ∧ Kd.C k51 w' A1 x.length x ∧ Below w.heap.size w w' := by
  subst hx
  obtain ⟨k, h⟩ := goods_f l hr.2.1 4 (by omega)
  refine (pantographref03_Goods.calls k A c l 4 _ w hr hc h).mono ?_
  rintro e w' ⟨v, rfl, hR, hb⟩
  obtain ⟨A1, c1, rfl, h1, h2⟩ := Kd.R_reads hR
  exact ⟨A1, c1, rfl, h1, h2, hb⟩
/-- value.Key of values that may be. -/
theorem key_good (A : Option Addr) (c : Nat) (l : List V) (k : List Int) (w : World) (hr : Kd.C k51 w A l.length l) (hc : l.length ≤ c) (hs : ∀ v ∈ l, v.f2.size ≤ 40) (hn : l.length ≤ 1000) (hT : Tabs w) (ha : l.all mayV = true) (hk : kb l = k) :
    Calls Tryd.prog 25 #[.slice A l.length c] w fun e w' => e = .returned (.tuple #[.string (strOfNums k), .int .i64 0]) ∧ Below w.heap.size w w' := by
  subst hk
  have := key_calls A c l w hr hc (fun v hv => by have := hs v hv; omega) hn hT
  rw [keyR_all ha, keyE_all ha] at this
  exact this
set_option maxHeartbeats 4000000 in
theorem law_calls (A : Option Addr) (c : Nat) (l : List V) (A1 : Option Addr) (c1 : Nat) (l1 : List V) (w : World) (hr : Kd.C k51 w A l.length l) (hc : l.length ≤ c) (ok : ∀ y ∈ l, OkV y) (sm : ∀ y ∈ l, Small y)
    (hr1 : Kd.C k51 w A1 l1.length l1) (hc1 : l1.length ≤ c1) (ok1 : ∀ y ∈ l1, OkV y) (sm1 : ∀ y ∈ l1, Small y) (hT : Tabs w) (hP : Pow w) :
    Calls Tryd.prog 7 #[.slice A l.length c, .slice A1 l1.length c1] w fun e w' => e = .returned (.bool true) ∧ Below w.heap.size w w' := by
  have ga := goods_all ok 4
  have gb := goods_all ok1 4
  have sa := goods_size l 4
  have sb := goods_size l1 4
  have na := goods_len l 4
  have nb := goods_len l1 4
  obtain ⟨x, hx⟩ : ∃ x, goodsL l 4 = x := ⟨_, rfl⟩
  obtain ⟨y, hy⟩ : ∃ y, goodsL l1 4 = y := ⟨_, rfl⟩
  rw [hx] at ga sa na
  rw [hy] at gb sb nb
  have gab : (x ++ y).all mayV = true := by rw [List.all_append, ga, gb]; rfl
  have sab : ∀ v ∈ x ++ y, v.f2.size ≤ 40 := fun v hv => by
    rcases List.mem_append.1 hv with h | h
    · exact sa v h
    · exact sb v h
  have la := kb_len 40 x sa
  have lb := kb_len 40 y sb
  obtain ⟨s, hs⟩ : ∃ s, kb x = s := ⟨_, rfl⟩
  obtain ⟨t, ht⟩ : ∃ t, kb y = t := ⟨_, rfl⟩
  have hst : kb (x ++ y) = s ++ t := by rw [kb_append, hs, ht]
  rw [hs] at la
  rw [ht] at lb
  have hadd : ∀ W, (Op.stringOp .add (strOfNums s) (strOfNums t)).run Tryd.prog W = .ok (.string (strOfNums (s ++ t))) W := fun W => by
    have k := run_string_add_sum (P := Tryd.prog) (w := W) (strOfNums s) (strOfNums t) (by rw [str_size, str_size]; omega)
    rw [str_append] at k
    exact k
  have nab : (x ++ y).length ≤ 8 := by rw [List.length_append]; omega
  obtain ⟨z, hz⟩ : ∃ z, x ++ y = z := ⟨_, rfl⟩
  rw [hz] at gab sab hst nab
  have HX := Aside0.mk hx
  have HY := Aside0.mk hy
  have HZ := Aside0.mk hz
  have HS := Aside0.mk hs
  have HTt := Aside0.mk ht
  have HST := Aside0.mk hst
  have GA := Aside0.mk ga
  have GB := Aside0.mk gb
  have GAB := Aside0.mk gab
  have SA := Aside0.mk sa
  have SB := Aside0.mk sb
  have SAB := Aside0.mk sab
  have NA := Aside0.mk na
  have NB := Aside0.mk nb
  have NAB := Aside0.mk nab
  have HR := Aside0.mk hr
  have HR1 := Aside0.mk hr1
  have HC := Aside0.mk hc
  have HC1 := Aside0.mk hc1
  have HT := Aside0.mk hT
  have HP := Aside0.mk hP
  clear hx hy hz hs ht hst ga gb gab sa sb sab na nb nab hr hr1 hc hc1 hT hP la lb ok ok1
  have cee : ∀ y : List UInt8, (y == y) = true := by simp
  go_enter Tryd.func7, Tryd.ntmps7
  go_wp2_with (go_at_call 24; refine (goods4 A c l x w HR.out HC.out HX.out).mono ?_)
  rintro e w1 ⟨A2, c2, rfl, hc2, hC2, hb1⟩
  have HB1 := Aside0.mk hb1
  have HC2 := Aside0.mk hC2
  have HL2 := Aside0.mk hc2
  have HR1' := Aside0.mk (Kd.C_below HR1.out hb1)
  clear hb1 hC2 hc2
  go_wp2_with (go_at_call 24; refine (goods4 A1 c1 l1 y w1 HR1'.out HC1.out HY.out).mono ?_)
  rintro e w2 ⟨A3, c3, rfl, hc3, hC3, hb2⟩
  have HB2 := Aside0.mk (below_step HB1.out hb2)
  have HC3 := Aside0.mk hC3
  have HL3 := Aside0.mk hc3
  have HC2' := Aside0.mk (Kd.C_below HC2.out hb2)
  clear hb2 hC3 hc3
  go_wp2_with (at_builtin; refine Kd.R_append_rows k51 (w0 := w2) w2.heap.size rfl (.tmp 18) (.tmp 19) 34 51 (.agg #[(.int .i64 0), (.int .i64 0), (.string ⟨#[]⟩)]) 32 rfl Tryd.underlying34 info51 rfl (by decide) (by omega) (.slice none 0 0) ([] : List V) x _ _ _ (fun _ => True) (fun _ => False) rfl rfl ?aO ?aR (fun _ _ h => h) (fun _ h => h.elim) ?aF ?aB ?aS ?aL ?_)
  case aO => exact Kd.R_nil _ _ _ _ _
  case aR => exact HC2'.out
  case aF => exact fun _ _ => trivial
  case aB => exact Below.refl _ _
  case aS => exact Nat.le_refl _
  case aL => have := NA.out; simp; omega
  intro v3 w3 hR3 hb3 _ _
  try rw [List.nil_append] at hR3
  have HR3 := Aside0.mk hR3
  have HB3 := Aside0.mk hb3
  clear hR3 hb3
  go_wp2_with (at_builtin; refine Kd.R_append_rows k51 (w0 := w2) w2.heap.size rfl (.tmp 21) (.tmp 22) 34 51 (.agg #[(.int .i64 0), (.int .i64 0), (.string ⟨#[]⟩)]) 32 rfl Tryd.underlying34 info51 rfl (by decide) (by omega) v3 x y _ _ _ (fun _ => True) (fun _ => False) rfl rfl ?bO ?bR (fun _ _ h => h) (fun _ h => h.elim) ?bF ?bB ?bS ?bL ?_)
  case bO => exact HR3.out
  case bR => exact Kd.C_below HC3.out HB3.out
  case bF => exact fun _ _ => trivial
  case bB => exact HB3.out
  case bS => exact HB3.out.size
  case bL => have := NA.out; have := NB.out; omega
  intro v4 w4 hR4 hb4 _ _
  rw [HZ.out] at hR4
  obtain ⟨A4, c4, rfl, hc4, hC4⟩ := Kd.R_reads hR4
  have HB4 := Aside0.mk (below_step HB2.out hb4)
  have HC4 := Aside0.mk hC4
  have HL4 := Aside0.mk hc4
  have HCx := Aside0.mk (Kd.C_below HC2'.out hb4)
  have HCy := Aside0.mk (Kd.C_below HC3.out hb4)
  clear hR4 hb4 hC4 hc4
  go_wp2_with (go_at_call 25; refine (key_good A2 c2 x s w4 HCx.out HL2.out SA.out (by have := NA.out; omega) (Tabs.below HT.out HB4.out) GA.out HS.out).mono ?_)
  rintro e w5 ⟨rfl, hb5⟩
  have HB5 := Aside0.mk (below_step HB4.out hb5)
  have HCy5 := Aside0.mk (Kd.C_below HCy.out hb5)
  have HC45 := Aside0.mk (Kd.C_below HC4.out hb5)
  clear hb5
  go_wp2_with (go_at_call 25; refine (key_good A3 c3 y t w5 HCy5.out HL3.out SB.out (by have := NB.out; omega) (Tabs.below HT.out HB5.out) GB.out HTt.out).mono ?_)
  rintro e w6 ⟨rfl, hb6⟩
  have HB6 := Aside0.mk (below_step HB5.out hb6)
  have HC46 := Aside0.mk (Kd.C_below HC45.out hb6)
  clear hb6
  go_wp2_with (go_at_call 25; refine (key_good A4 c4 z (s ++ t) w6 HC46.out HL4.out SAB.out (by have := NAB.out; omega) (Tabs.below HT.out HB6.out) GAB.out HST.out).mono ?_)
  rintro e w7 ⟨rfl, hb7⟩
  have HB7 := Aside0.mk (below_step HB6.out hb7)
  clear hb7
  go_wp2_with (go_at_call 27; refine (Lives3.lives_calls w7 (Tabs.below HT.out HB7.out) (Show.Pow.below HP.out HB7.out)).mono ?_)
  rintro e w8 ⟨rfl, hb8⟩
  have HB8 := Aside0.mk (below_step HB7.out hb8)
  clear hb8
  go_wp2
  go_ret
  exact ⟨rfl, HB8.out⟩
end Go.Proofs.YtaddlkokencbkaaDoor.RowValuePartsW
