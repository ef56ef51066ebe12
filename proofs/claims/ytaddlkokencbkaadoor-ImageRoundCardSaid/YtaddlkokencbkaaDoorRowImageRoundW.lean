/- The walk of the law ImageRound: what is written is read as it was, whatever stands behind it. No condition. -/
import Derived.Test.YtaddlkokencbkaaDoorLawT
import Derived.Test.YtaddlkokencbkaaDoorImgR
import Derived.Test.YtaddlkokencbkaaDoorRoundP
import Derived.Test.YtaddlkokencbkaaDoorQ6
import Derived.Deep.DeepCutAuto
namespace Go.Proofs.YtaddlkokencbkaaDoor.RowImageRoundW
open Go.RowKit Go.Proofs.YtaddlkokencbkaaDoorW.PrintWords Go.Proofs.YtaddlkokencbkaaDoorW.PrintLast Go.Proofs.YtaddlkokencbkaaDoorW.PrintMore Go.Proofs.YtaddlkokencbkaaDoor.Q Go.Proofs.YtaddlkokencbkaaDoor.Plain Go.Proofs.YtaddlkokencbkaaDoor.Exact Go.Proofs.YtaddlkokencbkaaDoor.OpenA Go.Proofs.YtaddlkokencbkaaDoor.Shelf Go.Proofs.YtaddlkokencbkaaDoor.May Go.Proofs.YtaddlkokencbkaaDoor.Rd Go.Proofs.YtaddlkokencbkaaDoor.RdN Go.Proofs.YtaddlkokencbkaaDoor.Fits Go.Proofs.YtaddlkokencbkaaDoor.Bits Go.Proofs.YtaddlkokencbkaaDoor.Row Go.Proofs.YtaddlkokencbkaaDoor.Take Go.Proofs.YtaddlkokencbkaaDoor.Law5 Go.Proofs.YtaddlkokencbkaaDoor.Img Go.Proofs.YtaddlkokencbkaaDoor.Put Go.Proofs.YtaddlkokencbkaaDoor.RoundP
set_option linter.unusedVariables false
set_option linter.unusedSimpArgs false
theorem few20 (w : World) (A : Option Addr) (l : List Int) (c : Nat) (hc : l.length ≤ c) :
    Calls Tryd.prog 13 #[.slice A l.length c, .int .i64 20] w fun r w' => r = .returned (.slice A (l.take 20).length c) ∧ w = w' := by
  by_cases hl : 20 < l.length
  · have c1 : decide ((l.length : Int) > 20) = true := decide_eq_true (by omega)
    have E : Aside0 ((l.take 20).length = 20) := ⟨by rw [List.length_take]; omega⟩
    go_enter Tryd.func13, Tryd.ntmps13
    go_wp2
    go_ret
    exact ⟨by rw [E.out]; rfl, rfl⟩
  · have c1 : decide ((l.length : Int) > 20) = false := decide_eq_false (by omega)
    have E : Aside0 ((l.take 20).length = l.length) := ⟨by rw [List.length_take]; omega⟩
    go_enter Tryd.func13, Tryd.ntmps13
    go_wp2
    go_ret
    exact ⟨by rw [E.out]; rfl, rfl⟩
theorem iw (K : Nat) (A1 : Option Addr) (c1 : Nat) (l1 : List Col) (a : Int) (A2 : Option Addr) (c2 : Nat) (l2 : List V) (r : List Int) (w : World) (hr1 : Kd.C k69 w A1 l1.length l1) (hc1 : l1.length ≤ c1) (hr2 : Kd.C k51 w A2 l2.length l2) (hc2 : l2.length ≤ c2) (h : image_Write.f K [] l1 a l2 = some r) :
    Calls Tryd.prog 22 #[.slice none 0 0, .agg #[.slice A1 l1.length c1, .int .i64 a], .slice A2 l2.length c2] w fun e w' => ∃ v : Value, e = .returned v ∧ Kd.R (Kd.int .u8) 5 w' w.heap.size (fun _ => True) v r ∧ Below w.heap.size w w' :=
  image_Write.calls K none 0 [] A1 c1 l1 a A2 c2 l2 r w (Kd.C_nil _ _) (Nat.le_refl _) hr1 hc1 hr2 hc2 h
theorem ik (K : Nat) (A1 : Option Addr) (c1 : Nat) (l1 : List Col) (a : Int) (A2 : Option Addr) (c2 : Nat) (l2 : List V) (r : List Int) (w : World) (hr1 : Kd.C k69 w A1 l1.length l1) (hc1 : l1.length ≤ c1) (hr2 : Kd.C k51 w A2 l2.length l2) (hc2 : l2.length ≤ c2) (h : image_WriteKey.f K [] l1 a l2 = some r) :
    Calls Tryd.prog 23 #[.slice none 0 0, .agg #[.slice A1 l1.length c1, .int .i64 a], .slice A2 l2.length c2] w fun e w' => ∃ v : Value, e = .returned v ∧ Kd.R (Kd.int .u8) 5 w' w.heap.size (fun _ => True) v r ∧ Below w.heap.size w w' :=
  image_WriteKey.calls K none 0 [] A1 c1 l1 a A2 c2 l2 r w (Kd.C_nil _ _) (Nat.le_refl _) hr1 hc1 hr2 hc2 h
theorem samen (A A1 : Option Addr) (c c1 n : Nat) (l : List V) (w : World) (hn : l.length = n) (hl : n ≤ 100000) (hr : Kd.C k51 w A n l) (hc : n ≤ c) (hr1 : Kd.C k51 w A1 n l) (hc1 : n ≤ c1) :
    Calls Tryd.prog 17 #[.slice A n c, .slice A1 n c1] w fun e w' => e = .returned (.bool true) ∧ ∃ m, w' = w.drewN m := by
  subst hn
  exact same_calls A A1 c c1 l w hl hr hc hr1 hc1
set_option maxHeartbeats 4000000 in
set_option maxRecDepth 100000 in
theorem walk (K : Nat) (A : Option Addr) (c : Nat) (l : List Col) (k : Int) (A1 : Option Addr) (c1 : Nat) (l1 : List V) (A2 : Option Addr) (c2 : Nat) (l2 : List Int) (w : World)
    (hr : Kd.C k69 w A l.length l) (hc : l.length ≤ c) (hr1 : Kd.C k51 w A1 l1.length l1) (hc1 : l1.length ≤ c1) (hr2 : Kd.C (Kd.int .u8) w A2 l2.length l2) (hc2 : l2.length ≤ c2) (hT : Tabs w)
    (cs ck : List Col) (n : Nat) (p pk : List V) (e1 : pantographref04_Good.f K l k = some (cs, (n : Int))) (e2 : pantographref04_Row.f K cs (n : Int) l1 = some p) (h1 : 1 ≤ n) (hn : n ≤ cs.length) (h6 : cs.length ≤ 6) (hp : p.length = cs.length) (hk : KindsOk cs) (hck : cs.take n = ck) (hpk : p.take n = pk)
    (b d1 d2 q1 q2 : List Int) (hb : l2.take 20 = b) (hq1 : d1 ++ b = q1) (hq2 : d2 ++ b = q2) (z1 : d1.length ≤ 10000) (z2 : d2.length ≤ 10000) (hby1 : ∀ x ∈ q1, 0 ≤ x ∧ x < 256) (hby2 : ∀ x ∈ q2, 0 ≤ x ∧ x < 256)
    (e3 : image_Write.f K [] cs (n : Int) p = some d1) (e5 : image_WriteKey.f K [] cs (n : Int) p = some d2) (e7 : pantographlaw05_lives.f K = some true)
    (hok : okB cs (byteV q1 0) (byteL q1 0) (byteE q1 0) = true) (hrow : rowR cs (byteV q1 0) (byteL q1 0) (byteE q1 0) = (p, b, 0))
    (hok' : okB ck (byteV q2 0) (byteL q2 0) (byteE q2 0) = true) (hrow' : rowR ck (byteV q2 0) (byteL q2 0) (byteE q2 0) = (pk, b, 0)) :
    Calls Tryd.prog 4 #[.agg #[.slice A l.length c, .int .i64 k], .slice A1 l1.length c1, .slice A2 l2.length c2] w fun e w' => e = .returned (.bool true) ∧ Below w.heap.size w w' := by
  have HR := Aside0.mk hr
  have HR1 := Aside0.mk hr1
  have HR2 := Aside0.mk hr2
  have HT := Aside0.mk hT
  have E1 := Aside0.mk e1
  have E2 := Aside0.mk e2
  have E3 := Aside0.mk e3
  have E5 := Aside0.mk e5
  have E7 := Aside0.mk e7
  have HK := Aside0.mk hk
  have HCK := Aside0.mk hck
  have HPK := Aside0.mk hpk
  have HPL := Aside0.mk hp
  have HKL : Aside0 (pk.length = n) := ⟨by rw [← hpk, List.length_take]; omega⟩
  have HBY1 := Aside0.mk hby1
  have HBY2 := Aside0.mk hby2
  have HOK := Aside0.mk hok
  have HOK' := Aside0.mk hok'
  have HVS : Aside0 ((rowR cs (byteV q1 0) (byteL q1 0) (byteE q1 0)).1 = p) := ⟨by rw [hrow]⟩
  have HLF : Aside0 ((rowR cs (byteV q1 0) (byteL q1 0) (byteE q1 0)).2.1 = b) := ⟨by rw [hrow]⟩
  have HVS' : Aside0 ((rowR ck (byteV q2 0) (byteL q2 0) (byteE q2 0)).1 = pk) := ⟨by rw [hrow']⟩
  have HLF' : Aside0 ((rowR ck (byteV q2 0) (byteL q2 0) (byteE q2 0)).2.1 = b) := ⟨by rw [hrow']⟩
  obtain ⟨nb, hnb⟩ : ∃ nb, b.length = nb := ⟨_, rfl⟩
  have HNB := Aside0.mk hnb
  have HTL : Aside0 ((l2.take 20).length = nb) := ⟨by rw [hb, hnb]⟩
  have hb20 : nb ≤ 20 := by rw [← hnb, ← hb, List.length_take]; omega
  have HTB : Aside0 (∀ W, Kd.C (Kd.int .u8) W A2 l2.length l2 → Kd.C (Kd.int .u8) W A2 nb b) := ⟨fun W h => by
    have := Kd.C_take h (m := min 20 l2.length) (by omega)
    rw [← List.take_eq_take_min, hb, hnb] at this
    exact this⟩
  have HQ1 := Aside0.mk hq1
  have HQ2 := Aside0.mk hq2
  have hbc : nb ≤ c2 := by rw [← hnb, ← hb, List.length_take]; omega
  have hl31 : cs.length ≤ 9223372036854775807 := by omega
  have hpl : p.length ≤ 6 := by omega
  have hnp : n ≤ p.length := by omega
  clear hr hr1 hr2 hT e1 e2 e3 e5 e7 hk hck hpk hp hby1 hby2 hok hok' hrow hrow' hnb hb hq1 hq2
  go_enter Tryd.func4, Tryd.ntmps4
  go_upto_region 4 with (first | (go_at_call 12; refine (pantographref04_Good.calls K A c l k cs n _ ?hR hc E1.out).mono ?_; (case hR => exact Kd.C_alloc HR.out _); rintro e w1 ⟨v, rfl, ho, hbl⟩; obtain ⟨A3, c3, rfl, hc3, hC3⟩ := Kd.R_reads ho; have HC3 := Aside0.mk hC3; have HB1 := Aside0.mk hbl; clear ho hbl hC3) | (go_at_call 21; refine (pantographref04_Row.calls K A3 c3 cs n A1 c1 l1 p _ ?hR hc3 ?hR1 hc1 E2.out).mono ?_; (case hR => exact Kd.C_alloc HC3.out _); (case hR1 => exact Kd.C_alloc (Kd.C_below (Kd.C_alloc HR1.out _) HB1.out) _); rintro e w2 ⟨v, rfl, ho, hbl⟩; obtain ⟨A4, c4, rfl, hc4, hC4⟩ := Kd.R_reads ho; have HC4 := Aside0.mk hC4; have HC32 := Aside0.mk (Kd.C_below (Kd.C_alloc HC3.out _) hbl); have BK := Aside0.mk (blk_below (blk_new w1 _) hbl); have HB2 := Aside0.mk (below_step (below_alloc (below_step (below_alloc (Below.refl w.heap.size w) _) HB1.out) _) hbl); have kc0 := (blk_cell BK.out 0).trans rfl; have kc1 := (blk_cell BK.out 1).trans rfl; clear ho hbl hC4) | (go_at_call 13; refine (few20 _ A2 l2 c2 hc2).mono ?_; rintro r wz ⟨rfl, rfl⟩; rw [HTL.out]))
  have HCB2 := Aside0.mk (HTB.out _ (Kd.C_below HR2.out HB2.out))
  generalize w1.heap.size = gs at BK kc0 kc1 ⊢
  clear HC3 HB1
  go_wp2_with (go_at_call 22; refine Calls.mono (iw K A3 c3 cs n A4 c4 p d1 w2 HC32.out hc3 HC4.out hc4 E3.out) ?_)
  rintro e w3 ⟨v, rfl, ho, hbl⟩
  have HV3 := Aside0.mk ho
  have HB3 := Aside0.mk hbl
  clear ho hbl
  go_wp2_with (at_builtin; refine Kd.R_append_rows (Kd.int .u8) (Rr := (Kd.int .u8).K w3) (w0 := w3) w2.heap.size rfl (.tmp 24) (.tmp 25) 25 5 (.int .u8 0) 1 rfl Tryd.underlying25 info5 rfl (by decide) (by omega) v d1 b A2 nb c2 (fun _ => True) (fun _ => False) rfl rfl HV3.out ?aR (fun _ _ h => h) (fun _ hk => hk.elim) (fun _ _ => trivial) ?aB ?aS ?aL ?_)
  case aR => exact HTB.out _ (Kd.C_below HR2.out (below_step HB2.out HB3.out))
  case aB => exact Below.refl _ _
  case aS => exact HB3.out.size
  case aL => omega
  intro v4 w4 ho hb hg _
  rw [HQ1.out] at ho
  obtain ⟨A4_, k4, rfl, hk4, hC4⟩ := Kd.R_reads ho
  have HC4_ := Aside0.mk hC4
  have HB4_ := Aside0.mk (HB3.out.trans hb)
  clear ho hb hg hC4
  go_upto_region 5 with (go_at_call 14; refine (read_calls w4 A4_ q1 k4 HC4_.out hk4).mono ?_; rintro r w5 ⟨gx, rfl, hgx, hrx, hbx⟩; have HRX := Aside0.mk hrx; have HBX := Aside0.mk (HB4_.out.trans (hbx.mono HB4_.out.size)); have hgx2 := Nat.le_trans HB4_.out.size hgx; clear hrx hbx hgx)
  clear HV3 HB3 HC4_ HB4_
  have BK5 := Aside0.mk (blk_below BK.out HBX.out)
  have HCS5 := Aside0.mk (Kd.C_below HC32.out HBX.out)
  have HCP5 := Aside0.mk (Kd.C_below HC4.out HBX.out)
  have HB5 := Aside0.mk (below_step HB2.out HBX.out)
  have hgsl := blk_lt BK.out
  have kc0 := (blk_cell BK5.out 0).trans rfl
  have kc1 := (blk_cell BK5.out 1).trans rfl
  go_wp2_with (go_at_call 23; refine Calls.mono (ik K A3 c3 cs n A4 c4 p d2 w5 HCS5.out hc3 HCP5.out hc4 E5.out) ?_)
  rintro e w6 ⟨v, rfl, ho, hbl⟩
  have HV6 := Aside0.mk ho
  have HB6 := Aside0.mk hbl
  clear ho hbl
  go_wp2_with (at_builtin; refine Kd.R_append_rows (Kd.int .u8) (Rr := (Kd.int .u8).K w6) (w0 := w6) w5.heap.size rfl (.tmp 30) (.tmp 31) 25 5 (.int .u8 0) 1 rfl Tryd.underlying25 info5 rfl (by decide) (by omega) v d2 b A2 nb c2 (fun _ => True) (fun _ => False) rfl rfl HV6.out ?aR (fun _ _ h => h) (fun _ hk => hk.elim) (fun _ _ => trivial) ?aB ?aS ?aL ?_)
  case aR => exact HTB.out _ (Kd.C_below HR2.out (below_step HB5.out HB6.out))
  case aB => exact Below.refl _ _
  case aS => exact HB6.out.size
  case aL => omega
  intro v7 w7 ho hb hg _
  rw [HQ2.out] at ho
  obtain ⟨A7_, k7, rfl, hk7, hC7⟩ := Kd.R_reads ho
  have HC7_ := Aside0.mk hC7
  have HB7_ := Aside0.mk (HB6.out.trans hb)
  clear ho hb hg hC7
  go_upto_region 6 with (go_at_call 14; refine (read_calls w7 A7_ q2 k7 HC7_.out hk7).mono ?_; rintro r w8 ⟨gy, rfl, hgy, hry, hby⟩; have HRY := Aside0.mk hry; have HBY := Aside0.mk (HB7_.out.trans (hby.mono HB7_.out.size)); have hgy2 := Nat.le_trans HB7_.out.size hgy; clear hry hby hgy)
  clear HV6 HB6 HC7_ HB7_
  have hgl := HRX.out.lt
  have BK8 := Aside0.mk (blk_below BK5.out HBY.out)
  have HCS8 := Aside0.mk (Kd.C_below HCS5.out HBY.out)
  have HCP8 := Aside0.mk (Kd.C_below HCP5.out HBY.out)
  have HB8 := Aside0.mk (below_step HB5.out HBY.out)
  have HRX8 := Aside0.mk (HRX.out.below HBY.out)
  have hw2 := HB2.out.size
  have hw5 := HB5.out.size
  clear BK BK5 HCS5 HCP5 HC32 HC4 HB5 HBX HBY HRX HCB2 kc0 kc1
  have kc0 := (blk_cell BK8.out 0).trans rfl
  have kc1 := (blk_cell BK8.out 1).trans rfl
  go_upto_region 8 with fail
  go_wp2_with (go_at_call 15; refine Calls.mono ((iread_calls w8 gx A4_ q1 k4 0 HRX8.out HBY1.out A3 c3 cs n HCS8.out hc3 (by omega) (by omega) HK.out (fun W' ho => Tabs.below HT.out (Off.below HB8.out ho (by omega))) true p b HOK.out HVS.out HLF.out).mono (fun e w' h => (⟨h⟩ : Aside0 (TP w8 gx true p b e w')))) ?_)
  rintro r w9 hp
  obtain ⟨⟨Ax, lx, cx, ex, hrx9, hlx9⟩, ho9, htr⟩ := hp.out
  have h16 : ∃ B d, r = .returned (.tuple #[.slice B p.length d, .bool true]) ∧ p.length ≤ d ∧ Kd.C k51 w9 B p.length p := htr
  obtain ⟨B1, d1', rfl, hd1', hCp⟩ := h16
  obtain rfl := hlx9 rfl
  have HBS9 := Aside0.mk (ho9.keep.blk BK8.out (by omega) (by simp))
  have HC9 := Aside0.mk (cols_off HRX8.out HCS8.out ho9)
  have HP9 := Aside0.mk (vals_far HRX8.out.1 HCP8.out ho9)
  have HRY9 := Aside0.mk (HRY.out.off HRX8.out (by omega) ho9)
  have HBE9 := Aside0.mk (Off.below HB8.out ho9 (by omega))
  have HRX9 := Aside0.mk hrx9
  have HCP9 := Aside0.mk hCp
  clear hp hrx9 hlx9 ho9 htr hCp kc0 kc1 BK8 HCS8 HCP8 HB8 HRX8 HRY
  have kc0 := (blk_cell HBS9.out 0).trans rfl
  have kc1 := (blk_cell HBS9.out 1).trans rfl
  go_wp2_with (go_at_call 19; refine Calls.mono ((ikey_calls w9 gy A7_ q2 k7 0 HRY9.out HBY2.out A3 c3 n cs ck HCK.out HC9.out hc3 h1 hn (by omega) HK.out (fun W' ho => Tabs.below HT.out (Off.below HBE9.out ho (by omega))) true pk lx HOK'.out HVS'.out HLF'.out).mono (fun e w' h => (⟨h⟩ : Aside0 (TP w9 gy true pk lx e w')))) ?_)
  rintro r w10 hp
  obtain ⟨⟨Ay, ly, cy, ey, hry, hly⟩, ho, htr⟩ := hp.out
  have h26 : ∃ B d, r = .returned (.tuple #[.slice B pk.length d, .bool true]) ∧ pk.length ≤ d ∧ Kd.C k51 w10 B pk.length pk := htr
  rw [HKL.out] at h26
  obtain ⟨B2, d2', rfl, hd2', hCk⟩ := h26
  obtain rfl := hly rfl
  have HBS10 := Aside0.mk (ho.keep.blk HBS9.out (by omega) (by simp))
  have HP10 := Aside0.mk (vals_far HRY9.out.1 HP9.out ho)
  have HCP10 := Aside0.mk (vals_far HRY9.out.1 HCP9.out ho)
  have HRX10 := Aside0.mk (HRX9.out.off HRY9.out (by omega) ho)
  have HRY10 := Aside0.mk hry
  have HCK10 := Aside0.mk hCk
  have HBE10 := Aside0.mk (Off.below HBE9.out ho (by omega))
  have HPK10 : Aside0 (Kd.C k51 w10 A4 n pk) := ⟨by
    have := Kd.C_take HP10.out hnp
    rw [HPK.out, HKL.out] at this
    exact this⟩
  clear hp hry hly ho htr hCk kc0 kc1 HBS9 HC9 HP9 HRY9 HBE9 HRX9 HCP9
  have kc0 := (blk_cell HBS10.out 0).trans rfl
  have kc1 := (blk_cell HBS10.out 1).trans rfl
  have hll : ((ly.length : Int) == (nb : Int)) = true := by rw [HNB.out]; simp
  have hnc : n ≤ c4 := by omega
  go_wp2_with (go_at_call 17; refine Calls.mono (same_calls B1 A4 d1' c4 p w10 (by omega) HCP10.out hd1' HP10.out hc4) ?_)
  rintro e w11 ⟨rfl, m1, rfl⟩
  go_wp2_with (go_at_call 17; refine Calls.mono (samen B2 A4 d2' c4 n pk (w10.drewN m1) HKL.out (by omega) (Kd.C_drewN HCK10.out m1) hd2' (Kd.C_drewN HPK10.out m1) hnc) ?_)
  rintro e w12 ⟨rfl, m2, rfl⟩
  go_wp2_with (go_at_call 18; refine Calls.mono (left_calls _ gx Ax ly cx ex ((HRX10.out.drewN m1).drewN m2)) ?_)
  rintro e w13 ⟨rfl, rfl⟩
  go_wp2_with (go_at_call 18; refine Calls.mono (left_calls _ gy Ay ly cy ey ((HRY10.out.drewN m1).drewN m2)) ?_)
  rintro e w14 ⟨rfl, rfl⟩
  go_wp2_with (go_at_call 20; refine Calls.mono (pantographlaw05_lives.calls K true _ E7.out) ?_)
  rintro e w15 ⟨rfl, hbl⟩
  have HB15 := Aside0.mk (below_step (pw_below_drewN HBE10.out (m1 + m2)) hbl)
  clear hbl
  go_wp2
  go_ret
  exact ⟨rfl, HB15.out⟩
theorem wf_u8 {l : List Int} (h : ∀ y ∈ l, (Lit.int .u8 y).wf = true) : ∀ y ∈ l, 0 ≤ y ∧ y < 256 := fun y hy => by
  have := h y hy
  simp [Lit.wf, IntKind.min, IntKind.max, IntKind.bits, IntKind.signed] at this
  omega
theorem valB_bytes (v : V) : ∀ y ∈ valB v, 0 ≤ y ∧ y < 256 := by
  intro y hy
  unfold valB at hy
  split at hy
  · obtain rfl := List.mem_singleton.1 hy; omega
  · split at hy
    · exact digs_bytes _ y hy
    · split at hy
      · rcases List.mem_append.1 hy with hy | hy
        · exact digs_bytes _ y hy
        · obtain ⟨x, _, rfl⟩ := List.mem_map.1 hy
          have := x.toNat_lt
          omega
      · cases hy
theorem rowB_bytes8 (p : List V) (h : p.length ≤ 8) : ∀ y ∈ rowB p, 0 ≤ y ∧ y < 256 := by
  intro y hy
  rw [rowB_H] at hy
  rcases List.mem_cons.1 hy with rfl | hy
  · have h1 := bitsH_range p
    have : 2 ^ p.length ≤ 2 ^ 8 := Nat.pow_le_pow_right (by omega) h
    omega
  · obtain ⟨v, _, hv⟩ := List.mem_flatMap.1 hy
    exact valB_bytes v y hv
theorem writeKey_f (cs : List Col) (n : Nat) (p : List V) (hn1 : 1 ≤ n) (hn : n ≤ p.length) (h6 : p.length ≤ 6) (hs : ∀ v ∈ p, SmallV v) (l0 : List Int) (hl : l0.length ≤ 10000) :
    Ev (fun k => image_WriteKey.f k l0 cs (n : Int) p) (l0 ++ rowB (p.take n)) := by
  have hlen : (p.take n).length = n := by rw [List.length_take]; omega
  obtain ⟨K, hK⟩ := put_f (p.take n) (fun v hv => hs v (List.mem_of_mem_take hv)) (by omega) (by omega) l0 hl
  refine ⟨K, fun k hk => ?_⟩
  have e := hK k hk
  dsimp only at e
  simp only [image_WriteKey.f]
  rw [if_pos (by omega), if_pos (by omega), Int.toNat_natCast, e, Option.bind_some]
theorem law_calls (A : Option Addr) (c : Nat) (l : List Col) (k : Int) (A1 : Option Addr) (c1 : Nat) (l1 : List V) (A2 : Option Addr) (c2 : Nat) (l2 : List Int) (w : World) (hr : Kd.C k69 w A l.length l) (hc : l.length ≤ c) (ok : ∀ y ∈ l, OkC y) (rk : RangeI k)
    (hr1 : Kd.C k51 w A1 l1.length l1) (hc1 : l1.length ≤ c1) (ok1 : ∀ y ∈ l1, OkV y) (hr2 : Kd.C (Kd.int .u8) w A2 l2.length l2) (hc2 : l2.length ≤ c2) (ok2 : ∀ y ∈ l2, (Lit.int .u8 y).wf = true) (hT : Tabs w) :
    Calls Tryd.prog 4 #[.agg #[.slice A l.length c, .int .i64 k], .slice A1 l1.length c1, .slice A2 l2.length c2] w fun e w' => e = .returned (.bool true) ∧ Below w.heap.size w w' := by
  obtain ⟨cs, keys, ⟨K1, h1⟩, hg⟩ := good_f l ok hr.2.1 k rk
  have hfew := hg.few
  have hsome := hg.some_
  have hk1 := hg.k1
  have hkn := hg.kn
  obtain ⟨n, rfl⟩ := Int.eq_ofNat_of_zero_le (show 0 ≤ keys by omega)
  obtain ⟨K2, h2⟩ := row_f cs (n : Int) l1 (by omega)
  have p1 := rowOf_length cs l1 cs.length
  have s1 := rowOf_small hg ok1
  have hfit := fit_all cs (rowOf cs l1 cs.length) p1 (rowOf_fit hg ok1)
  generalize rowOf cs l1 cs.length = p at *
  have hkinds : KindsOk cs := hg.kinds
  have hkk : KindsOk (cs.take n) := fun x hx => hkinds x (List.mem_of_mem_take hx)
  have hfk := hfit.take n
  have sn : ∀ v ∈ p.take n, SmallV v := fun v hv => s1 v (List.mem_of_mem_take hv)
  have ln : (p.take n).length = n := by rw [List.length_take]; omega
  obtain ⟨K3, h3⟩ := write_f p s1 (by omega) (by omega) [] (by simp) cs (n : Int)
  obtain ⟨K5, h5⟩ := writeKey_f cs n p (by omega) (by omega) (by omega) s1 [] (by simp)
  obtain ⟨K7, h7⟩ := lives_f
  have z1 := valsTo_len p s1 p.length (Nat.le_refl _)
  have z2 := valsTo_len (p.take n) sn (p.take n).length (Nat.le_refl _)
  have r1 := ok_row (l2.take 20) cs p hfit hkinds
  have r2 := ok_row (l2.take 20) (cs.take n) (p.take n) hfk hkk
  have hb : ∀ x ∈ l2.take 20, 0 ≤ x ∧ x < 256 := fun x hx => wf_u8 ok2 x (List.mem_of_mem_take hx)
  rw [List.nil_append] at h3 h5
  exact walk (K1 + K2 + K3 + K5 + K7) A c l k A1 c1 l1 A2 c2 l2 w hr hc hr1 hc1 hr2 hc2 hT cs _ n p _ (h1 _ (by omega)) (h2 _ (by omega)) (by omega) (by omega) hfew p1 hkinds rfl rfl _ (rowB p) (rowB (p.take n)) _ _ rfl rfl rfl
    (by unfold rowB; rw [List.length_cons]; omega) (by unfold rowB; rw [List.length_cons]; omega)
    (fun x hx => (List.mem_append.1 hx).elim (rowB_bytes8 p (by omega) x) (hb x)) (fun x hx => (List.mem_append.1 hx).elim (rowB_bytes8 _ (by omega) x) (hb x)) (h3 _ (by omega)) (h5 _ (by omega)) (h7 _ (by omega)) r1.1 r1.2 r2.1 r2.2
end Go.Proofs.YtaddlkokencbkaaDoor.RowImageRoundW
