/- The walk of the law ImageReads: what is read as a row, and as a key, or that there is none, is the document's. No condition. -/
import Derived.Test.YtaddlkokencbkaaDoorLaw5
import Derived.Test.YtaddlkokencbkaaDoorPut
import Derived.Deep.DeepCutAuto
import Derived.Lib.QuietBelow
namespace Go.Proofs.YtaddlkokencbkaaDoor.RowImageReadsW
open Go.RowKit Go.Sort Go.Proofs.YtaddlkokencbkaaDoorW.PrintWords Go.Proofs.YtaddlkokencbkaaDoorW.PrintLast Go.Proofs.YtaddlkokencbkaaDoorW.PrintMore Go.Proofs.YtaddlkokencbkaaDoor.Q Go.Proofs.YtaddlkokencbkaaDoor.Exact Go.Proofs.YtaddlkokencbkaaDoor.OpenA Go.Proofs.YtaddlkokencbkaaDoor.Shelf Go.Proofs.YtaddlkokencbkaaDoor.May Go.Proofs.YtaddlkokencbkaaDoor.Rd Go.Proofs.YtaddlkokencbkaaDoor.RdR Go.Proofs.YtaddlkokencbkaaDoor.RdN Go.Proofs.YtaddlkokencbkaaDoor.Fits Go.Proofs.YtaddlkokencbkaaDoor.Bits Go.Proofs.YtaddlkokencbkaaDoor.Row Go.Proofs.YtaddlkokencbkaaDoor.Take Go.Proofs.YtaddlkokencbkaaDoor.Read5 Go.Proofs.YtaddlkokencbkaaDoor.Law5 Go.Proofs.YtaddlkokencbkaaDoor.Img Go.Proofs.YtaddlkokencbkaaDoor.Put
set_option linter.unusedVariables false
set_option linter.unusedSimpArgs false
theorem few60 (w : World) (A : Option Addr) (l : List Int) (c : Nat) (hc : l.length ≤ c) :
    Calls Tryd.prog 13 #[.slice A l.length c, .int .i64 60] w fun r w' => r = .returned (.slice A (l.take 60).length c) ∧ w = w' := by
  by_cases hl : 60 < l.length
  · have c1 : decide ((l.length : Int) > 60) = true := decide_eq_true (by omega)
    have E : Aside0 ((l.take 60).length = 60) := ⟨by rw [List.length_take]; omega⟩
    go_enter Tryd.func13, Tryd.ntmps13
    go_wp2
    go_ret
    exact ⟨by rw [E.out]; rfl, rfl⟩
  · have c1 : decide ((l.length : Int) > 60) = false := decide_eq_false (by omega)
    have E : Aside0 ((l.take 60).length = l.length) := ⟨by rw [List.length_take]; omega⟩
    go_enter Tryd.func13, Tryd.ntmps13
    go_wp2
    go_ret
    exact ⟨by rw [E.out]; rfl, rfl⟩
theorem same_b (A A1 : Option Addr) (c c1 : Nat) (l : List V) (w : World) (hl : l.length ≤ 100000) (hr : Kd.C k51 w A l.length l) (hc : l.length ≤ c) (hr1 : Kd.C k51 w A1 l.length l) (hc1 : l.length ≤ c1) (d : Nat) (os : Array Obj) :
    Calls Tryd.prog 17 #[.slice A l.length c, .slice A1 l.length c1] (grow (redrawn w d) os) fun e w' => e = .returned (.bool true) ∧ ∃ p : Regrown, w' = grow (redrawn w p.d) p.os :=
  Calls.regrown_of ((same_calls A A1 c c1 l _ hl (Kd.C_below hr (below_regrown w d os)) hc (Kd.C_below hr1 (below_regrown w d os)) hc1).mono fun e w' h => ⟨h.1, by obtain ⟨m, rfl⟩ := h.2; exact pw_below_drewN (Below.refl _ _) m⟩)
theorem left_q (w : World) (g : Nat) (A : Option Addr) (l : List Int) (c : Nat) (e : Int) (h : Rd w g A l c e) :
    Calls Tryd.prog 18 #[.pointer (some ⟨g, 0, none⟩)] w fun r w' => r = .returned (.int .i64 l.length) ∧ w' = w := (left_calls w g A l c e h).mono fun e w' h => ⟨h.1, h.2.symm⟩
theorem left_b (w : World) (g : Nat) (A : Option Addr) (l : List Int) (c : Nat) (e : Int) (h : Rd w g A l c e) (d : Nat) (os : Array Obj) :
    Calls Tryd.prog 18 #[.pointer (some ⟨g, 0, none⟩)] (grow (redrawn w d) os) fun r w' => r = .returned (.int .i64 l.length) ∧ ∃ p : Regrown, w' = grow (redrawn w p.d) p.os :=
  Calls.regrown_of ((left_q _ g A l c e (h.below (below_regrown w d os))).mono fun e w' h => ⟨h.1, by rw [h.2]; exact Below.refl _ _⟩)
theorem lives_b (K : Nat) (w : World) (h : pantographlaw05_lives.f K = some true) (d : Nat) (os : Array Obj) :
    Calls Tryd.prog 20 #[] (grow (redrawn w d) os) fun r w' => r = .returned (.bool true) ∧ ∃ p : Regrown, w' = grow (redrawn w p.d) p.os :=
  Calls.regrown_of (pantographlaw05_lives.calls K true _ h)
/-- Four readers of the same bytes, the schema, its columns. -/
structure Four (w : World) (gs gx gy gw gv : Nat) (A3 : Option Addr) (c3 : Nat) (cs : List Col) (n : Nat) (Ab : Option Addr) (b : List Int) (cb : Nat) (W : World) : Prop where
  bs : W.heap[gs]? = some (.cells #[.slice A3 cs.length c3, .int .i64 (n : Int)] 24 (0, 0))
  cols : Kd.C k69 W A3 cs.length cs
  rx : Rd W gx Ab b cb 0
  ry : Rd W gy Ab b cb 0
  rw : RdR W gw Ab b cb 0
  rv : RdR W gv Ab b cb 0
  bel : Below w.heap.size w W
  lx : w.heap.size ≤ gx
  ly : w.heap.size ≤ gy
  lw : w.heap.size ≤ gw
  lv : w.heap.size ≤ gv
  d1 : gs < gx
  d2 : gx < gy
  d3 : gy < gw
  d4 : gw < gv
/-- A row that was told, or none. -/
def PV (ok : Bool) (vs : List V) (pv : Value) (W : World) : Prop := if ok = true then ∃ B d, pv = .slice B vs.length d ∧ vs.length ≤ d ∧ Kd.C k51 W B vs.length vs else pv = .slice none 0 0
theorem pv_of {ok : Bool} {vs : List V} {r : Ending} {W : World} (h : TakeR ok vs r W) : ∃ pv, r = .returned (.tuple #[pv, .bool ok]) ∧ PV ok vs pv W := by
  cases ok with
  | false =>
    unfold TakeR at h
    rw [if_neg (by decide)] at h
    exact ⟨_, h, rfl⟩
  | true =>
    unfold TakeR at h
    rw [if_pos rfl] at h
    obtain ⟨B, d, h1, h2, h3⟩ := h
    exact ⟨_, h1, B, d, rfl, h2, h3⟩
theorem pv_far {ok : Bool} {vs : List V} {pv : Value} {W W1 : World} {g m c : Nat} {A : Option Addr} {x : Int} {t : TypeId} (h : PV ok vs pv W) (hb : W.heap[g]? = some (.cells #[.slice A m c, .int .i64 x] t (0, 0))) (ho : Off g W W1) : PV ok vs pv W1 := by
  cases ok with
  | false => exact h
  | true =>
    obtain ⟨B, d, h1, h2, h3⟩ := h
    exact ⟨B, d, h1, h2, vals_far hb h3 ho⟩
/-- The second half's world. -/
structure Half (w : World) (gs gy gv : Nat) (A3 : Option Addr) (c3 : Nat) (cs : List Col) (n : Nat) (Ab : Option Addr) (b : List Int) (cb : Nat) (W : World) : Prop where
  bs : W.heap[gs]? = some (.cells #[.slice A3 cs.length c3, .int .i64 (n : Int)] 24 (0, 0))
  cols : Kd.C k69 W A3 cs.length cs
  ry : Rd W gy Ab b cb 0
  rv : RdR W gv Ab b cb 0
  bel : Below w.heap.size w W
theorem Half.drewN {w : World} {gs gy gv : Nat} {A3 : Option Addr} {c3 : Nat} {cs : List Col} {n : Nat} {Ab : Option Addr} {b : List Int} {cb : Nat} {W : World} (h : Half w gs gy gv A3 c3 cs n Ab b cb W) (m : Nat) : Half w gs gy gv A3 c3 cs n Ab b cb (W.drewN m) :=
  ⟨h.bs, Kd.C_drewN h.cols m, h.ry.drewN m, h.rv.drewN m, pw_below_drewN h.bel m⟩
theorem readn (w : World) (A : Option Addr) (l : List Int) (c n : Nat) (hn : l.length = n) (h : Kd.C (Kd.int .u8) w A l.length l) (hc : n ≤ c) :
    Calls Tryd.prog 14 #[.slice A n c] w fun r w' => ∃ g, r = .returned (.pointer (some ⟨g, 0, none⟩)) ∧ w.heap.size ≤ g ∧ Rd w' g A l c 0 ∧ Below w.heap.size w w' := by
  subst hn
  exact read_calls w A l c h hc
set_option maxHeartbeats 4000000 in
set_option maxRecDepth 100000 in
theorem walk (K : Nat) (A : Option Addr) (c : Nat) (l : List S69) (k : Int) (A2 : Option Addr) (c2 : Nat) (l2 : List Int) (w : World)
    (hr : Kd.C k69 w A l.length l) (hc : l.length ≤ c) (hr2 : Kd.C (Kd.int .u8) w A2 l2.length l2) (hc2 : l2.length ≤ c2) (hT : Tabs w)
    (cs ck : List S69) (n : Nat) (e1 : pantographref04_Good.f K l k = some (cs, (n : Int))) (h1 : 1 ≤ n) (hn : n ≤ cs.length) (h6 : cs.length ≤ 6) (hk : KindsOk cs) (hck : cs.take n = ck)
    (b : List Int) (hb : l2.take 60 = b) (hby : ∀ x ∈ b, 0 ≤ x ∧ x < 256) (e7 : pantographlaw05_lives.f K = some true)
    (ok : Bool) (vs : List V) (lf : List Int) (hok : okB cs (byteV b 0) (byteL b 0) (byteE b 0) = ok) (hvs : (rowR cs (byteV b 0) (byteL b 0) (byteE b 0)).1 = vs) (hlf : (rowR cs (byteV b 0) (byteL b 0) (byteE b 0)).2.1 = lf)
    (ok' : Bool) (vs' : List V) (lf' : List Int) (hok' : okB ck (byteV b 0) (byteL b 0) (byteE b 0) = ok') (hvs' : (rowR ck (byteV b 0) (byteL b 0) (byteE b 0)).1 = vs') (hlf' : (rowR ck (byteV b 0) (byteL b 0) (byteE b 0)).2.1 = lf') :
    Calls Tryd.prog 3 #[.agg #[.slice A l.length c, .int .i64 k], .slice A2 l2.length c2] w fun e w' => e = .returned (.bool true) ∧ Below w.heap.size w w' := by
  have HR := Aside0.mk hr
  have HR2 := Aside0.mk hr2
  have HT := Aside0.mk hT
  have E1 := Aside0.mk e1
  have E7 := Aside0.mk e7
  have HK := Aside0.mk hk
  have HCK := Aside0.mk hck
  have HBY := Aside0.mk hby
  obtain ⟨nb, hnb⟩ : ∃ nb, b.length = nb := ⟨_, rfl⟩
  have HNB := Aside0.mk hnb
  have HTL : Aside0 ((l2.take 60).length = nb) := ⟨by rw [hb, hnb]⟩
  have HTB : Aside0 (∀ W, Kd.C (Kd.int .u8) W A2 l2.length l2 → Kd.C (Kd.int .u8) W A2 b.length b) := ⟨fun W h => by
    have := Kd.C_take h (m := min 60 l2.length) (by omega)
    rw [← List.take_eq_take_min, hb] at this
    exact this⟩
  have hbc : nb ≤ c2 := by rw [← hnb, ← hb, List.length_take]; omega
  have HOK := Aside0.mk hok
  have HVS := Aside0.mk hvs
  have HLF := Aside0.mk hlf
  have HOK' := Aside0.mk hok'
  have HVS' := Aside0.mk hvs'
  have HLF' := Aside0.mk hlf'
  have hl31 : cs.length ≤ 9223372036854775807 := by omega
  clear hr hr2 hT e1 e7 hk hck hby hnb hb hok hvs hlf hok' hvs' hlf'
  go_enter Tryd.func3, Tryd.ntmps3
  go_upto_region 3 with (first | (go_at_call 12; refine (pantographref04_Good.calls K A c l k cs n _ ?hR hc E1.out).mono ?_; (case hR => exact Kd.C_alloc HR.out _); rintro e w1 ⟨v, rfl, ho, hbl⟩; obtain ⟨A3, c3, rfl, hc3, hC3⟩ := Kd.R_reads ho; have HC3 := Aside0.mk hC3; have HB1 := Aside0.mk (below_step (below_alloc (Below.refl w.heap.size w) _) hbl); clear ho hbl hC3) | (go_at_call 13; refine (few60 _ A2 l2 c2 hc2).mono ?_; rintro r wz ⟨rfl, rfl⟩; rw [HTL.out]))
  have hbs := blk_new w1 (Obj.cells #[.slice A3 cs.length c3, .int .i64 (n : Int)] 24)
  have hB2 := below_alloc HB1.out (Obj.cells #[.slice A3 cs.length c3, .int .i64 (n : Int)] 24)
  have hC3 := Kd.C_alloc HC3.out (Obj.cells #[.slice A3 cs.length c3, .int .i64 (n : Int)] 24)
  have hgs := HB1.out.size
  change Code.wp _ _ _ _ (w1.alloc (Obj.cells #[.slice A3 cs.length c3, .int .i64 (n : Int)] 24))
  generalize w1.alloc (Obj.cells #[.slice A3 cs.length c3, .int .i64 (n : Int)] 24) = Wa at hbs hB2 hC3 ⊢
  generalize w1.heap.size = gs at hbs hgs ⊢
  have HBS := Aside0.mk hbs
  have HBA := Aside0.mk hB2
  have HCA := Aside0.mk hC3
  have hsa := blk_lt hbs
  clear hbs hB2 hC3 HC3 HB1
  go_upto_region 4 with (go_at_call 14; refine (readn _ A2 b c2 nb HNB.out (HTB.out _ (Kd.C_below HR2.out HBA.out)) hbc).mono ?_; rintro r wb ⟨gx, rfl, hgx, hrx, hbx⟩; have HRX := Aside0.mk hrx; have HBX := Aside0.mk hbx; clear hrx hbx)
  go_upto_region 5 with (go_at_call 14; refine (readn _ A2 b c2 nb HNB.out (HTB.out _ (Kd.C_below HR2.out (below_step HBA.out HBX.out))) hbc).mono ?_; rintro r wd ⟨gy, rfl, hgy, hry, hby⟩; have HRY := Aside0.mk hry; have HBY2 := Aside0.mk hby; clear hry hby)
  go_upto_region 9 with fail
  have hrb : ∀ W : World, W.heap.size = W.heap.size → Obj.cells #[.slice A2 nb c2, .int .i64 0] 33 = Obj.cells #[.slice A2 b.length c2, .int .i64 0] 33 := fun W _ => by rw [HNB.out]
  have hwd1 := below_alloc (Below.refl wd.heap.size wd) (Obj.cells #[.slice A2 nb c2, .int .i64 0] 33)
  have hwd2 := below_alloc hwd1 (Obj.cells #[.slice A2 nb c2, .int .i64 0] 33)
  have hsz : (wd.alloc (Obj.cells #[.slice A2 nb c2, .int .i64 0] 33)).heap.size = wd.heap.size + 1 := by simp
  have hw1 := blk_below (blk_new wd (Obj.cells #[.slice A2 nb c2, .int .i64 0] 33)) (below_alloc (Below.refl _ _) (Obj.cells #[.slice A2 nb c2, .int .i64 0] 33))
  have hw2 := blk_new (wd.alloc (Obj.cells #[.slice A2 nb c2, .int .i64 0] 33)) (Obj.cells #[.slice A2 nb c2, .int .i64 0] 33)
  rw [hsz] at hw2
  have hbel := below_step (below_step (below_step HBA.out HBX.out) HBY2.out) hwd2
  have hCb := HTB.out _ (Kd.C_below HR2.out hbel)
  have hsx := HBX.out.size
  have hsy := HBY2.out.size
  have hlx := blk_lt HRX.out.1
  have hly := blk_lt HRY.out.1
  have hbc' : b.length ≤ c2 := by rw [HNB.out]; exact hbc
  have F : Aside0 (Four w gs gx gy wd.heap.size (wd.heap.size + 1) A3 c3 cs n A2 b c2 ((wd.alloc (Obj.cells #[.slice A2 nb c2, .int .i64 0] 33)).alloc (Obj.cells #[.slice A2 nb c2, .int .i64 0] 33))) :=
    ⟨⟨blk_below (blk_below (blk_below HBS.out HBX.out) HBY2.out) hwd2, Kd.C_below (Kd.C_below (Kd.C_below HCA.out HBX.out) HBY2.out) hwd2, (HRX.out.below HBY2.out).below hwd2, HRY.out.below hwd2, ⟨by rw [HNB.out]; exact hw1, hCb, hbc'⟩, ⟨by rw [HNB.out]; exact hw2, hCb, hbc'⟩, hbel, by omega, by omega, by omega, by omega, by omega, by omega, by omega, by omega⟩⟩
  change Code.wp _ _ _ _ ((wd.alloc (Obj.cells #[.slice A2 nb c2, .int .i64 0] 33)).alloc (Obj.cells #[.slice A2 nb c2, .int .i64 0] 33))
  generalize (wd.alloc (Obj.cells #[.slice A2 nb c2, .int .i64 0] 33)).alloc (Obj.cells #[.slice A2 nb c2, .int .i64 0] 33) = W at F ⊢
  generalize wd.heap.size = gw at F ⊢
  generalize hgv : gw + 1 = gv at F ⊢
  clear hrb hwd1 hwd2 hsz hw1 hw2 hbel hCb hsx hsy hlx hly hbc' HBS HBA HCA hsa HRX HBX HRY HBY2 hgx hgy hgs hgv
  have s0 := (blk_cell F.out.bs 0).trans rfl
  have s1 := (blk_cell F.out.bs 1).trans rfl
  go_wp2_with (go_at_call 15; refine Calls.mono ((iread_calls W gx A2 b c2 0 F.out.rx HBY.out A3 c3 cs n F.out.cols hc3 (by omega) (by omega) HK.out (fun W' ho => Tabs.below HT.out (Off.below F.out.bel ho F.out.lx)) ok vs lf HOK.out HVS.out HLF.out).mono (fun e w' h => (⟨h⟩ : Aside0 (TP W gx ok vs lf e w')))) ?_)
  rintro r w5 hp
  obtain ⟨⟨Ax, lx, cx, ex, hrx5, hlx5⟩, ho5, htr⟩ := hp.out
  obtain ⟨pv1, rfl, hpv1⟩ := pv_of htr
  have hd1 := F.out.d1
  have hd2 := F.out.d2
  have hd3 := F.out.d3
  have hd4 := F.out.d4
  have HBS5 := Aside0.mk (ho5.keep.blk F.out.bs (by omega) (by simp))
  have HC5 := Aside0.mk (cols_off F.out.rx F.out.cols ho5)
  have HRY5 := Aside0.mk (F.out.ry.off F.out.rx (by omega) ho5)
  have HRW5 := Aside0.mk (RdR_offRd F.out.rw F.out.rx (by omega) ho5)
  have HRV5 := Aside0.mk (RdR_offRd F.out.rv F.out.rx (by omega) ho5)
  have HBE5 := Aside0.mk (Off.below F.out.bel ho5 F.out.lx)
  have HRX5 := Aside0.mk hrx5
  have HLX5 := Aside0.mk hlx5
  have HPV1 := Aside0.mk hpv1
  have HGE := Aside0.mk (And.intro F.out.ly (And.intro F.out.lw F.out.lv))
  clear hp hrx5 hlx5 ho5 htr hpv1 s0 s1 F
  have s0 := (blk_cell HBS5.out 0).trans rfl
  have s1 := (blk_cell HBS5.out 1).trans rfl
  go_wp2_with (go_at_call 16; refine Calls.mono ((read5_calls w5 gw A2 b c2 0 HRW5.out HBY.out A3 c3 cs.length cs rfl HC5.out hc3 (by omega) (by omega) HK.out ok vs lf HOK.out HVS.out HLF.out).mono (fun e w' h => (⟨h⟩ : Aside0 (RP w5 gw ok vs lf e w')))) ?_)
  rintro r w6 hp
  obtain ⟨⟨Aw, lw, cw, ew, hrw6, hlw6⟩, ho6, htr⟩ := hp.out
  obtain ⟨pv2, rfl, hpv2⟩ := pv_of htr
  have HF6 : Aside0 (Half w gs gy gv A3 c3 cs n A2 b c2 w6) := ⟨⟨ho6.keep.blk HBS5.out (by omega) (by simp), cols_offR HRW5.out HC5.out ho6, Rd_offRdR HRY5.out HRW5.out (by omega) ho6, HRV5.out.off HRW5.out (by omega) ho6, Off.below HBE5.out ho6 HGE.out.2.1⟩⟩
  have HRX6 := Aside0.mk (Rd_offRdR HRX5.out HRW5.out (by omega) ho6)
  have HPV16 := Aside0.mk (pv_far HPV1.out HRW5.out.1 ho6)
  have HPV26 := Aside0.mk hpv2
  have HRW6 := Aside0.mk hrw6
  have HLW6 := Aside0.mk hlw6
  clear hp hrw6 hlw6 ho6 htr hpv2 s0 s1 HBS5 HC5 HRY5 HRW5 HRV5 HBE5 HRX5 HPV1
  go_upto_region 11 with fail
  go_cut [68] (fun v68 wx => v68 = .bool false ∧ Half w gs gy gv A3 c3 cs n A2 b c2 wx)
  case first =>
    cases ok with
    | false =>
      have h16 : pv1 = .slice none 0 0 := HPV16.out
      have h26 : pv2 = .slice none 0 0 := HPV26.out
      subst h16 h26
      go_quiet ((first | (go_at_call 17; exact Calls.quiet_of (same_calls none none 0 0 [] _ (by simp) (Kd.C_nil _ _) (Nat.le_refl _) (Kd.C_nil _ _) (Nat.le_refl _)))))
      go_wp2_with fail
      go_meet
      exact ⟨rfl, HF6.out.drewN _⟩
    | true =>
      have h16 : ∃ B d, pv1 = .slice B vs.length d ∧ vs.length ≤ d ∧ Kd.C k51 w6 B vs.length vs := HPV16.out
      have h26 : ∃ B d, pv2 = .slice B vs.length d ∧ vs.length ≤ d ∧ Kd.C k51 w6 B vs.length vs := HPV26.out
      obtain ⟨B1, d1, rfl, hd1', hC1⟩ := h16
      obtain ⟨B2, d2, rfl, hd2', hC2⟩ := h26
      have HC1 := Aside0.mk hC1
      have HC2 := Aside0.mk hC2
      obtain rfl := HLX5.out rfl
      obtain rfl := HLW6.out rfl
      have hvl : vs.length ≤ 100000 := by rw [← HVS.out, rowR_len]; omega
      have z0 := HRW6.out.cell0
      have zz : ((lw.length : Int) != (lw.length : Int)) = false := by simp
      clear hC1 hC2
      go_quiet ((first | (go_at_call 17; exact Calls.quiet_of (same_calls B1 B2 d1 d2 vs _ hvl (Kd.C_drewN HC1.out _) hd1' (Kd.C_drewN HC2.out _) hd2')) | (go_at_call 18; exact Calls.quiet_of_same (left_q _ gx Ax _ cx ex (HRX6.out.drewN _)))))
      go_wp2_with fail
      go_meet
      exact ⟨rfl, HF6.out.drewN _⟩
  case rest =>
  obtain ⟨rfl, hhalf⟩ := hcut
  have HH := Aside0.mk hhalf
  clear hhalf HF6 HRX6 HPV16 HPV26 HRW6
  go_upto_region 13 with fail
  have HCK2 := HCK
  have s0 := (blk_cell HH.out.bs 0).trans rfl
  have s1 := (blk_cell HH.out.bs 1).trans rfl
  go_wp2_with (go_at_call 19; refine Calls.mono ((ikey_calls wc gy A2 b c2 0 HH.out.ry HBY.out A3 c3 n cs ck HCK.out HH.out.cols hc3 h1 hn (by omega) HK.out (fun W' ho => Tabs.below HT.out (Off.below HH.out.bel ho HGE.out.1)) ok' vs' lf' HOK'.out HVS'.out HLF'.out).mono (fun e w' h => (⟨h⟩ : Aside0 (TP wc gy ok' vs' lf' e w')))) ?_)
  rintro r w7 hp
  obtain ⟨⟨Ay, ly, cy, ey, hry7, hly7⟩, ho7, htr⟩ := hp.out
  obtain ⟨pv3, rfl, hpv3⟩ := pv_of htr
  have HBS7 := Aside0.mk (ho7.keep.blk HH.out.bs (by omega) (by simp))
  have HC7 := Aside0.mk (cols_off HH.out.ry HH.out.cols ho7)
  have HRV7 := Aside0.mk (RdR_offRd HH.out.rv HH.out.ry (by omega) ho7)
  have HBE7 := Aside0.mk (Off.below HH.out.bel ho7 HGE.out.1)
  have HRY7 := Aside0.mk hry7
  have HLY7 := Aside0.mk hly7
  have HPV3 := Aside0.mk hpv3
  have hkl : ck.length = n := by rw [← HCK.out, List.length_take]; omega
  have HCKC : Aside0 (Kd.C k69 w7 A3 n ck) := ⟨by
    have := Kd.C_take HC7.out hn
    rw [HCK.out, hkl] at this
    exact this⟩
  have HKK : Aside0 (∀ c ∈ ck, 1 ≤ c.f1 ∧ c.f1 ≤ 4) := ⟨fun c hc => HK.out c (by rw [← HCK.out] at hc; exact List.mem_of_mem_take hc)⟩
  have HKL := Aside0.mk hkl
  clear hp hry7 hly7 ho7 htr hpv3 s0 s1 HH hkl
  have s0 := (blk_cell HBS7.out 0).trans rfl
  have s1 := (blk_cell HBS7.out 1).trans rfl
  go_wp2_with (go_at_call 16; refine Calls.mono ((read5_calls w7 gv A2 b c2 0 HRV7.out HBY.out A3 c3 n ck HKL.out HCKC.out (by omega) (by omega) (by omega) HKK.out ok' vs' lf' HOK'.out HVS'.out HLF'.out).mono (fun e w' h => (⟨h⟩ : Aside0 (RP w7 gv ok' vs' lf' e w')))) ?_)
  rintro r w8 hp
  obtain ⟨⟨Av, lv, cv, ev, hrv8, hlv8⟩, ho8, htr⟩ := hp.out
  obtain ⟨pv4, rfl, hpv4⟩ := pv_of htr
  have HRY8 := Aside0.mk (Rd_offRdR HRY7.out HRV7.out (by omega) ho8)
  have HPV38 := Aside0.mk (pv_far HPV3.out HRV7.out.1 ho8)
  have HPV48 := Aside0.mk hpv4
  have HRV8 := Aside0.mk hrv8
  have HLV8 := Aside0.mk hlv8
  have HBE8 := Aside0.mk (Off.below HBE7.out ho8 HGE.out.2.2)
  clear hp hrv8 hlv8 ho8 htr hpv4 s0 s1 HBS7 HC7 HRV7 HBE7 HRY7 HPV3 HCKC HKK
  go_upto_region 15 with fail
  cases ok' with
  | false =>
    have h16 : pv3 = .slice none 0 0 := HPV38.out
    have h26 : pv4 = .slice none 0 0 := HPV48.out
    subst h16 h26
    have SB' : Aside0 (∀ d os, Calls Tryd.prog 17 #[.slice none 0 0, .slice none 0 0] (grow (redrawn w8 d) os) fun e w' => e = .returned (.bool true) ∧ ∃ p : Regrown, w' = grow (redrawn w8 p.d) p.os) := ⟨fun d os => same_b none none 0 0 [] w8 (by simp) (Kd.C_nil _ _) (Nat.le_refl _) (Kd.C_nil _ _) (Nat.le_refl _) d os⟩
    refine wp_region_quiet_below (by kernel_rfl) (by kernel_rfl) ?_
    repeat (go_big_quiet_step (first | (go_at_call 17; exact SB'.out _ _) | (go_at_call 20; exact lives_b K w8 E7.out _ _)))
    refine wpQuiet_nil ?_
    intro _ hw'
    obtain ⟨⟨dq, osq⟩, hw''⟩ := hw'
    subst hw''
    go_wp2
    go_ret
    exact ⟨rfl, below_step HBE8.out (below_regrown w8 dq osq)⟩
  | true =>
    have h16 : ∃ B d, pv3 = .slice B vs'.length d ∧ vs'.length ≤ d ∧ Kd.C k51 w8 B vs'.length vs' := HPV38.out
    have h26 : ∃ B d, pv4 = .slice B vs'.length d ∧ vs'.length ≤ d ∧ Kd.C k51 w8 B vs'.length vs' := HPV48.out
    obtain ⟨B1, d1, rfl, hd1', hC1⟩ := h16
    obtain ⟨B2, d2, rfl, hd2', hC2⟩ := h26
    have HC1 := Aside0.mk hC1
    have HC2 := Aside0.mk hC2
    have hly : ly = lf' := HLY7.out rfl
    have hlv : lv = lf' := HLV8.out rfl
    subst hly
    have hvl : vs'.length ≤ 100000 := by rw [← HVS'.out, rowR_len, HKL.out]; omega
    have z0 := HRV8.out.cell0
    rw [hlv] at z0
    have zc := fun d os => cell_regrown z0 d os
    have zz : ((ly.length : Int) == (ly.length : Int)) = true := by simp
    clear hC1 hC2 hlv z0
    refine wp_region_quiet_below (by kernel_rfl) (by kernel_rfl) ?_
    repeat (go_big_quiet_step (first | (go_at_call 17; exact same_b B1 B2 d1 d2 vs' w8 hvl HC1.out hd1' HC2.out hd2' _ _) | (go_at_call 18; exact left_b w8 gy Ay ly cy ey HRY8.out _ _) | (go_at_call 20; exact lives_b K w8 E7.out _ _)))
    refine wpQuiet_nil ?_
    intro _ hw'
    obtain ⟨⟨dq, osq⟩, hw''⟩ := hw'
    subst hw''
    go_wp2
    go_ret
    exact ⟨rfl, below_step HBE8.out (below_regrown w8 dq osq)⟩
theorem wf_u8 {l : List Int} (h : ∀ y ∈ l, (Lit.int .u8 y).wf = true) : ∀ y ∈ l, 0 ≤ y ∧ y < 256 := fun y hy => by
  have := h y hy
  simp [Lit.wf, IntKind.min, IntKind.max, IntKind.bits, IntKind.signed] at this
  omega
theorem law_calls (A : Option Addr) (c : Nat) (l : List S69) (k : Int) (A2 : Option Addr) (c2 : Nat) (l2 : List Int) (w : World) (hr : Kd.C k69 w A l.length l) (hc : l.length ≤ c) (ok : ∀ y ∈ l, OkC y) (rk : RangeI k)
    (hr2 : Kd.C (Kd.int .u8) w A2 l2.length l2) (hc2 : l2.length ≤ c2) (ok2 : ∀ y ∈ l2, (Lit.int .u8 y).wf = true) (hT : Tabs w) :
    Calls Tryd.prog 3 #[.agg #[.slice A l.length c, .int .i64 k], .slice A2 l2.length c2] w fun e w' => e = .returned (.bool true) ∧ Below w.heap.size w w' := by
  obtain ⟨cs, keys, ⟨K1, h1⟩, hg⟩ := good_f l ok hr.2.1 k rk
  have hfew := hg.few
  have hk1 := hg.k1
  have hkn := hg.kn
  obtain ⟨n, rfl⟩ := Int.eq_ofNat_of_zero_le (show 0 ≤ keys by omega)
  obtain ⟨K7, h7⟩ := lives_f
  exact walk (K1 + K7) A c l k A2 c2 l2 w hr hc hr2 hc2 hT cs _ n (h1 _ (by omega)) (by omega) (by omega) hfew hg.kinds rfl _ rfl (fun x hx => wf_u8 ok2 x (List.mem_of_mem_take hx)) (h7 _ (by omega)) _ _ _ rfl rfl rfl _ _ _ rfl rfl rfl
end Go.Proofs.YtaddlkokencbkaaDoor.RowImageReadsW
