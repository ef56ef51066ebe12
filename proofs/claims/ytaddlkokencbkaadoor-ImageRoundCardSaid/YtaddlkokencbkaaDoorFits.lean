/- Whether a row fits columns: schema.fits, begins and Fits by hand, and the document's (pantographref04.Fits): one answer. -/
import Derived.Test.YtaddlkokencbkaaDoorMMay
import Derived.Test.YtaddlkokencbkaaDoorQ0
import Derived.Deep.RegionWith
import Derived.Deep.DeepCutAuto
import Derived.StillTailTactics
namespace Go.Proofs.YtaddlkokencbkaaDoor.Fits
open Go.RowKit Go.Proofs.YtaddlkokencbkaaDoorW.PrintWords Go.Proofs.YtaddlkokencbkaaDoorW.PrintLast Go.Proofs.YtaddlkokencbkaaDoorW.PrintMore Go.Proofs.YtaddlkokencbkaaDoor.Q Go.Proofs.YtaddlkokencbkaaDoor.Shelf Go.Proofs.YtaddlkokencbkaaDoor.May
set_option linter.unusedVariables false
set_option linter.unusedSimpArgs false
abbrev Col := S69
abbrev V := S51
def standB (c : Col) (v : V) : Bool := mayB v.f0 v.f1 v.f2 && (decide (v.f0 = c.f1) || (decide (v.f0 = 0) && c.f2))
def fitsB : List Col → List V → Bool
  | [], [] => true
  | c :: cs, v :: vs => standB c v && fitsB cs vs
  | _, _ => false
def Short (vs : List V) : Prop := ∀ v ∈ vs, v.f2.size ≤ 140737488355000
theorem fitsB_len : ∀ {cs : List Col} {vs : List V}, fitsB cs vs = true → vs.length = cs.length
  | [], [], _ => rfl
  | _ :: _, _ :: _, h => by
    unfold fitsB at h
    simp only [Bool.and_eq_true] at h
    simp [fitsB_len h.2]
  | [], _ :: _, h => by cases h
  | _ :: _, [], h => by cases h
theorem col_drop (cs : List Col) (i : Nat) (h : i < cs.length) : cs.drop i = rd_T69 cs (i : Int) :: cs.drop (i + 1) := by
  rw [List.drop_eq_getElem_cons h]
  congr 1
  unfold rd_T69
  simp [List.getD_eq_getElem?_getD, List.getElem?_eq_getElem h]
theorem val_drop (vs : List V) (i : Nat) (h : i < vs.length) : vs.drop i = rd_T51 vs (i : Int) :: vs.drop (i + 1) := by
  rw [List.drop_eq_getElem_cons h]
  congr 1
  unfold rd_T51
  simp [List.getD_eq_getElem?_getD, List.getElem?_eq_getElem h]
theorem val_mem (vs : List V) (i : Nat) (h : i < vs.length) : rd_T51 vs (i : Int) ∈ vs := by
  unfold rd_T51
  simp [List.getD_eq_getElem?_getD, List.getElem?_eq_getElem h]

/-! ### schema's -/
set_option maxHeartbeats 2000000 in
theorem sfits_calls (x : Col) (v : V) (w : World) (hs : v.f2.size ≤ 140737488355000) (hT : Tabs w) :
    Calls Tryd.prog 95 #[.agg #[.string x.f0, .int .i64 x.f1, .bool x.f2], .agg #[.int .i64 v.f0, .int .i64 v.f1, .string v.f2]] w fun e w' => e = .returned (.bool (standB x v)) ∧ Below w.heap.size w w' := by
  obtain ⟨s, k, b⟩ := x
  obtain ⟨k2, n, t⟩ := v
  obtain ⟨r, hr⟩ : ∃ r, standB ⟨s, k, b⟩ ⟨k2, n, t⟩ = r := ⟨_, rfl⟩
  obtain ⟨m, hm⟩ : ∃ m, mayB k2 n t = m := ⟨_, rfl⟩
  rw [hr]
  have HR : Aside0 ((m && (decide (k2 = k) || (decide (k2 = 0) && b))) = r) := ⟨by rw [← hm, ← hr]; rfl⟩
  have HM := Aside0.mk hm
  have HT := Aside0.mk hT
  have HS := Aside0.mk hs
  clear hr hm hT hs
  dsimp only
  go_enter Tryd.func95, Tryd.ntmps95
  go_upto_region 1 with fail
  have b0 := blk_below (blk_new w (Obj.cells #[.string s, .int .i64 k, .bool b] 69)) (below_alloc (Below.refl (w.alloc (Obj.cells #[.string s, .int .i64 k, .bool b] 69)).heap.size (w.alloc (Obj.cells #[.string s, .int .i64 k, .bool b] 69))) (Obj.cells #[.int .i64 k2, .int .i64 n, .string t] 51))
  have b1 := blk_new (w.alloc (Obj.cells #[.string s, .int .i64 k, .bool b] 69)) (Obj.cells #[.int .i64 k2, .int .i64 n, .string t] 51)
  have hsz : (w.alloc (Obj.cells #[.string s, .int .i64 k, .bool b] 69)).heap.size = w.heap.size + 1 := by simp
  rw [hsz] at b1
  have HW := Aside0.mk (below_alloc (below_alloc (Below.refl w.heap.size w) (Obj.cells #[.string s, .int .i64 k, .bool b] 69)) (Obj.cells #[.int .i64 k2, .int .i64 n, .string t] 51))
  change Code.wp _ _ _ _ ((w.alloc (Obj.cells #[.string s, .int .i64 k, .bool b] 69)).alloc (Obj.cells #[.int .i64 k2, .int .i64 n, .string t] 51))
  generalize (w.alloc (Obj.cells #[.string s, .int .i64 k, .bool b] 69)).alloc (Obj.cells #[.int .i64 k2, .int .i64 n, .string t] 51) = W at b0 b1 HW ⊢
  have B0 := Aside0.mk b0
  have B1 := Aside0.mk b1
  have k30 := (blk_cell b1 0).trans rfl
  have k31 := (blk_cell b1 1).trans rfl
  have k32 := (blk_cell b1 2).trans rfl
  clear b0 b1 hsz
  go_wp2_with (first | (go_at_call 31; refine (May3.vmay_calls k2 n t m _ HS.out (Tabs.below HT.out HW.out) HM.out).mono ?_; rintro e w5 ⟨rfl, hb5⟩; have HB5 := Aside0.mk (below_step HW.out hb5); have s0 := (blk_cell (blk_below B1.out hb5) 0).trans rfl; have s1 := (blk_cell (blk_below B0.out hb5) 1).trans rfl; have s2 := (blk_cell (blk_below B0.out hb5) 2).trans rfl; clear hb5))
  all_goals
    go_ret
    have HR := HR.out
    refine ⟨vbool (a := _) ?_, HB5.out⟩
    rw [← HR]
    clear HM HT HR HW B0 B1 HB5
    simp_all
theorem C3v {w : World} {A : Option Addr} {l : List V} (h : Kd.C k51 w A l.length l) (i : Nat) (hi : i < l.length) :
    ∃ (ad pp : Addr), A = some ad ∧ ad.add (i * 3) = pp ∧ w.cell? pp = some (.int .i64 (rd_T51 l (i : Int)).f0) ∧ w.cell? ⟨pp.block, pp.off + 1, none⟩ = some (.int .i64 (rd_T51 l (i : Int)).f1) ∧ w.cell? ⟨pp.block, pp.off + 2, none⟩ = some (.string (rd_T51 l (i : Int)).f2) := by
  obtain ⟨ad, e, h0, h1, h2⟩ := at_T51 h (i : Int) (by omega) (by omega)
  exact ⟨ad, _, e, rfl, h0, h1, h2⟩
theorem C3c {w : World} {A : Option Addr} {l : List Col} (h : Kd.C k69 w A l.length l) (i : Nat) (hi : i < l.length) :
    ∃ (ad pp : Addr), A = some ad ∧ ad.add (i * 3) = pp ∧ w.cell? pp = some (.string (rd_T69 l (i : Int)).f0) ∧ w.cell? ⟨pp.block, pp.off + 1, none⟩ = some (.int .i64 (rd_T69 l (i : Int)).f1) ∧ w.cell? ⟨pp.block, pp.off + 2, none⟩ = some (.bool (rd_T69 l (i : Int)).f2) := by
  obtain ⟨ad, e, h0, h1, h2⟩ := at_T69 h (i : Int) (by omega) (by omega)
  exact ⟨ad, _, e, rfl, h0, h1, h2⟩
def RelB (w : World) (g : Nat) (S : Obj) (cs : List Col) (vs : List V) (v13 : Value) (wr : World) : Prop :=
  ∃ i : Nat, v13 = .int .i64 (i : Int) ∧ i ≤ vs.length ∧ wr.heap[g]? = some S ∧ fitsB (cs.drop i) (vs.drop i) = fitsB cs vs ∧ Below w.heap.size w wr
set_option maxHeartbeats 2000000 in
set_option maxRecDepth 100000 in
theorem begins_calls (w : World) (A B : Option Addr) (c d : Nat) (cs : List Col) (a : Int) (vs : List V) (hA : Kd.C k69 w A cs.length cs) (hc : cs.length ≤ c) (hB : Kd.C k51 w B vs.length vs) (hd : vs.length ≤ d) (hl : vs.length = cs.length) (hs : Short vs) (hT : Tabs w) :
    Calls Tryd.prog 89 #[.agg #[.slice A cs.length c, .int .i64 a], .slice B vs.length d, .int .i64 vs.length] w fun e w' => e = .returned (.bool (fitsB cs vs)) ∧ Below w.heap.size w w' := by
  have HA := Aside0.mk hA
  have HB := Aside0.mk hB
  have HT := Aside0.mk hT
  have HS := Aside0.mk hs
  have HL := Aside0.mk hl
  have hlm : vs.length ≤ 9223372036854775807 := hB.2.1
  have c0 : decide ((vs.length : Int) < (vs.length : Int)) = false := decide_eq_false (by omega)
  clear hA hB hT hs hl
  go_enter Tryd.func89, Tryd.ntmps89
  go_wp2
  have HBX := Aside0.mk (below_alloc (Below.refl w.heap.size w) (Obj.cells #[.slice A cs.length c, .int .i64 a] 24))
  have HBK := Aside0.mk (blk_new w (Obj.cells #[.slice A cs.length c, .int .i64 a] 24))
  have HGE := Aside0.mk (Nat.le_refl w.heap.size)
  go_loopw [13] (fun v13 wr => RelB w w.heap.size (Obj.cells #[.slice A cs.length c, .int .i64 a] 24) cs vs v13 wr) (fun v13 _ => (vs.length - intOf v13).toNat)
  case atStart => exact ⟨0, rfl, by omega, HBK.out, rfl, HBX.out⟩
  case round =>
    obtain ⟨i, rfl, hi, hk, hf, hb⟩ := hrel
    have HK := Aside0.mk hk
    have HF := Aside0.mk hf
    have HBL := Aside0.mk hb
    have k0 := (blk_cell hk 0).trans rfl
    clear hk hf hb HBX HBK
    by_cases hil : i < vs.length
    · have hic : i < cs.length := by have := HL.out; omega
      have c1 : decide ((i : Int) < (vs.length : Int)) = true := decide_eq_true (by omega)
      obtain ⟨ad, pp, rfl, hpp, p0, p1, p2⟩ := C3c (Kd.C_below HA.out HBL.out) i hic
      obtain ⟨bd, qq, rfl, hqq, q0, q1, q2⟩ := C3v (Kd.C_below HB.out HBL.out) i hil
      have hs2 := HS.out _ (val_mem vs i hil)
      have HE : Aside0 ((standB (rd_T69 cs (i : Int)) (rd_T51 vs (i : Int)) && fitsB (cs.drop (i + 1)) (vs.drop (i + 1))) = fitsB cs vs) := ⟨by
        rw [← HF.out, col_drop cs i hic, val_drop vs i hil, fitsB]⟩
      generalize rd_T69 cs (i : Int) = x at p0 p1 p2 HE
      generalize rd_T51 vs (i : Int) = v at q0 q1 q2 HE hs2
      have HS2 := Aside0.mk hs2
      clear hs2 HF
      go_upto_region 6 with fail
      refine wp_region_still_tail 9 (by kernel_rfl) (by kernel_rfl) ?_
      simp only [List.take_succ_cons, List.take_zero, List.drop_succ_cons, List.drop_zero]
      repeat still_step
      refine wpStill_nil ?_
      have HBD : Aside0 (Below w.heap.size w wr.drew) := ⟨HBL.out.drew⟩
      have HKD : Aside0 (wr.drew.heap[w.heap.size]? = some (Obj.cells #[.slice (some ad) cs.length c, .int .i64 a] 24)) := ⟨HK.out⟩
      change wpList _ _ _ _ _ wr.drew
      generalize wr.drew = wd at HBD HKD ⊢
      clear k0 p0 p1 p2 q0 q1 q2 HBL HK
      obtain ⟨r, hr⟩ : ∃ r, standB x v = r := ⟨_, rfl⟩
      rw [hr] at HE
      have HR := Aside0.mk hr
      clear hr
      cases r
      · have HE2 : Aside0 (fitsB cs vs = false) := ⟨by rw [← HE.out]; rfl⟩
        go_wp2_with (first | (go_at_call 95; refine (sfits_calls x v _ HS2.out (Tabs.below HT.out HBD.out)).mono ?_; rintro e w5 ⟨rfl, hb5⟩; rw [HR.out]; have HB5 := Aside0.mk hb5; clear hb5))
        go_ret
        exact ⟨by rw [HE2.out]; rfl, below_step HBD.out HB5.out⟩
      · have HE2 : Aside0 (fitsB (cs.drop (i + 1)) (vs.drop (i + 1)) = fitsB cs vs) := ⟨by rw [← HE.out]; rfl⟩
        go_wp2_with (first | (go_at_call 95; refine (sfits_calls x v _ HS2.out (Tabs.below HT.out HBD.out)).mono ?_; rintro e w5 ⟨rfl, hb5⟩; rw [HR.out]; have HB5 := Aside0.mk hb5; clear hb5))
        go_roundw
        case rel => exact ⟨i + 1, by go_num, by omega, blk_below HKD.out HB5.out, HE2.out, below_step HBD.out HB5.out⟩
        case measure => simp [intOf]; omega
    · have c1 : decide ((i : Int) < (vs.length : Int)) = false := decide_eq_false (by omega)
      have HE2 : Aside0 (fitsB cs vs = true) := ⟨by
        have := HL.out
        rw [← HF.out, List.drop_eq_nil_of_le (by omega), List.drop_eq_nil_of_le (by omega)]
        rfl⟩
      clear HF
      go_wp2
      go_ret
      exact ⟨by rw [HE2.out]; rfl, HBL.out⟩
set_option maxHeartbeats 2000000 in
set_option maxRecDepth 100000 in
theorem schemafits_calls (w : World) (A B : Option Addr) (c d : Nat) (cs : List Col) (a : Int) (vs : List V) (hA : Kd.C k69 w A cs.length cs) (hc : cs.length ≤ c) (hB : Kd.C k51 w B vs.length vs) (hd : vs.length ≤ d) (hl : vs.length = cs.length) (hs : Short vs) (hT : Tabs w) :
    Calls Tryd.prog 68 #[.agg #[.slice A cs.length c, .int .i64 a], .slice B vs.length d] w fun e w' => e = .returned (.bool (fitsB cs vs)) ∧ Below w.heap.size w w' := by
  have HA := Aside0.mk hA
  have HB := Aside0.mk hB
  have HT := Aside0.mk hT
  have HS := Aside0.mk hs
  have HL := Aside0.mk hl
  have c0 : (vs.length == cs.length) = true := by simp [hl]
  have c2 : decide ((vs.length : Int) = (cs.length : Int)) = true := decide_eq_true (by omega)
  have c3 : ((vs.length : Int) == (cs.length : Int)) = true := beq_iff_eq.2 (by omega)
  clear hA hB hT hs hl
  go_enter Tryd.func68, Tryd.ntmps68
  go_wp2_with (first | (go_at_call 89; refine (begins_calls _ A B c d cs a vs (Kd.C_alloc HA.out _) hc (Kd.C_alloc HB.out _) hd HL.out HS.out (Tabs.below HT.out (below_alloc (Below.refl _ _) _))).mono ?_; rintro e w5 ⟨rfl, hb5⟩; have HB5 := Aside0.mk hb5; clear hb5))
  go_ret
  exact ⟨rfl, below_step (below_alloc (Below.refl _ _) _) HB5.out⟩
end Go.Proofs.YtaddlkokencbkaaDoor.Fits
