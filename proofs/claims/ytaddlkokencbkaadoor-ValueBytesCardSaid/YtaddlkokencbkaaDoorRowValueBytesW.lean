/- The walk of the law ValueBytes: a value's bytes, behind others, are the document's, and are read as it was. No condition. -/
import Derived.Test.YtaddlkokencbkaaDoorVWrite
import Derived.Test.YtaddlkokencbkaaDoorLives3
import Derived.Deep.RegionWith
namespace Go.Proofs.YtaddlkokencbkaaDoor.RowValueBytesW
open Go.RowKit Go.Proofs.YtaddlkokencbkaaDoorW.PrintWords Go.Proofs.YtaddlkokencbkaaDoorW.PrintLast Go.Proofs.YtaddlkokencbkaaDoorW.PrintMore Go.Proofs.YtaddlkokencbkaaDoor.Exact Go.Proofs.YtaddlkokencbkaaDoor.Rd Go.Proofs.YtaddlkokencbkaaDoor.RdN Go.Proofs.YtaddlkokencbkaaDoor.Shelf Go.Proofs.YtaddlkokencbkaaDoor.May Go.Proofs.YtaddlkokencbkaaDoor.OpenV Go.Proofs.YtaddlkokencbkaaDoor.Vals Go.Proofs.YtaddlkokencbkaaDoor.VKeyW Go.Proofs.YtaddlkokencbkaaDoor.VOrd Go.Proofs.YtaddlkokencbkaaDoor.VRead
set_option linter.unusedVariables false
set_option linter.unusedSimpArgs false
theorem str_append (l m : List Int) : strOfNums l ++ strOfNums m = strOfNums (l ++ m) := by
  apply ByteArray.ext
  apply Array.ext'
  rw [ByteArray.data_append, Array.toList_append, strOfNums_data, strOfNums_data, strOfNums_data, List.map_append]
theorem str_size (l : List Int) : (strOfNums l).size = l.length := by
  show (strOfNums l).data.size = _
  rw [← Array.length_toList, strOfNums_data, List.length_map]
theorem good_c (k n : Int) (s : ByteArray) (a b : Int) (c : ByteArray) (w : World) (h : Vals.gv ⟨k, n, s⟩ = ⟨a, b, c⟩) :
    Calls Tryd.prog 28 #[.agg #[.int .i64 k, .int .i64 n, .string s]] w fun e w' => e = .returned (.agg #[.int .i64 a, .int .i64 b, .string c]) ∧ Below w.heap.size w w' := by
  refine (Good.good_calls k n s w).mono ?_
  rintro e w' ⟨rfl, hb⟩
  have h2 : (⟨(Good.goodV k n s).1, (Good.goodV k n s).2.1, (Good.goodV k n s).2.2⟩ : V) = ⟨a, b, c⟩ := h
  have e1 : (Good.goodV k n s).1 = a := congrArg (fun v : V => v.f0) h2
  have e2 : (Good.goodV k n s).2.1 = b := congrArg (fun v : V => v.f1) h2
  have e3 : (Good.goodV k n s).2.2 = c := congrArg (fun v : V => v.f2) h2
  exact ⟨by rw [e1, e2, e3], hb⟩
theorem wvB_bytes (k n : Int) (t : ByteArray) (hm : mayB k n t = true) : Plain.Bytes (wvB k n t) := by
  have hk := may_kind hm
  intro x hx
  unfold wvB at hx
  rcases List.mem_cons.1 hx with rfl | hx
  · omega
  · split at hx
    · exact Plain.digs_bytes _ x hx
    · split at hx
      · exact ((Plain.digs_bytes _).append (Plain.bytesOf_bytes _)) x hx
      · cases hx
theorem wvB_len (k n : Int) (t : ByteArray) (hm : mayB k n t = true) (hn : RangeI n) : 1 ≤ (wvB k n t).length ∧ (wvB k n t).length ≤ 5000 := by
  have hk := may_kind hm
  have h1 := digs_len10 (Lib.zigzag_lt hn.1 hn.2)
  have h2 := digs_len10 (n := t.size) (by omega)
  unfold wvB
  simp only [List.length_cons]
  split
  · omega
  · split
    · rw [List.length_append, bytesOf_length]; omega
    · simp
theorem write_c (A : Option Addr) (c nb : Nat) (l L : List Int) (k n : Int) (t : ByteArray) (w : World) (hnb : l.length = nb) (hr : Kd.C (Kd.int .u8) w A nb l) (hc : nb ≤ c) (hl : nb ≤ 20) (hm : mayB k n t = true) (hn : RangeI n) (hL : l ++ wvB k n t = L) :
    Calls Tryd.prog 36 #[.slice A nb c, .agg #[.int .i64 k, .int .i64 n, .string t]] w fun e w' => ∃ A1 c1, e = .returned (.slice A1 L.length c1) ∧ L.length ≤ c1 ∧ Kd.C (Kd.int .u8) w' A1 L.length L ∧ Below w.heap.size w w' := by
  subst hnb hL
  refine (VWrite.write_calls A c l k n t hm hn w hr hc hl).mono ?_
  rintro e w' ⟨v, rfl, hR, hb⟩
  obtain ⟨A1, c1, rfl, h1, h2⟩ := Kd.R_reads hR
  exact ⟨A1, c1, rfl, h1, h2, hb⟩
theorem ref_c (k n : Int) (t : ByteArray) (m : List Int) (w : World) (hm : mayB k n t = true) (hn : RangeI n) (hM : wvB k n t = m) :
    Calls Tryd.prog 37 #[.agg #[.int .i64 k, .int .i64 n, .string t]] w fun e w' => ∃ A1 c1, e = .returned (.slice A1 m.length c1) ∧ m.length ≤ c1 ∧ Kd.C (Kd.int .u8) w' A1 m.length m ∧ Below w.heap.size w w' := by
  subst hM
  refine (VWrite.refwrite_calls k n t hm hn w).mono ?_
  rintro e w' ⟨v, rfl, hR, hb⟩
  obtain ⟨A1, c1, rfl, h1, h2⟩ := Kd.R_reads hR
  exact ⟨A1, c1, rfl, h1, h2, hb⟩
theorem read_c (w : World) (A : Option Addr) (L m : List Int) (c nb N : Nat) (hN : L.length = N) (h : Kd.C (Kd.int .u8) w A N L) (hc : N ≤ c) (hb : nb ≤ N) (hne : ¬ c = nb) (hm : L.drop nb = m) :
    Calls Tryd.prog 14 #[.slice (A.map (·.add nb)) (N - nb) (c - nb)] w fun r w' => ∃ g A', r = .returned (.pointer (some ⟨g, 0, none⟩)) ∧ w.heap.size ≤ g ∧ Rd w' g A' m (c - nb) 0 ∧ Below w.heap.size w w' := by
  subst hN hm
  have hC := C_sub h hb hc
  have := read_calls w (subA A c nb) (L.drop nb) (c - nb) hC (by rw [List.length_drop]; omega)
  rw [List.length_drop, show subA A c nb = A.map (·.add nb) from if_neg hne] at this
  refine this.mono ?_
  rintro r w' ⟨g, h1, h2, h3, h4⟩
  exact ⟨g, _, h1, h2, h3, h4⟩
set_option maxHeartbeats 4000000 in
set_option maxRecDepth 100000 in
theorem walk (k n : Int) (s : ByteArray) (a b : Int) (t : ByteArray) (A : Option Addr) (c n0 nb N : Nat) (l m L : List Int) (w : World) (hT : Tabs w) (hP : Pow w) (h : Vals.gv ⟨k, n, s⟩ = ⟨a, b, t⟩) (rb : RangeI b) (ma : mayB a b t = true)
    (hr : Kd.C (Kd.int .u8) w A nb l) (hc : nb ≤ c) (hl : l.length = nb) (hn : nb ≤ 20) (h0 : (20 < n0 ∧ nb = 20) ∨ (n0 ≤ 20 ∧ n0 = nb)) (hc0 : n0 ≤ c) (hM : wvB a b t = m) (hL : l ++ m = L) (hN : L.length = N) :
    Calls Tryd.prog 11 #[.agg #[.int .i64 k, .int .i64 n, .string s], .slice A n0 c] w fun e w' => e = .returned (.bool true) ∧ Below w.heap.size w w' := by
  have H0 : Aside0 (((20 : Int) < (n0 : Int) ∧ 20 ≤ n0 ∧ nb = 20 ∧ 20 ≤ c) ∨ (¬ (20 : Int) < (n0 : Int) ∧ n0 = nb)) := ⟨by
    rcases h0 with ⟨h, e⟩ | ⟨h, e⟩
    · exact .inl ⟨by omega, by omega, e, by omega⟩
    · exact .inr ⟨by omega, e⟩⟩
  have hml := wvB_len a b t ma rb
  have hmb := wvB_bytes a b t ma
  rw [hM] at hml hmb
  have hNN : N = nb + m.length := by rw [← hN, ← hL, List.length_append, hl]
  have hnbN : nb ≤ N := by omega
  have hdrop : L.drop nb = m := by rw [← hL, ← hl, List.drop_left]
  have hadd : ∀ W, (Op.stringOp .add (strOfNums l) (strOfNums m)).run Tryd.prog W = .ok (.string (strOfNums L)) W := fun W => by
    have q := run_string_add_sum (P := Tryd.prog) (w := W) (strOfNums l) (strOfNums m) (by rw [str_size, str_size]; omega)
    rw [str_append, hL] at q
    exact q
  have HG := Aside0.mk h
  have HT := Aside0.mk hT
  have HP := Aside0.mk hP
  have RB := Aside0.mk rb
  have MA := Aside0.mk ma
  have HC := Aside0.mk hr
  have HCC := Aside0.mk hc
  have HLN := Aside0.mk hl
  have HM := Aside0.mk hM
  have HL := Aside0.mk hL
  have HN := Aside0.mk hN
  have HML := Aside0.mk hml
  have HMB := Aside0.mk hmb
  have HD := Aside0.mk hdrop
  have HNN := Aside0.mk hNN
  clear h hT hP rb ma hr hc hl h0 hM hL hN hml hmb hdrop hNN hc0
  have cee : ∀ y : List UInt8, (y == y) = true := by simp
  have cii : ∀ y : Int, (y == y) = true := by simp
  go_enter Tryd.func11, Tryd.ntmps11
  go_upto_region 1 with fail
  have b0 := blk_new w (blkV k n s)
  have HW2 := Aside0.mk (below_alloc (Below.refl w.heap.size w) (blkV k n s))
  have m0 := (blk_cell b0 0).trans rfl
  have m1 := (blk_cell b0 1).trans rfl
  have m2 := (blk_cell b0 2).trans rfl
  have HC2 := Aside0.mk (Kd.C_alloc HC.out (blkV k n s))
  clear b0
  change Code.wp _ _ _ _ (w.alloc (blkV k n s))
  generalize w.alloc (blkV k n s) = W2 at m0 m1 m2 HW2 HC2 ⊢
  go_upto_region 2 with (go_at_call 28; refine (good_c k n s a b t _ HG.out).mono ?_; rintro e w3 ⟨rfl, hb3⟩; have HB3 := Aside0.mk (below_step HW2.out hb3); have HC3 := Aside0.mk (Kd.C_below HC2.out hb3); clear hb3)
  have p0 := (blk_cell (blk_new w3 (blkV a b t)) 0).trans rfl
  have p1 := (blk_cell (blk_new w3 (blkV a b t)) 1).trans rfl
  have p2 := (blk_cell (blk_new w3 (blkV a b t)) 2).trans rfl
  have HB4 := Aside0.mk (below_alloc HB3.out (blkV a b t))
  have HC4 := Aside0.mk (Kd.C_alloc HC3.out (blkV a b t))
  have HLT : Aside0 (w3.heap.size < (w3.alloc (blkV a b t)).heap.size) := ⟨by simp⟩
  clear m0 m1 m2
  change Code.wp _ _ _ _ (w3.alloc (blkV a b t))
  generalize w3.alloc (blkV a b t) = W4 at p0 p1 p2 HB4 HC4 HLT ⊢
  generalize w3.heap.size = g5 at p0 p1 p2 HLT ⊢
  go_upto_if 14 with fail
  go_cut [1] (fun v1 wx => v1 = .slice A nb c ∧ W4 = wx)
  case first =>
    rcases H0.out with ⟨c1, csz, c2, c3⟩ | ⟨c1, c2⟩
    · subst c2
      go_wp2_with fail
      go_meet
      exact ⟨rfl, rfl⟩
    · subst c2
      go_wp2_with fail
      go_meet
      exact ⟨rfl, rfl⟩
  case rest =>
  obtain ⟨rfl, rfl⟩ := hcut
  go_upto_region 5 with (go_at_call 36; refine (write_c A c nb l L a b t W4 HLN.out HC4.out HCC.out hn MA.out RB.out (by rw [HM.out]; exact HL.out)).mono ?_; rintro e w5 ⟨A6, c6, rfl, hc6, hC6, hb5⟩; rw [HN.out] at hc6 hC6 ⊢; have HC6 := Aside0.mk hC6; have HCC6 := Aside0.mk hc6; have HB5 := Aside0.mk (below_step HB4.out hb5); have HC5 := Aside0.mk (Kd.C_below HC4.out hb5); have q0 := pw_cell_below hb5 p0; have q1 := pw_cell_below hb5 p1; have q2 := pw_cell_below hb5 p2; have HLT5 : Aside0 (g5 < w5.heap.size) := ⟨Nat.lt_of_lt_of_le HLT.out hb5.size⟩; clear hb5 hC6 hc6)
  clear p0 p1 p2
  go_cut [28] (fun v28 wx => v28 = .bool false ∧ Below w5.heap.size w5 wx)
  case first =>
    have k1 := conv_string (Kd.C_drew HC6.out) c6
    have k2 := conv_string (Kd.C_drew HC5.out) c
    go_region_with (go_at_call 37; refine (ref_c a b t m _ MA.out RB.out HM.out).mono ?_; rintro e w7 ⟨A7, c7, rfl, hc7, hC7, hb7⟩; have k3 := conv_string hC7 c7; have k4 := conv_string (Kd.C_below (Kd.C_drew HC6.out) hb7) c6; have k5 := conv_string (Kd.C_below (Kd.C_drew HC5.out) hb7) c; have HB7 := Aside0.mk (below_step (Below.refl w5.heap.size w5).drew hb7); clear hb7 hC7 hc7)
    all_goals (go_wp2_with fail; go_meet; exact ⟨rfl, HB7.out⟩)
  case rest =>
  obtain ⟨rfl, hb⟩ := hcut
  have HB6 := Aside0.mk (below_step HB5.out hb)
  have HC7 := Aside0.mk (Kd.C_below HC6.out hb)
  have x0 := pw_cell_below hb q0
  have x1 := pw_cell_below hb q1
  have x2 := pw_cell_below hb q2
  have HLT6 : Aside0 (g5 < wc.heap.size) := ⟨Nat.lt_of_lt_of_le HLT5.out hb.size⟩
  clear hb q0 q1 q2
  have hcne : ¬ c6 = nb := by have := HCC6.out; have := HNN.out; have := HML.out; omega
  have hcle : nb ≤ c6 := by have := HCC6.out; omega
  have HNE := Aside0.mk hcne
  have HTG : Aside0 (Tryd.laysValid_ren.g 3 < w.heap.size ∧ Tryd.laysValid_ren.g 4 < w.heap.size) := ⟨World.block_lt_of_cell? _ _ (HT.out.1 0 (by decide)), World.block_lt_of_cell? _ _ (HT.out.2 0 (by decide)).1⟩
  go_upto_region 8 with (go_at_call 14; refine (read_c wc A6 L m c6 nb N HN.out HC7.out HCC6.out hnbN HNE.out HD.out).mono ?_; rintro e w8 ⟨g, A8, rfl, hg, hr8, hb8⟩; have HR8 := Aside0.mk hr8; have HB8 := Aside0.mk (below_step HB6.out hb8); have HG8 := Aside0.mk hg; have y0 := pw_cell_below hb8 x0; have y1 := pw_cell_below hb8 x1; have y2 := pw_cell_below hb8 x2; have HGG : Aside0 (w.heap.size ≤ g) := ⟨Nat.le_trans HB6.out.size hg⟩; have HNG : Aside0 (g5 ≠ g) := ⟨by have := HLT6.out; omega⟩; clear hr8 hb8 hg)
  clear x0 x1 x2
  go_upto_region 11 with (go_at_call 38; refine (vread_calls a b t MA.out RB.out w8 g A8 m [] (c6 - nb) HR8.out (by rw [HM.out, List.append_nil]) HMB.out (Tabs.below HT.out HB8.out) (by have := HTG.out; have := HGG.out; omega)).mono ?_; rintro e w9 ⟨A9, c9, rfl, hr9, ho9⟩; have HR9 := Aside0.mk hr9; have HB9 := Aside0.mk (Off.below HB8.out ho9 HGG.out); have z0 := cell_off y0 HNG.out ho9; have z1 := cell_off y1 HNG.out ho9; have z2 := cell_off y2 HNG.out ho9; clear hr9 ho9)
  clear y0 y1 y2
  have u0 := (blk_cell (blk_new w9 (blkV a b t)) 0).trans rfl
  have u1 := (blk_cell (blk_new w9 (blkV a b t)) 1).trans rfl
  have u2 := (blk_cell (blk_new w9 (blkV a b t)) 2).trans rfl
  have v0 := pw_cell_below (below_alloc (Below.refl w9.heap.size w9) (blkV a b t)) z0
  have v1 := pw_cell_below (below_alloc (Below.refl w9.heap.size w9) (blkV a b t)) z1
  have v2 := pw_cell_below (below_alloc (Below.refl w9.heap.size w9) (blkV a b t)) z2
  have HB10 := Aside0.mk (below_alloc HB9.out (blkV a b t))
  have HR10 := Aside0.mk (HR9.out.below (below_alloc (Below.refl w9.heap.size w9) (blkV a b t)))
  clear z0 z1 z2
  change Code.wp _ _ _ _ (w9.alloc (blkV a b t))
  generalize w9.alloc (blkV a b t) = W10 at u0 u1 u2 v0 v1 v2 HB10 HR10 ⊢
  generalize w9.heap.size = g8 at u0 u1 u2 ⊢
  go_wp2_with (first | (go_at_call 39; refine (end_calls _ g A9 [] c9 0 HR10.out).mono ?_; rintro r wz ⟨rfl, rfl⟩; rw [show endE 0 ([] : List Int).length = 0 from rfl]) | (go_at_call 27; refine (Lives3.lives_calls _ (Tabs.below HT.out HB10.out) (Show.Pow.below HP.out HB10.out)).mono ?_; rintro e w11 ⟨rfl, hb11⟩; have HB11 := Aside0.mk (below_step HB10.out hb11); clear hb11))
  go_ret
  exact ⟨rfl, HB11.out⟩
theorem law_calls (y : V) (A : Option Addr) (c : Nat) (l : List Int) (w : World) (ok : OkV y) (sm : Small y) (hr : Kd.C (Kd.int .u8) w A l.length l) (hc : l.length ≤ c) (wf : ∀ y ∈ l, (Lit.int .u8 y).wf = true) (hT : Tabs w) (hP : Pow w) :
    Calls Tryd.prog 11 #[.agg #[.int .i64 y.f0, .int .i64 y.f1, .string y.f2], .slice A l.length c] w fun e w' => e = .returned (.bool true) ∧ Below w.heap.size w w' := by
  have hlen : (l.take 20).length = min 20 l.length := List.length_take
  exact walk y.f0 y.f1 y.f2 (Vals.gv y).f0 (Vals.gv y).f1 (Vals.gv y).f2 A c l.length (l.take 20).length _ (l.take 20) _ _ w hT hP rfl (gv_range y ok.2) (Vals.gv_may ok.1) (by
      by_cases h : 20 ≤ l.length
      · exact Kd.C_take hr h
      · have e : l.take 20 = l := List.take_of_length_le (by omega)
        rw [e]; exact hr) (by omega) rfl (by omega) (by omega) hc rfl rfl rfl
end Go.Proofs.YtaddlkokencbkaaDoor.RowValueBytesW
