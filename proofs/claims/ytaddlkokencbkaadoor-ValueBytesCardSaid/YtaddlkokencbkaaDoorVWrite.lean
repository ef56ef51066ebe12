/- pantographref03.Write and value.Write, by hand: a value's bytes. -/
import Derived.Test.YtaddlkokencbkaaDoorRefH
import Derived.Test.YtaddlkokencbkaaDoorVRead
import Derived.Deep.AppendLies
import Derived.Deep.DeepCutAuto
import Derived.Laws.MakeOwn
namespace Go.Proofs.YtaddlkokencbkaaDoor.VWrite
open Go.RowKit Go.Proofs.YtaddlkokencbkaaDoorW.PrintWords Go.Proofs.YtaddlkokencbkaaDoorW.PrintLast Go.Proofs.YtaddlkokencbkaaDoorW.PrintMore Go.Proofs.YtaddlkokencbkaaDoor.Exact Go.Proofs.YtaddlkokencbkaaDoor.OpenV Go.Proofs.YtaddlkokencbkaaDoor.May Go.Proofs.YtaddlkokencbkaaDoor.VOrd Go.Proofs.YtaddlkokencbkaaDoor.VRead
set_option linter.unusedVariables false
set_option linter.unusedSimpArgs false
set_option maxHeartbeats 4000000 in
set_option maxRecDepth 100000 in
theorem refwrite_calls (k n : Int) (t : ByteArray) (hm : mayB k n t = true) (hn : RangeI n) (w : World) :
    Calls Tryd.prog 37 #[.agg #[.int .i64 k, .int .i64 n, .string t]] w fun e w' => ∃ v, e = .returned v ∧ Kd.R (Kd.int .u8) 5 w' w.heap.size (fun _ => True) v (wvB k n t) ∧ Below w.heap.size w w' := by
  have hk := may_kind hm
  have HK := Aside0.mk hk
  have HN := Aside0.mk hn
  clear hm hk hn
  go_enter Tryd.func37, Tryd.ntmps37
  go_upto_region 1 with fail
  have b0 := blk_new w (blkV k n t)
  have HB2 := Aside0.mk (below_alloc (Below.refl w.heap.size w) (blkV k n t))
  have m0 := (blk_cell b0 0).trans rfl
  have m1 := (blk_cell b0 1).trans rfl
  have m2 := (blk_cell b0 2).trans rfl
  have HSZ : Aside0 (w.heap.size ≤ (w.alloc (blkV k n t)).heap.size) := ⟨by simp⟩
  clear b0
  change Code.wp _ _ _ _ (w.alloc (blkV k n t))
  generalize w.alloc (blkV k n t) = W2 at m0 m1 m2 HB2 HSZ ⊢
  rcases HK.out with ⟨rfl, rfl, hs⟩ | ⟨rfl, _, hs⟩ | ⟨rfl, hs⟩ | ⟨hk, rfl, hs⟩
  · clear HK HN hs
    go_wp2_with ((with_reducible refine gate_dst (N := 7) rfl ?_); refine Kd.R_lit (Kd.int .u8) (w0 := W2) W2.heap.size 5 ?hg (N := 7) ?hd (xs := ([0] : List Int)) (inner := [.int .u8 0]) (ok := fun _ => True) (okp := fun _ => True) ?hr ?hp (fun _ hk => hk) trivial (Below.refl _ _) (Nat.le_refl _) (by simp) ?_; (case hd => rfl); (case hg => rfl); (case hr => first | (go_simp; done) | (go_simp; rfl)); (case hp => exact (Reps.one (show Kd.M (Kd.int .u8) _ _ _ 0 [.int .u8 0] from rfl) (Reps.none _ _))); intro v7 w3 ho hb hg_ hnew_; have HO := Aside0.mk ho; have HB3 := Aside0.mk hb; have p0 := pw_cell_below hb m0; have p1 := pw_cell_below hb m1; have p2 := pw_cell_below hb m2; clear ho hb hg_ hnew_)
    go_ret
    exact ⟨_, rfl, Kd.R_lower HO.out HSZ.out, below_step HB2.out HB3.out⟩
  · obtain ⟨m, hm⟩ : ∃ m, digs (Lib.zigzag n) = m := ⟨_, rfl⟩
    have HMM := Aside0.mk hm
    have HMS : Aside0 (m.length ≤ 10) := ⟨by rw [← hm]; exact digs_len10 (Lib.zigzag_lt HN.out.1 HN.out.2)⟩
    have HEQ : Aside0 (wvB 1 n t = [1] ++ m) := ⟨by rw [← hm]; rfl⟩
    clear HK hs hm
    go_wp2_with (first | ((with_reducible refine gate_dst (N := 7) rfl ?_); refine Kd.R_lit (Kd.int .u8) (w0 := W2) W2.heap.size 5 ?hg (N := 7) ?hd (xs := ([1] : List Int)) (inner := [.int .u8 1]) (ok := fun _ => True) (okp := fun _ => True) ?hr ?hp (fun _ hk => hk) trivial (Below.refl _ _) (Nat.le_refl _) (by simp) ?_; (case hd => rfl); (case hg => rfl); (case hr => first | (go_simp; done) | (go_simp; rfl)); (case hp => exact (Reps.one (show Kd.M (Kd.int .u8) _ _ _ 1 [.int .u8 1] from rfl) (Reps.none _ _))); intro v7 w3 ho hb hg_ hnew_; have HO := Aside0.mk ho; have HB3 := Aside0.mk hb; have p0 := pw_cell_below hb m0; have p1 := pw_cell_below hb m1; have p2 := pw_cell_below hb m2; clear ho hb hg_ hnew_) | (go_at_call 61; refine (RefH.signed_calls n _ HN.out.1 HN.out.2).mono ?_; rintro e w4 ⟨v4, rfl, hr4, hb4⟩; obtain ⟨A4, c4, rfl, hc4, hC4⟩ := Kd.R_reads hr4; have HC4 := Aside0.mk hC4; have HO4 := Aside0.mk (Kd.R_below HO.out hb4); have HB4 := Aside0.mk (below_step HB3.out hb4); clear hr4 hb4 hC4 hc4; rw [HMM.out] at HC4 ⊢) | (at_builtin; refine R_append_row (w0 := W2) W2.heap.size rfl (.tmp 16) (.tmp 19) 25 5 .u8 1 rfl Tryd.underlying25 Lay.info5 (by omega) v7 [1] m _ _ _ rfl rfl HO4.out HC4.out HB4.out HB4.out.size (by have := HMS.out; simp; omega) ?_; intro v9 w9 ho9 hb9 _; have HO9 := Aside0.mk ho9; have HB9 := Aside0.mk hb9; clear ho9 hb9))
    go_ret
    exact ⟨_, rfl, Kd.R_lower (by rw [HEQ.out]; exact HO9.out) HSZ.out, below_step HB2.out HB9.out⟩
  · obtain ⟨m, hm⟩ : ∃ m, digs (Lib.zigzag n) = m := ⟨_, rfl⟩
    have HMM := Aside0.mk hm
    have HMS : Aside0 (m.length ≤ 10) := ⟨by rw [← hm]; exact digs_len10 (Lib.zigzag_lt HN.out.1 HN.out.2)⟩
    have HEQ : Aside0 (wvB 2 n t = [2] ++ m) := ⟨by rw [← hm]; rfl⟩
    clear HK hs hm
    go_wp2_with (first | ((with_reducible refine gate_dst (N := 7) rfl ?_); refine Kd.R_lit (Kd.int .u8) (w0 := W2) W2.heap.size 5 ?hg (N := 7) ?hd (xs := ([2] : List Int)) (inner := [.int .u8 2]) (ok := fun _ => True) (okp := fun _ => True) ?hr ?hp (fun _ hk => hk) trivial (Below.refl _ _) (Nat.le_refl _) (by simp) ?_; (case hd => rfl); (case hg => rfl); (case hr => first | (go_simp; done) | (go_simp; rfl)); (case hp => exact (Reps.one (show Kd.M (Kd.int .u8) _ _ _ 2 [.int .u8 2] from rfl) (Reps.none _ _))); intro v7 w3 ho hb hg_ hnew_; have HO := Aside0.mk ho; have HB3 := Aside0.mk hb; have p0 := pw_cell_below hb m0; have p1 := pw_cell_below hb m1; have p2 := pw_cell_below hb m2; clear ho hb hg_ hnew_) | (go_at_call 61; refine (RefH.signed_calls n _ HN.out.1 HN.out.2).mono ?_; rintro e w4 ⟨v4, rfl, hr4, hb4⟩; obtain ⟨A4, c4, rfl, hc4, hC4⟩ := Kd.R_reads hr4; have HC4 := Aside0.mk hC4; have HO4 := Aside0.mk (Kd.R_below HO.out hb4); have HB4 := Aside0.mk (below_step HB3.out hb4); clear hr4 hb4 hC4 hc4; rw [HMM.out] at HC4 ⊢) | (at_builtin; refine R_append_row (w0 := W2) W2.heap.size rfl (.tmp 16) (.tmp 19) 25 5 .u8 1 rfl Tryd.underlying25 Lay.info5 (by omega) v7 [2] m _ _ _ rfl rfl HO4.out HC4.out HB4.out HB4.out.size (by have := HMS.out; simp; omega) ?_; intro v9 w9 ho9 hb9 _; have HO9 := Aside0.mk ho9; have HB9 := Aside0.mk hb9; clear ho9 hb9))
    go_ret
    exact ⟨_, rfl, Kd.R_lower (by rw [HEQ.out]; exact HO9.out) HSZ.out, below_step HB2.out HB9.out⟩
  · rcases hk with rfl | rfl
    · obtain ⟨m, hm⟩ : ∃ m, digs t.size ++ bytesOf t = m := ⟨_, rfl⟩
      have HMM := Aside0.mk hm
      have HMS : Aside0 (m.length ≤ 5000) := ⟨by
        have := digs_len10 (n := t.size) (by omega)
        rw [← hm, List.length_append, bytesOf_length]; omega⟩
      have HEQ : Aside0 (wvB 3 0 t = [3] ++ m) := ⟨by rw [← hm]; rfl⟩
      have HTS : Aside0 (t.size ≤ 140737488355000) := ⟨by omega⟩
      clear HK HN hs hm
      go_wp2_with (first | ((with_reducible refine gate_dst (N := 7) rfl ?_); refine Kd.R_lit (Kd.int .u8) (w0 := W2) W2.heap.size 5 ?hg (N := 7) ?hd (xs := ([3] : List Int)) (inner := [.int .u8 3]) (ok := fun _ => True) (okp := fun _ => True) ?hr ?hp (fun _ hk => hk) trivial (Below.refl _ _) (Nat.le_refl _) (by simp) ?_; (case hd => rfl); (case hg => rfl); (case hr => first | (go_simp; done) | (go_simp; rfl)); (case hp => exact (Reps.one (show Kd.M (Kd.int .u8) _ _ _ 3 [.int .u8 3] from rfl) (Reps.none _ _))); intro v7 w3 ho hb hg_ hnew_; have HO := Aside0.mk ho; have HB3 := Aside0.mk hb; have p0 := pw_cell_below hb m0; have p1 := pw_cell_below hb m1; have p2 := pw_cell_below hb m2; clear ho hb hg_ hnew_) | (go_at_call 62; refine (RefH.text_calls t _ HTS.out).mono ?_; rintro e w4 ⟨v4, rfl, hr4, hb4⟩; obtain ⟨A4, c4, rfl, hc4, hC4⟩ := Kd.R_reads hr4; have HC4 := Aside0.mk hC4; have HO4 := Aside0.mk (Kd.R_below HO.out hb4); have HB4 := Aside0.mk (below_step HB3.out hb4); clear hr4 hb4 hC4 hc4; rw [HMM.out] at HC4 ⊢) | (at_builtin; refine R_append_row (w0 := W2) W2.heap.size rfl (.tmp 29) (.tmp 32) 25 5 .u8 1 rfl Tryd.underlying25 Lay.info5 (by omega) v7 [3] m _ _ _ rfl rfl HO4.out HC4.out HB4.out HB4.out.size (by have := HMS.out; simp; omega) ?_; intro v9 w9 ho9 hb9 _; have HO9 := Aside0.mk ho9; have HB9 := Aside0.mk hb9; clear ho9 hb9))
      go_ret
      exact ⟨_, rfl, Kd.R_lower (by rw [HEQ.out]; exact HO9.out) HSZ.out, below_step HB2.out HB9.out⟩
    · obtain ⟨m, hm⟩ : ∃ m, digs t.size ++ bytesOf t = m := ⟨_, rfl⟩
      have HMM := Aside0.mk hm
      have HMS : Aside0 (m.length ≤ 5000) := ⟨by
        have := digs_len10 (n := t.size) (by omega)
        rw [← hm, List.length_append, bytesOf_length]; omega⟩
      have HEQ : Aside0 (wvB 4 0 t = [4] ++ m) := ⟨by rw [← hm]; rfl⟩
      have HTS : Aside0 (t.size ≤ 140737488355000) := ⟨by omega⟩
      clear HK HN hs hm
      go_wp2_with (first | ((with_reducible refine gate_dst (N := 7) rfl ?_); refine Kd.R_lit (Kd.int .u8) (w0 := W2) W2.heap.size 5 ?hg (N := 7) ?hd (xs := ([4] : List Int)) (inner := [.int .u8 4]) (ok := fun _ => True) (okp := fun _ => True) ?hr ?hp (fun _ hk => hk) trivial (Below.refl _ _) (Nat.le_refl _) (by simp) ?_; (case hd => rfl); (case hg => rfl); (case hr => first | (go_simp; done) | (go_simp; rfl)); (case hp => exact (Reps.one (show Kd.M (Kd.int .u8) _ _ _ 4 [.int .u8 4] from rfl) (Reps.none _ _))); intro v7 w3 ho hb hg_ hnew_; have HO := Aside0.mk ho; have HB3 := Aside0.mk hb; have p0 := pw_cell_below hb m0; have p1 := pw_cell_below hb m1; have p2 := pw_cell_below hb m2; clear ho hb hg_ hnew_) | (go_at_call 62; refine (RefH.text_calls t _ HTS.out).mono ?_; rintro e w4 ⟨v4, rfl, hr4, hb4⟩; obtain ⟨A4, c4, rfl, hc4, hC4⟩ := Kd.R_reads hr4; have HC4 := Aside0.mk hC4; have HO4 := Aside0.mk (Kd.R_below HO.out hb4); have HB4 := Aside0.mk (below_step HB3.out hb4); clear hr4 hb4 hC4 hc4; rw [HMM.out] at HC4 ⊢) | (at_builtin; refine R_append_row (w0 := W2) W2.heap.size rfl (.tmp 29) (.tmp 32) 25 5 .u8 1 rfl Tryd.underlying25 Lay.info5 (by omega) v7 [4] m _ _ _ rfl rfl HO4.out HC4.out HB4.out HB4.out.size (by have := HMS.out; simp; omega) ?_; intro v9 w9 ho9 hb9 _; have HO9 := Aside0.mk ho9; have HB9 := Aside0.mk hb9; clear ho9 hb9))
      go_ret
      exact ⟨_, rfl, Kd.R_lower (by rw [HEQ.out]; exact HO9.out) HSZ.out, below_step HB2.out HB9.out⟩
section
theorem make0_run (W : World) (c : Nat) (hc : c ≤ 1000) : (Instr.makeSlice 25 (.int .i64 0) (.int .i64 (c : Int))).run Tryd.prog W = .ok (.slice (some ⟨W.heap.size, 0, none⟩) 0 c) (W.alloc (.cells (madeCells #[.int .u8 0] c) 5)) := by
  obtain ⟨i0, hi, hzz⟩ := Option.map_eq_some_iff.1 Lay.info5
  simp only [Prod.mk.injEq] at hzz
  obtain ⟨hz0, hz1, hz2⟩ := hzz
  have h := run_make (P := Tryd.prog) W 25 5 i0 (.int .u8 0) Tryd.underlying25 hi hz0 .i64 .i64 0 (c : Int) (Int.le_refl _) (by omega) (by rw [hz2]; omega) (by omega)
  rw [hz1, show (Value.int IntKind.u8 0).cells = #[.int .u8 0] from rfl] at h
  simpa using h
theorem made_R (W : World) (b c base : Nat) (hb : W.heap.size = b) (hbase : base ≤ W.heap.size) (hc : c ≤ 1000) : Kd.R (Kd.int .u8) 5 (W.alloc (.cells (madeCells #[.int .u8 0] c) 5)) base (fun _ => True) (.slice (some ⟨b, 0, none⟩) 0 c) [] := by
  subst hb
  exact Kd.R_of_own (h1 := fun _ => rfl) (ok := fun _ => True) (World.ownsRow_made W _ c hbase (by simp only [maxLen]; omega) (by rw [size_madeCells]; simp)) (fun _ _ => trivial)
theorem C1_of_cell {W : World} {b : Nat} {k : Int} (h : W.cell? ⟨b, 0, none⟩ = some (.int .u8 k)) : Kd.C (Kd.int .u8) W (some ⟨b, 0, none⟩) 1 [k] := by
  refine Kd.C_of_reads (d := (0 : Int)) (h1 := fun _ => rfl) ⟨rfl, by simp, fun _ => ⟨_, rfl, fun j hj => ?_⟩⟩
  match j, hj with
  | 0, _ => exact h
end
set_option maxHeartbeats 4000000 in
set_option maxRecDepth 100000 in
theorem write_calls (A : Option Addr) (c : Nat) (l : List Int) (k n : Int) (t : ByteArray) (hm : mayB k n t = true) (hn : RangeI n) (w : World) (hr : Kd.C (Kd.int .u8) w A l.length l) (hc : l.length ≤ c) (hl : l.length ≤ 20) :
    Calls Tryd.prog 36 #[.slice A l.length c, .agg #[.int .i64 k, .int .i64 n, .string t]] w fun e w' => ∃ v, e = .returned v ∧ Kd.R (Kd.int .u8) 5 w' w.heap.size (fun _ => True) v (l ++ wvB k n t) ∧ Below w.heap.size w w' := by
  have hk := may_kind hm
  have HK := Aside0.mk hk
  have HN := Aside0.mk hn
  have HR := Aside0.mk hr
  clear hm hk hn hr
  go_enter Tryd.func36, Tryd.ntmps36
  go_upto_region 1 with fail
  have b0 := blk_new w (blkV k n t)
  have HB2 := Aside0.mk (below_alloc (Below.refl w.heap.size w) (blkV k n t))
  have m0 := (blk_cell b0 0).trans rfl
  have m1 := (blk_cell b0 1).trans rfl
  have m2 := (blk_cell b0 2).trans rfl
  have HSZ : Aside0 (w.heap.size ≤ (w.alloc (blkV k n t)).heap.size) := ⟨by simp⟩
  have HC2 := Aside0.mk (Kd.C_alloc HR.out (blkV k n t))
  clear b0
  change Code.wp _ _ _ _ (w.alloc (blkV k n t))
  generalize w.alloc (blkV k n t) = W2 at m0 m1 m2 HB2 HSZ HC2 ⊢
  have hk8 : IntKind.u8.wrap k = k := by have := HK.out; rw [IntKind.wrap_u8]; omega
  have hw1 : IntKind.i64.wrap ((l.length : Int) + 1) = ((l.length + 1 : Nat) : Int) := by rw [IntKind.wrap_i64]; omega
  have m0a : (W2.alloc (.cells (madeCells #[.int .u8 0] (l.length + 1)) 5)).cell? ⟨w.heap.size, 0, none⟩ = some (.int .i64 k) := pw_cell_below (below_alloc (Below.refl _ _) _) m0
  have hmk : ∀ W, (Instr.makeSlice 25 (.int .i64 0) (.int .i64 ((l.length : Int) + 1))).run Tryd.prog W = .ok (.slice (some ⟨W.heap.size, 0, none⟩) 0 (l.length + 1)) (W.alloc (.cells (madeCells #[.int .u8 0] (l.length + 1)) 5)) := fun W => make0_run W (l.length + 1) (by omega)
  go_cut [0] (fun v0 wx => Kd.R (Kd.int .u8) 5 wx W2.heap.size (fun _ => True) v0 (l ++ [k]) ∧ Below W2.heap.size W2 wx)
  case first =>
    go_region_law (first | (refine Kd.R_append_rows_step (Kd.int .u8) (w0 := W2) W2.heap.size rfl (.tmp 8) (.tmp 9) 25 5 (.int .u8 0) 1 rfl Tryd.underlying25 Lay.info5 rfl (by decide) (by omega) (.slice (some ⟨W2.heap.size, 0, none⟩) 0 (l.length + 1)) ([] : List Int) l _ _ _ (fun _ => True) (fun _ => False) rfl rfl (by exact Kd.R_drew (made_R W2 _ _ _ rfl (Nat.le_refl _) (by omega))) (by exact Kd.C_drew (Kd.C_alloc HC2.out _)) (fun _ _ h => h) (fun _ h => h.elim) (fun _ _ => trivial) (by exact (below_alloc (Below.refl W2.heap.size W2) _).drew) (by exact below_size ((below_alloc (Below.refl W2.heap.size W2) _).drew)) (by simp; omega) ?_; intro v10 w10 ho10 hb10 hg10 hat10; have HO10 := Aside0.mk ho10; have HB10 := Aside0.mk hb10; have m0' := pw_cell_below hb10 m0; clear ho10 hb10 hg10 hat10) | (refine Kd.R_append_rows_step (Kd.int .u8) (w0 := W2) W2.heap.size rfl (.tmp 8) (.tmp 9) 25 5 (.int .u8 0) 1 rfl Tryd.underlying25 Lay.info5 rfl (by decide) (by omega) (.slice (some ⟨W2.heap.size, 0, none⟩) 0 (l.length + 1)) ([] : List Int) l _ _ _ (fun _ => True) (fun _ => False) rfl rfl (by exact Kd.R_drew (Kd.R_alloc (made_R W2 _ _ _ rfl (Nat.le_refl _) (by omega)) _)) (by exact Kd.C_drew (Kd.C_alloc (Kd.C_alloc HC2.out _) _)) (fun _ _ h => h) (fun _ h => h.elim) (fun _ _ => trivial) (by exact (below_alloc (below_alloc (Below.refl W2.heap.size W2) _) _).drew) (by exact below_size ((below_alloc (below_alloc (Below.refl W2.heap.size W2) _) _).drew)) (by simp; omega) ?_; intro v10 w10 ho10 hb10 hg10 hat10; have HO10 := Aside0.mk ho10; have HB10 := Aside0.mk hb10; have m0' := pw_cell_below hb10 m0; have x14 : w10.cell? ⟨W2.heap.size + 1, 0, none⟩ = some (.int .u8 k) := (blk_cell (blk_grown (blk_drew (by have h := blk_new (W2.alloc (.cells (madeCells #[.int .u8 0] (l.length + 1)) 5)) (.cells #[.int .u8 k] 5); rw [show (W2.alloc (.cells (madeCells #[.int .u8 0] (l.length + 1)) 5)).heap.size = W2.heap.size + 1 by simp] at h; exact h)) hg10 (by simp [Value.ownBlock])) 0).trans rfl; clear ho10 hb10 hg10 hat10) | (refine Kd.R_append_rows_step (Kd.int .u8) (w0 := W2) W2.heap.size rfl (.tmp 8) (.tmp 9) 25 5 (.int .u8 0) 1 rfl Tryd.underlying25 Lay.info5 rfl (by decide) (by omega) (.slice (some ⟨W2.heap.size + 1, 0, none⟩) 0 (l.length + 1)) ([] : List Int) l _ _ _ (fun _ => True) (fun _ => False) rfl rfl (by exact Kd.R_drew (made_R (W2.alloc (.cells #[.int .u8 k] 5)) _ _ _ (by simp) (by simp) (by omega))) (by exact Kd.C_drew (Kd.C_alloc (Kd.C_alloc HC2.out _) _)) (fun _ _ h => h) (fun _ h => h.elim) (fun _ _ => trivial) (by exact (below_alloc (below_alloc (Below.refl W2.heap.size W2) _) _).drew) (by exact below_size ((below_alloc (below_alloc (Below.refl W2.heap.size W2) _) _).drew)) (by simp; omega) ?_; intro v10 w10 ho10 hb10 hg10 hat10; have HO10 := Aside0.mk ho10; have HB10 := Aside0.mk hb10; have m0' := pw_cell_below hb10 m0; have x14 : w10.cell? ⟨W2.heap.size, 0, none⟩ = some (.int .u8 k) := (blk_cell (blk_grown (blk_drew (blk_alloc (blk_new W2 (.cells #[.int .u8 k] 5)) _)) hg10 (by simp [Value.ownBlock])) 0).trans rfl; clear ho10 hb10 hg10 hat10) | (refine Kd.R_append_rows_step (Kd.int .u8) (w0 := W2) W2.heap.size rfl (.tmp 10) (.tmp 14) 25 5 (.int .u8 0) 1 rfl Tryd.underlying25 Lay.info5 rfl (by decide) (by omega) v10 l [k] _ _ _ (fun _ => True) (fun _ => False) rfl rfl (by exact Kd.R_alloc HO10.out _) (by exact C1_of_cell ((blk_cell (blk_new w10 (.cells #[.int .u8 k] 5)) 0).trans rfl)) (fun _ _ h => h) (fun _ h => h.elim) (fun _ _ => trivial) (by exact below_alloc HB10.out _) (by exact below_size (below_alloc HB10.out _)) (by simp; omega) ?_; intro v15 w15 ho15 hb15 hg15 hat15; have HO15 := Aside0.mk ho15; have HB15 := Aside0.mk hb15; clear ho15 hb15 hg15 hat15) | (refine Kd.R_append_rows_step (Kd.int .u8) (w0 := W2) W2.heap.size rfl (.tmp 10) (.tmp 14) 25 5 (.int .u8 0) 1 rfl Tryd.underlying25 Lay.info5 rfl (by decide) (by omega) v10 l [k] _ _ _ (fun _ => True) (fun _ => False) rfl rfl (by exact HO10.out) (by exact C1_of_cell x14) (fun _ _ h => h) (fun _ h => h.elim) (fun _ _ => trivial) (by exact HB10.out) (by exact below_size (HB10.out)) (by simp; omega) ?_; intro v15 w15 ho15 hb15 hg15 hat15; have HO15 := Aside0.mk ho15; have HB15 := Aside0.mk hb15; clear ho15 hb15 hg15 hat15))
    all_goals
      go_wp2_with fail
      go_meet
      exact ⟨HO15.out, HB15.out⟩
  case rest =>
  obtain ⟨hR0, hb0⟩ := hcut
  have HO0 := Aside0.mk hR0
  have HB0 := Aside0.mk hb0
  have HB3 := Aside0.mk (below_step HB2.out hb0)
  have p0 := pw_cell_below hb0 m0
  have p1 := pw_cell_below hb0 m1
  have p2 := pw_cell_below hb0 m2
  obtain ⟨A0, c0, rfl, hc0, hC0⟩ := Kd.R_reads hR0
  have HC0 := Aside0.mk hC0
  have HCC0 := Aside0.mk hc0
  have HLL : Aside0 ((l ++ [k]).length ≤ 21) := ⟨by simp; omega⟩
  clear hR0 hb0 hC0 hc0 hmk m0a m0 m1 m2
  obtain ⟨l1, hl1⟩ : ∃ l1, l ++ [k] = l1 := ⟨_, rfl⟩
  have HL1 := Aside0.mk hl1
  rw [hl1] at HO0 HC0 HCC0 HLL ⊢
  clear hl1
  have HKC := HK.out
  rcases HKC with ⟨rfl, rfl, hs⟩ | ⟨rfl, _, hs⟩ | ⟨rfl, hs⟩ | ⟨hk, rfl, hs⟩
  · have HEQ : Aside0 (l ++ wvB 0 0 t = l1) := ⟨HL1.out⟩
    clear hs
    go_wp2
    go_ret
    exact ⟨_, rfl, by rw [HEQ.out]; exact Kd.R_lower HO0.out HSZ.out, HB3.out⟩
  · have HEQ : Aside0 (l ++ wvB 1 n t = l1 ++ digs (Lib.zigzag n)) := ⟨by rw [← HL1.out, List.append_assoc]; rfl⟩
    clear hs
    go_wp2_with (go_at_call 59; refine (Lay.signed_calls A0 c0 l1 n wc HC0.out HCC0.out (by have := HLL.out; unfold Lay.lim; omega) HN.out.1 HN.out.2).mono ?_; rintro e w4 ⟨v4, rfl, hr4, hb4⟩; have HR4 := Aside0.mk hr4; have HB4 := Aside0.mk (below_step HB3.out hb4); clear hr4 hb4)
    go_ret
    exact ⟨_, rfl, by rw [HEQ.out]; exact Kd.R_lower HR4.out (below_size HB3.out), HB4.out⟩
  · have HEQ : Aside0 (l ++ wvB 2 n t = l1 ++ digs (Lib.zigzag n)) := ⟨by rw [← HL1.out, List.append_assoc]; rfl⟩
    clear hs
    go_wp2_with (go_at_call 59; refine (Lay.signed_calls A0 c0 l1 n wc HC0.out HCC0.out (by have := HLL.out; unfold Lay.lim; omega) HN.out.1 HN.out.2).mono ?_; rintro e w4 ⟨v4, rfl, hr4, hb4⟩; have HR4 := Aside0.mk hr4; have HB4 := Aside0.mk (below_step HB3.out hb4); clear hr4 hb4)
    go_ret
    exact ⟨_, rfl, by rw [HEQ.out]; exact Kd.R_lower HR4.out (below_size HB3.out), HB4.out⟩
  · have HTS : Aside0 (t.size ≤ 4096) := ⟨hs⟩
    rcases hk with rfl | rfl
    · have HEQ : Aside0 (l ++ wvB 3 0 t = l1 ++ digs t.size ++ bytesOf t) := ⟨by rw [← HL1.out, List.append_assoc, List.append_assoc]; rfl⟩
      clear hs
      go_wp2_with (go_at_call 60; refine (Lay.text_calls A0 c0 l1 t wc HC0.out HCC0.out (by have := HLL.out; have := HTS.out; unfold Lay.lim; omega)).mono ?_; rintro e w4 ⟨v4, rfl, hr4, hb4⟩; have HR4 := Aside0.mk hr4; have HB4 := Aside0.mk (below_step HB3.out hb4); clear hr4 hb4)
      go_ret
      exact ⟨_, rfl, by rw [HEQ.out]; exact Kd.R_lower HR4.out (below_size HB3.out), HB4.out⟩
    · have HEQ : Aside0 (l ++ wvB 4 0 t = l1 ++ digs t.size ++ bytesOf t) := ⟨by rw [← HL1.out, List.append_assoc, List.append_assoc]; rfl⟩
      clear hs
      go_wp2_with (go_at_call 60; refine (Lay.text_calls A0 c0 l1 t wc HC0.out HCC0.out (by have := HLL.out; have := HTS.out; unfold Lay.lim; omega)).mono ?_; rintro e w4 ⟨v4, rfl, hr4, hb4⟩; have HR4 := Aside0.mk hr4; have HB4 := Aside0.mk (below_step HB3.out hb4); clear hr4 hb4)
      go_ret
      exact ⟨_, rfl, by rw [HEQ.out]; exact Kd.R_lower HR4.out (below_size HB3.out), HB4.out⟩
end Go.Proofs.YtaddlkokencbkaaDoor.VWrite
