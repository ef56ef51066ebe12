/- Printed by this session's myprint.py out of the translation: functions of the program as Lean functions, and that the program's calls come to them. -/
import Derived.Test.YtaddlkokencbkaaDoorQ0
namespace Go.Proofs.YtaddlkokencbkaaDoor.Q
open Go.RowKit Go.Proofs.YtaddlkokencbkaaDoorW.PrintWords Go.Proofs.YtaddlkokencbkaaDoorW.PrintLast Go.Proofs.YtaddlkokencbkaaDoorW.PrintMore
attribute [local go_sem] max2_int min2_int max_two min_two max_three min_three max_four min_four   -- for this text's walks alone
set_option linter.unusedVariables false
set_option linter.unusedSimpArgs false

/-! ### pantographref03_Key: function 35 -/
mutual
def pantographref03_Key.l0 : Nat → List (S51) → List Int → Int → Option (ByteArray)
  | 0, _, _, _ => none
  | k + 1, x0, x3, x4 => if x4 < (x0.length : Int) then (if 0 ≤ x4 then (if x3.length < 140737488355328 then ((some (x3 ++ [((rd_T51 x0 x4).f0) % 256] : List Int)).bind fun y280 => (if ((rd_T51 x0 x4).f0) = 1 then (if y280.length < 140737488355328 then (pantographref03_Key.l0 k x0 (y280 ++ [((rd_T51 x0 x4).f1) % 256]) (wrap64 (x4 + 1))) else (none)) else (if ((rd_T51 x0 x4).f0) = 2 then (pantographref03_Key.l1 k x0 y280 x4 (IntKind.u64.wrap ((IntKind.u64.wrap ((rd_T51 x0 x4).f1)) + 9223372036854775808)) 0) else (if ((rd_T51 x0 x4).f0) = 3 then (pantographref03_Key.j2 k x0 y280 x4 (((rd_T51 x0 x4).f0) == 3) ((rd_T51 x0 x4).f0) ((rd_T51 x0 x4).f1) ((rd_T51 x0 x4).f2)) else (pantographref03_Key.j2 k x0 y280 x4 (((rd_T51 x0 x4).f0) == 4) ((rd_T51 x0 x4).f0) ((rd_T51 x0 x4).f1) ((rd_T51 x0 x4).f2)))))) else (none)) else (none)) else (some (strOfNums x3))
def pantographref03_Key.l1 : Nat → List (S51) → List Int → Int → Int → Int → Option (ByteArray)
  | 0, _, _, _, _, _ => none
  | k + 1, x0, x3, x4, x6, x7 => if x7 < 8 then (if x3.length < 140737488355328 then (pantographref03_Key.l1 k x0 (x3 ++ [(IntKind.u64.wrap (Int.tdiv x6 72057594037927936)) % 256]) x4 (IntKind.u64.wrap (x6 * 256)) (wrap64 (x7 + 1))) else (none)) else (pantographref03_Key.l0 k x0 x3 (wrap64 (x4 + 1)))
def pantographref03_Key.j2 : Nat → List (S51) → List Int → Int → Bool → Int → Int → ByteArray → Option (ByteArray)
  | 0, _, _, _, _, _, _, _ => none
  | k + 1, x0, x3, x4, x53, x280000, x280001, x280002 => if x53 = true then (pantographref03_Key.l2 k x0 x3 x4 0 x280000 x280001 x280002) else (pantographref03_Key.l0 k x0 x3 (wrap64 (x4 + 1)))
def pantographref03_Key.l2 : Nat → List (S51) → List Int → Int → Int → Int → Int → ByteArray → Option (ByteArray)
  | 0, _, _, _, _, _, _, _ => none
  | k + 1, x0, x3, x4, x8, x280000, x280001, x280002 => if x8 < (x280002.size : Int) then (if 0 ≤ x8 then (if x3.length < 140737488355328 then ((some (x3 ++ [bt x280002 x8] : List Int)).bind fun y289 => (if (bt x280002 x8) = 0 then (if y289.length < 140737488355328 then (pantographref03_Key.l2 k x0 (y289 ++ [255]) x4 (wrap64 (x8 + 1)) x280000 x280001 x280002) else (none)) else (pantographref03_Key.l2 k x0 y289 x4 (wrap64 (x8 + 1)) x280000 x280001 x280002))) else (none)) else (none)) else ((some (([0, 1] : List Int) : List Int)).bind fun y295 => (if x3.length + y295.length < 140737488355328 then (pantographref03_Key.l0 k x0 (x3 ++ y295) (wrap64 (x4 + 1))) else (none)))
end
def pantographref03_Key.f (k : Nat) (l0 : List (S51)) : Option (ByteArray) := pantographref03_Key.l0 k l0 ([] : List Int) 0
theorem pantographref03_Key.mono_l : ∀ k, (∀ y0 y1 y2, LeO (pantographref03_Key.l0 k y0 y1 y2) (pantographref03_Key.l0 (k + 1) y0 y1 y2)) ∧ (∀ y0 y1 y2 y3 y4, LeO (pantographref03_Key.l1 k y0 y1 y2 y3 y4) (pantographref03_Key.l1 (k + 1) y0 y1 y2 y3 y4)) ∧ (∀ y0 y1 y2 y3 y4 y5 y6, LeO (pantographref03_Key.j2 k y0 y1 y2 y3 y4 y5 y6) (pantographref03_Key.j2 (k + 1) y0 y1 y2 y3 y4 y5 y6)) ∧ (∀ y0 y1 y2 y3 y4 y5 y6, LeO (pantographref03_Key.l2 k y0 y1 y2 y3 y4 y5 y6) (pantographref03_Key.l2 (k + 1) y0 y1 y2 y3 y4 y5 y6))
  | 0 => ⟨fun _ _ _ r h => by simp [pantographref03_Key.l0] at h, fun _ _ _ _ _ r h => by simp [pantographref03_Key.l1] at h, fun _ _ _ _ _ _ _ r h => by simp [pantographref03_Key.j2] at h, fun _ _ _ _ _ _ _ r h => by simp [pantographref03_Key.l2] at h⟩
  | k + 1 => by
    obtain ⟨ih0, ih1, ih2, ih3⟩ := pantographref03_Key.mono_l k
    refine ⟨?_, ?_, ?_, ?_⟩
    · intro y0 y1 y2
      unfold pantographref03_Key.l0
      repeat' first
      | (with_reducible exact ih0 _ _ _)
      | (with_reducible exact ih1 _ _ _ _ _)
      | (with_reducible exact ih2 _ _ _ _ _ _ _)
      | (with_reducible exact ih3 _ _ _ _ _ _ _)
      | (with_reducible exact LeO.refl _)
      | (with_reducible exact LeO.none _)
      | (with_reducible refine LeO.ite ?_ ?_)
      | (with_reducible refine LeO.bind ?_ (fun _ => ?_))
      | exact ih0 _ _ _
      | exact ih1 _ _ _ _ _
      | exact ih2 _ _ _ _ _ _ _
      | exact ih3 _ _ _ _ _ _ _
      | exact LeO.none _
      | refine LeO.ite ?_ ?_
      | refine LeO.bind ?_ (fun _ => ?_)
    · intro y0 y1 y2 y3 y4
      unfold pantographref03_Key.l1
      repeat' first
      | (with_reducible exact ih0 _ _ _)
      | (with_reducible exact ih1 _ _ _ _ _)
      | (with_reducible exact ih2 _ _ _ _ _ _ _)
      | (with_reducible exact ih3 _ _ _ _ _ _ _)
      | (with_reducible exact LeO.refl _)
      | (with_reducible exact LeO.none _)
      | (with_reducible refine LeO.ite ?_ ?_)
      | (with_reducible refine LeO.bind ?_ (fun _ => ?_))
      | exact ih0 _ _ _
      | exact ih1 _ _ _ _ _
      | exact ih2 _ _ _ _ _ _ _
      | exact ih3 _ _ _ _ _ _ _
      | exact LeO.none _
      | refine LeO.ite ?_ ?_
      | refine LeO.bind ?_ (fun _ => ?_)
    · intro y0 y1 y2 y3 y4 y5 y6
      unfold pantographref03_Key.j2
      repeat' first
      | (with_reducible exact ih0 _ _ _)
      | (with_reducible exact ih1 _ _ _ _ _)
      | (with_reducible exact ih2 _ _ _ _ _ _ _)
      | (with_reducible exact ih3 _ _ _ _ _ _ _)
      | (with_reducible exact LeO.refl _)
      | (with_reducible exact LeO.none _)
      | (with_reducible refine LeO.ite ?_ ?_)
      | (with_reducible refine LeO.bind ?_ (fun _ => ?_))
      | exact ih0 _ _ _
      | exact ih1 _ _ _ _ _
      | exact ih2 _ _ _ _ _ _ _
      | exact ih3 _ _ _ _ _ _ _
      | exact LeO.none _
      | refine LeO.ite ?_ ?_
      | refine LeO.bind ?_ (fun _ => ?_)
    · intro y0 y1 y2 y3 y4 y5 y6
      unfold pantographref03_Key.l2
      repeat' first
      | (with_reducible exact ih0 _ _ _)
      | (with_reducible exact ih1 _ _ _ _ _)
      | (with_reducible exact ih2 _ _ _ _ _ _ _)
      | (with_reducible exact ih3 _ _ _ _ _ _ _)
      | (with_reducible exact LeO.refl _)
      | (with_reducible exact LeO.none _)
      | (with_reducible refine LeO.ite ?_ ?_)
      | (with_reducible refine LeO.bind ?_ (fun _ => ?_))
      | exact ih0 _ _ _
      | exact ih1 _ _ _ _ _
      | exact ih2 _ _ _ _ _ _ _
      | exact ih3 _ _ _ _ _ _ _
      | exact LeO.none _
      | refine LeO.ite ?_ ?_
      | refine LeO.bind ?_ (fun _ => ?_)
theorem pantographref03_Key.mono : ∀ a0 k, LeO (pantographref03_Key.f k a0) (pantographref03_Key.f (k + 1) a0) := by
  intro a0 k
  obtain ⟨ih0, ih1, ih2, ih3⟩ := pantographref03_Key.mono_l k
  unfold pantographref03_Key.f
  repeat' first
      | (with_reducible exact ih0 _ _ _)
      | (with_reducible exact ih1 _ _ _ _ _)
      | (with_reducible exact ih2 _ _ _ _ _ _ _)
      | (with_reducible exact ih3 _ _ _ _ _ _ _)
      | (with_reducible exact LeO.refl _)
      | (with_reducible exact LeO.none _)
      | (with_reducible refine LeO.ite ?_ ?_)
      | (with_reducible refine LeO.bind ?_ (fun _ => ?_))
      | exact ih0 _ _ _
      | exact ih1 _ _ _ _ _
      | exact ih2 _ _ _ _ _ _ _
      | exact ih3 _ _ _ _ _ _ _
      | exact LeO.none _
      | refine LeO.ite ?_ ?_
      | refine LeO.bind ?_ (fun _ => ?_)
set_option maxHeartbeats 8000000 in
set_option maxRecDepth 100000 in
theorem pantographref03_Key.calls (k : Nat) (A0 : Option Addr) (c0 : Nat) (l0 : List (S51)) (r : ByteArray) (w : World) (hr0 : Kd.C k51 w A0 l0.length l0) (hc0 : l0.length ≤ c0) (h : pantographref03_Key.f k l0 = some r) :
    Calls Tryd.prog 35 #[.slice A0 l0.length c0] w fun e w' => e = .returned (.string r) ∧ Below w.heap.size w w' := by
  have hu51 := Tryd.underlying51
  have HR0 := Aside0.mk hr0
  have HC0 := Aside0.mk hc0
  clear hr0 hc0
  have HB := Aside0.mk (Below.refl w.heap.size w)
  have H : (pantographref03_Key.l0 k l0 ([] : List Int) 0) = some r := h
  clear h
  have H' := Aside0.mk H
  clear H
  go_enter Tryd.func35, Tryd.ntmps35
  go_wp2
  go_loopg [3, 4] k (fun kq v3 v4 w' => ∃ (x3_1 : List Int) (x4_1 : Int), v4 = .int .i64 x4_1 ∧ Aside0 (pantographref03_Key.l0 kq l0 x3_1 x4_1 = some r) ∧ Aside0 (kq ≤ k) ∧ Aside0 (Kd.R (Kd.int .u8) 5 w' w.heap.size (fun _ => True) v3 x3_1) ∧ Aside0 (Below w.heap.size w w'))
  case atStart => exact ⟨(([] : List Int)), (0), (by first | rfl | (simp; done) | (simp [*]; done)), H', ⟨Nat.le_refl _⟩, ⟨by first | exact Kd.R_nil _ _ _ _ _ | exact Kd.N_nil _ _ _ _ _ | exact Kd.V_nil _ _ _ _ _ | exact Kd.Q_nil _ _ _ _ _ | exact Kd.S_nil _ _ _ _ _⟩, ⟨by repeat (first | (with_reducible first | exact HB.out | apply below_alloc | apply pw_below_drewN | apply below_drew1) | exact HB.out)⟩⟩
  case round =>
    clear H'
    obtain ⟨x3_1, x4_1, rfl, HA, HK1, HO_3, HB⟩ := hrel
    cases gk with
    | zero => exact absurd HA.out (by simp [pantographref03_Key.l0])
    | succ k1 =>
      have H := HA.out
      clear HA
      simp only [pantographref03_Key.l0] at H
      by_cases c2 : x4_1 < (l0.length : Int)
      · rw [if_pos c2] at H
        have c2b0 : decide (x4_1 < (l0.length : Int)) = true := decide_eq_true c2
        clear c2
        by_cases c3 : 0 ≤ x4_1
        · rw [if_pos c3] at H
          have c3b0 : decide (0 ≤ x4_1) = true := decide_eq_true c3
          clear c3
          by_cases c4 : x3_1.length < 140737488355328
          · rw [if_pos c4] at H
            have LMc4 := Aside0.mk c4
            clear c4
            obtain ⟨y280, hy280⟩ : ∃ y_ : List Int, y_ = (x3_1 ++ [((rd_T51 l0 x4_1).f0) % 256]) := ⟨_, rfl⟩
            replace H : (if ((rd_T51 l0 x4_1).f0) = 1 then (if y280.length < 140737488355328 then (pantographref03_Key.l0 k1 l0 (y280 ++ [((rd_T51 l0 x4_1).f1) % 256]) (wrap64 (x4_1 + 1))) else (none)) else (if ((rd_T51 l0 x4_1).f0) = 2 then (pantographref03_Key.l1 k1 l0 y280 x4_1 (IntKind.u64.wrap ((IntKind.u64.wrap ((rd_T51 l0 x4_1).f1)) + 9223372036854775808)) 0) else (if ((rd_T51 l0 x4_1).f0) = 3 then (pantographref03_Key.j2 k1 l0 y280 x4_1 (((rd_T51 l0 x4_1).f0) == 3) ((rd_T51 l0 x4_1).f0) ((rd_T51 l0 x4_1).f1) ((rd_T51 l0 x4_1).f2)) else (pantographref03_Key.j2 k1 l0 y280 x4_1 (((rd_T51 l0 x4_1).f0) == 4) ((rd_T51 l0 x4_1).f0) ((rd_T51 l0 x4_1).f1) ((rd_T51 l0 x4_1).f2))))) = some r := by first | (rw [hy280]; with_reducible exact H) | (have H2_ := (Option.bind_some _ _).symm.trans H; rw [hy280]; with_reducible exact H2_) | (have H2_ := (Option.bind_some _ _).symm.trans H; with_reducible exact H2_) | with_reducible exact H | (rw [hy280]; exact H) | exact H
            have Ny280 := Aside0.mk hy280
            clear hy280
            by_cases c5 : ((rd_T51 l0 x4_1).f0) = 1
            · rw [if_pos c5] at H
              have c5b0 : (((rd_T51 l0 x4_1).f0) == 1) = true := beq_iff_eq.mpr c5
              have c5b1 : (((rd_T51 l0 x4_1).f0) != 1) = false := bne_eq_false_iff_eq.mpr c5
              clear c5
              by_cases c6 : y280.length < 140737488355328
              · rw [if_pos c6] at H
                have LMc6 := Aside0.mk c6
                clear c6
                obtain ⟨y283, hy283⟩ : ∃ y_ : List Int, y_ = (y280 ++ [((rd_T51 l0 x4_1).f1) % 256]) := ⟨_, rfl⟩
                replace H : (pantographref03_Key.l0 k1 l0 y283 (wrap64 (x4_1 + 1))) = some r := by first | (rw [hy283]; with_reducible exact H) | (have H2_ := (Option.bind_some _ _).symm.trans H; rw [hy283]; with_reducible exact H2_) | (have H2_ := (Option.bind_some _ _).symm.trans H; with_reducible exact H2_) | with_reducible exact H | (rw [hy283]; exact H) | exact H
                have Ny283 := Aside0.mk hy283
                clear hy283
                have H' := Aside0.mk H
                clear H
                have p278 : 0 ≤ (x4_1 : Int) := of_decide_eq_true (by first | (with_reducible assumption) | assumption)
                have q278 : x4_1 < (l0.length : Int) := of_decide_eq_true (by first | (with_reducible assumption) | assumption)
                obtain ⟨ad278, e278, hx278_0, hx278_1, hx278_2⟩ := at_T51 HR0.out x4_1 p278 q278
                cases e278
                replace hx278_0 := (HB.out.cell (World.block_lt_of_cell? w _ hx278_0)).trans hx278_0
                replace hx278_1 := (HB.out.cell (World.block_lt_of_cell? w _ hx278_1)).trans hx278_1
                replace hx278_2 := (HB.out.cell (World.block_lt_of_cell? w _ hx278_2)).trans hx278_2
                replace p278 := eq_true p278
                replace q278 := eq_true q278
                go_wp2_with (first | ((with_reducible refine gate_dst (N := 5) rfl ?_); refine box_event ?hg (N := 5) ?hd (cs := #[.int .i64 0, .int .i64 0, .string (⟨#[]⟩ : ByteArray)]) (t := 51) ?hr ?_; (case hd => rfl); (case hg => rfl); (case hr => first | (go_simp; done) | (go_simp; rfl)); intro gb279 hg w7 hbox hb; have n0_ := Aside0.mk (Kd.R_below (by (with_reducible repeat (first | apply Kd.R_alloc | apply Kd.R_drewN | apply Kd.R_drew)); exact HO_3.out) hb); have n1_ := Aside0.mk (below_step (by repeat (first | (with_reducible first | exact HB.out | apply below_alloc | apply pw_below_drewN | apply below_drew1) | exact HB.out)) hb); have n2_ := Aside0.mk (hbox); have n3_ := Aside0.mk ((by rw [hg]; exact (below_size (by repeat (first | (with_reducible first | exact HB.out | apply below_alloc | apply pw_below_drewN | apply below_drew1) | exact HB.out))) : w.heap.size ≤ gb279)); have n4_ := Aside0.mk ((by rw [hg]; exact (below_size (by repeat (first | (with_reducible first | exact HB.out | apply below_alloc | apply pw_below_drewN | apply below_drew1) | exact HB.out))) : w.heap.size ≤ gb279)); clear HO_3; clear HB; have HO_3 := n0_; have HB := n1_; have BK279 := n2_; have GW279 := n3_; have GE279 := n4_; clear n0_ n1_ n2_ n3_ n4_; clear hb hbox hg; have hcz8_0 : w7.cell? ⟨gb279, 0, none⟩ = some (.int .i64 0) := (blk_cell BK279.out 0).trans rfl; have hcz8_1 : w7.cell? ⟨gb279, 1, none⟩ = some (.int .i64 0) := (blk_cell BK279.out 1).trans rfl; have hcz8_2 : w7.cell? ⟨gb279, 2, none⟩ = some (.string (⟨#[]⟩ : ByteArray)) := (blk_cell BK279.out 2).trans rfl; have hfz8_0 := blk_frozen BK279.out 0; have hfz8_1 := blk_frozen BK279.out 1; have hfz8_2 := blk_frozen BK279.out 2) | ((with_reducible refine gate_builtin (b := .append) (xs := #[.tmp 19, .tmp 23]) rfl ?_); at_builtin; refine Kd.R_append (Kd.int .u8) (w0 := w) w.heap.size rfl (.tmp 19) (.tmp 23) 25 5 (.int .u8 0) 1 rfl Tryd.underlying25 info5 rfl (by decide) (by omega) u3 x3_1 (((rd_T51 l0 x4_1).f0) % 256) [.int .u8 (((rd_T51 l0 x4_1).f0) % 256)] (fun _ => True) (fun _ => False) rfl (by first | (go_simp; done) | (go_simp; rfl)) ?aP (fun _ hk => hk.elim) ?aF ?aO ?aB ?aS ?aL ?_; (case aP => exact rfl); (case aB => exact (by repeat (first | (with_reducible first | exact HB.out | apply below_alloc | apply pw_below_drewN | apply below_drew1 | refine below_set ?_ GE279.out) | exact HB.out))); (case aF => exact (fun _ _ => trivial)); (case aO => exact (by (with_reducible repeat (first | apply Kd.R_alloc | apply Kd.R_drewN | apply Kd.R_drew)); exact Kd.R_mono (Kd.R_far (p := ⟨gb279, 2, none⟩) (Kd.R_far (p := ⟨gb279, 1, none⟩) (Kd.R_far (p := ⟨gb279, 0, none⟩) (Kd.R_types HO_3.out BK279.out (by decide)) (fun _ hk => hk.2) (.int .i64 ((rd_T51 l0 x4_1).f0))) (fun _ hk => hk.2) (.int .i64 ((rd_T51 l0 x4_1).f1))) (fun _ hk => hk.2) (.string ((rd_T51 l0 x4_1).f2))) (fun _ hk => trivial))); (case aS => exact (below_size (by repeat (first | (with_reducible first | exact HB.out | apply below_alloc | apply pw_below_drewN | apply below_drew1 | refine below_set ?_ GE279.out) | exact HB.out)))); (case aL => have := LMc4.out; omega); intro v281 w9 ho hb hg hat; rw [← Ny280.out] at ho; have n0_ := Aside0.mk (blk_grown (g := gb279) (o := .cells #[.int .i64 ((rd_T51 l0 x4_1).f0), .int .i64 ((rd_T51 l0 x4_1).f1), .string ((rd_T51 l0 x4_1).f2)] 51 (0, 0)) (by (with_reducible repeat (first | refine blk_drewN ?_ _ | refine blk_drew ?_ | refine blk_alloc ?_ _)); refine blk_put (cs := #[.int .i64 ((rd_T51 l0 x4_1).f0), .int .i64 ((rd_T51 l0 x4_1).f1), .string (⟨#[]⟩ : ByteArray)]) ?_ 2 _ rfl; (with_reducible repeat (first | refine blk_drewN ?_ _ | refine blk_drew ?_ | refine blk_alloc ?_ _)); refine blk_put (cs := #[.int .i64 ((rd_T51 l0 x4_1).f0), .int .i64 0, .string (⟨#[]⟩ : ByteArray)]) ?_ 1 _ rfl; (with_reducible repeat (first | refine blk_drewN ?_ _ | refine blk_drew ?_ | refine blk_alloc ?_ _)); refine blk_put (cs := #[.int .i64 0, .int .i64 0, .string (⟨#[]⟩ : ByteArray)]) ?_ 0 _ rfl; (with_reducible repeat (first | refine blk_drewN ?_ _ | refine blk_drew ?_ | refine blk_alloc ?_ _)); exact BK279.out) hg (Kd.R_ne HO_3.out BK279.out (by decide))); have n1_ := Aside0.mk (hb); have n2_ := Aside0.mk (ho); clear BK279; clear HB; clear HO_3; have BK279 := n0_; have HB := n1_; have HO282 := n2_; clear n0_ n1_ n2_; clear ho hb hg hat; have hcz10_0 : w9.cell? ⟨gb279, 0, none⟩ = some (.int .i64 ((rd_T51 l0 x4_1).f0)) := (blk_cell BK279.out 0).trans rfl; have hcz10_1 : w9.cell? ⟨gb279, 1, none⟩ = some (.int .i64 ((rd_T51 l0 x4_1).f1)) := (blk_cell BK279.out 1).trans rfl; have hcz10_2 : w9.cell? ⟨gb279, 2, none⟩ = some (.string ((rd_T51 l0 x4_1).f2)) := (blk_cell BK279.out 2).trans rfl; have hfz10_0 := blk_frozen BK279.out 0; have hfz10_1 := blk_frozen BK279.out 1; have hfz10_2 := blk_frozen BK279.out 2) | ((with_reducible refine gate_builtin (b := .append) (xs := #[.tmp 29, .tmp 33]) rfl ?_); at_builtin; refine Kd.R_append (Kd.int .u8) (w0 := w) w.heap.size rfl (.tmp 29) (.tmp 33) 25 5 (.int .u8 0) 1 rfl Tryd.underlying25 info5 rfl (by decide) (by omega) v281 y280 (((rd_T51 l0 x4_1).f1) % 256) [.int .u8 (((rd_T51 l0 x4_1).f1) % 256)] (fun _ => True) (fun _ => False) rfl rfl ?aP (fun _ hk => hk.elim) ?aF ?aO ?aB ?aS ?aL ?_; (case aP => exact rfl); (case aB => exact (by repeat (first | (with_reducible first | exact HB.out | apply below_alloc | apply pw_below_drewN | apply below_drew1 | refine below_set ?_ GE279.out) | exact HB.out))); (case aF => exact (fun _ _ => trivial)); (case aO => exact (by (with_reducible repeat (first | apply Kd.R_alloc | apply Kd.R_drewN | apply Kd.R_drew)); exact HO282.out)); (case aS => exact (below_size (by repeat (first | (with_reducible first | exact HB.out | apply below_alloc | apply pw_below_drewN | apply below_drew1 | refine below_set ?_ GE279.out) | exact HB.out)))); (case aL => have := LMc6.out; omega); intro v284 w11 ho hb hg hat; rw [← Ny283.out] at ho; have n0_ := Aside0.mk (blk_grown (g := gb279) (o := .cells #[.int .i64 ((rd_T51 l0 x4_1).f0), .int .i64 ((rd_T51 l0 x4_1).f1), .string ((rd_T51 l0 x4_1).f2)] 51 (0, 0)) (by (with_reducible repeat (first | refine blk_drewN ?_ _ | refine blk_drew ?_ | refine blk_alloc ?_ _)); exact BK279.out) hg (Kd.R_ne HO282.out BK279.out (by decide))); have n1_ := Aside0.mk (hb); have n2_ := Aside0.mk (ho); clear BK279; clear HB; clear HO282; have BK279 := n0_; have HB := n1_; have HO285 := n2_; clear n0_ n1_ n2_; clear ho hb hg hat))
                go_roundg k1
                case measure => have := HK1.out; omega
                case rel => exact ⟨(y283), (wrap64 (x4_1 + 1)), (by first | rfl | (simp; done) | (simp [*]; done)), H', ⟨by have := HK1.out; omega⟩, ⟨by (with_reducible repeat (first | apply Kd.R_alloc | apply Kd.R_drewN | apply Kd.R_drew)); exact HO285.out⟩, ⟨by repeat (first | (with_reducible first | exact HB.out | apply below_alloc | apply pw_below_drewN | apply below_drew1 | refine below_set ?_ GE279.out) | exact HB.out)⟩⟩
              · rw [if_neg c6] at H
                exact absurd H (by simp)
            · rw [if_neg c5] at H
              have c5b0 : (((rd_T51 l0 x4_1).f0) == 1) = false := beq_eq_false_iff_ne.mpr c5
              have c5b1 : (((rd_T51 l0 x4_1).f0) != 1) = true := bne_iff_ne.mpr c5
              by_cases c12 : ((rd_T51 l0 x4_1).f0) = 2
              · rw [if_pos c12] at H
                have c12b0 : (((rd_T51 l0 x4_1).f0) == 2) = true := beq_iff_eq.mpr c12
                have c12b1 : (((rd_T51 l0 x4_1).f0) != 2) = false := bne_eq_false_iff_eq.mpr c12
                clear c12
                have H' := Aside0.mk H
                clear H
                have p278 : 0 ≤ (x4_1 : Int) := of_decide_eq_true (by first | (with_reducible assumption) | assumption)
                have q278 : x4_1 < (l0.length : Int) := of_decide_eq_true (by first | (with_reducible assumption) | assumption)
                obtain ⟨ad278, e278, hx278_0, hx278_1, hx278_2⟩ := at_T51 HR0.out x4_1 p278 q278
                cases e278
                replace hx278_0 := (HB.out.cell (World.block_lt_of_cell? w _ hx278_0)).trans hx278_0
                replace hx278_1 := (HB.out.cell (World.block_lt_of_cell? w _ hx278_1)).trans hx278_1
                replace hx278_2 := (HB.out.cell (World.block_lt_of_cell? w _ hx278_2)).trans hx278_2
                replace p278 := eq_true p278
                replace q278 := eq_true q278
                go_wp2_with (first | ((with_reducible refine gate_dst (N := 5) rfl ?_); refine box_event ?hg (N := 5) ?hd (cs := #[.int .i64 0, .int .i64 0, .string (⟨#[]⟩ : ByteArray)]) (t := 51) ?hr ?_; (case hd => rfl); (case hg => rfl); (case hr => first | (go_simp; done) | (go_simp; rfl)); intro gb279 hg w13 hbox hb; have n0_ := Aside0.mk (Kd.R_below (by (with_reducible repeat (first | apply Kd.R_alloc | apply Kd.R_drewN | apply Kd.R_drew)); exact HO_3.out) hb); have n1_ := Aside0.mk (below_step (by repeat (first | (with_reducible first | exact HB.out | apply below_alloc | apply pw_below_drewN | apply below_drew1) | exact HB.out)) hb); have n2_ := Aside0.mk (hbox); have n3_ := Aside0.mk ((by rw [hg]; exact (below_size (by repeat (first | (with_reducible first | exact HB.out | apply below_alloc | apply pw_below_drewN | apply below_drew1) | exact HB.out))) : w.heap.size ≤ gb279)); have n4_ := Aside0.mk ((by rw [hg]; exact (below_size (by repeat (first | (with_reducible first | exact HB.out | apply below_alloc | apply pw_below_drewN | apply below_drew1) | exact HB.out))) : w.heap.size ≤ gb279)); clear HO_3; clear HB; have HO_3 := n0_; have HB := n1_; have BK279 := n2_; have GW279 := n3_; have GE279 := n4_; clear n0_ n1_ n2_ n3_ n4_; clear hb hbox hg; have hcz14_0 : w13.cell? ⟨gb279, 0, none⟩ = some (.int .i64 0) := (blk_cell BK279.out 0).trans rfl; have hcz14_1 : w13.cell? ⟨gb279, 1, none⟩ = some (.int .i64 0) := (blk_cell BK279.out 1).trans rfl; have hcz14_2 : w13.cell? ⟨gb279, 2, none⟩ = some (.string (⟨#[]⟩ : ByteArray)) := (blk_cell BK279.out 2).trans rfl; have hfz14_0 := blk_frozen BK279.out 0; have hfz14_1 := blk_frozen BK279.out 1; have hfz14_2 := blk_frozen BK279.out 2) | ((with_reducible refine gate_builtin (b := .append) (xs := #[.tmp 19, .tmp 23]) rfl ?_); at_builtin; refine Kd.R_append (Kd.int .u8) (w0 := w) w.heap.size rfl (.tmp 19) (.tmp 23) 25 5 (.int .u8 0) 1 rfl Tryd.underlying25 info5 rfl (by decide) (by omega) u3 x3_1 (((rd_T51 l0 x4_1).f0) % 256) [.int .u8 (((rd_T51 l0 x4_1).f0) % 256)] (fun _ => True) (fun _ => False) rfl (by first | (go_simp; done) | (go_simp; rfl)) ?aP (fun _ hk => hk.elim) ?aF ?aO ?aB ?aS ?aL ?_; (case aP => exact rfl); (case aB => exact (by repeat (first | (with_reducible first | exact HB.out | apply below_alloc | apply pw_below_drewN | apply below_drew1 | refine below_set ?_ GE279.out) | exact HB.out))); (case aF => exact (fun _ _ => trivial)); (case aO => exact (by (with_reducible repeat (first | apply Kd.R_alloc | apply Kd.R_drewN | apply Kd.R_drew)); exact Kd.R_mono (Kd.R_far (p := ⟨gb279, 2, none⟩) (Kd.R_far (p := ⟨gb279, 1, none⟩) (Kd.R_far (p := ⟨gb279, 0, none⟩) (Kd.R_types HO_3.out BK279.out (by decide)) (fun _ hk => hk.2) (.int .i64 ((rd_T51 l0 x4_1).f0))) (fun _ hk => hk.2) (.int .i64 ((rd_T51 l0 x4_1).f1))) (fun _ hk => hk.2) (.string ((rd_T51 l0 x4_1).f2))) (fun _ hk => trivial))); (case aS => exact (below_size (by repeat (first | (with_reducible first | exact HB.out | apply below_alloc | apply pw_below_drewN | apply below_drew1 | refine below_set ?_ GE279.out) | exact HB.out)))); (case aL => have := LMc4.out; omega); intro v281 w15 ho hb hg hat; rw [← Ny280.out] at ho; have n0_ := Aside0.mk (blk_grown (g := gb279) (o := .cells #[.int .i64 ((rd_T51 l0 x4_1).f0), .int .i64 ((rd_T51 l0 x4_1).f1), .string ((rd_T51 l0 x4_1).f2)] 51 (0, 0)) (by (with_reducible repeat (first | refine blk_drewN ?_ _ | refine blk_drew ?_ | refine blk_alloc ?_ _)); refine blk_put (cs := #[.int .i64 ((rd_T51 l0 x4_1).f0), .int .i64 ((rd_T51 l0 x4_1).f1), .string (⟨#[]⟩ : ByteArray)]) ?_ 2 _ rfl; (with_reducible repeat (first | refine blk_drewN ?_ _ | refine blk_drew ?_ | refine blk_alloc ?_ _)); refine blk_put (cs := #[.int .i64 ((rd_T51 l0 x4_1).f0), .int .i64 0, .string (⟨#[]⟩ : ByteArray)]) ?_ 1 _ rfl; (with_reducible repeat (first | refine blk_drewN ?_ _ | refine blk_drew ?_ | refine blk_alloc ?_ _)); refine blk_put (cs := #[.int .i64 0, .int .i64 0, .string (⟨#[]⟩ : ByteArray)]) ?_ 0 _ rfl; (with_reducible repeat (first | refine blk_drewN ?_ _ | refine blk_drew ?_ | refine blk_alloc ?_ _)); exact BK279.out) hg (Kd.R_ne HO_3.out BK279.out (by decide))); have n1_ := Aside0.mk (hb); have n2_ := Aside0.mk (ho); clear BK279; clear HB; clear HO_3; have BK279 := n0_; have HB := n1_; have HO282 := n2_; clear n0_ n1_ n2_; clear ho hb hg hat; have hcz16_0 : w15.cell? ⟨gb279, 0, none⟩ = some (.int .i64 ((rd_T51 l0 x4_1).f0)) := (blk_cell BK279.out 0).trans rfl; have hcz16_1 : w15.cell? ⟨gb279, 1, none⟩ = some (.int .i64 ((rd_T51 l0 x4_1).f1)) := (blk_cell BK279.out 1).trans rfl; have hcz16_2 : w15.cell? ⟨gb279, 2, none⟩ = some (.string ((rd_T51 l0 x4_1).f2)) := (blk_cell BK279.out 2).trans rfl; have hfz16_0 := blk_frozen BK279.out 0; have hfz16_1 := blk_frozen BK279.out 1; have hfz16_2 := blk_frozen BK279.out 2))
                go_loopg [3, 6, 7] k1 (fun kq v3 v6 v7 w' => ∃ (x3_2 : List Int) (x6_2 : Int) (x7_2 : Int), v6 = .int .u64 x6_2 ∧ v7 = .int .i64 x7_2 ∧ Aside0 (pantographref03_Key.l1 kq l0 x3_2 x4_1 x6_2 x7_2 = some r) ∧ Aside0 (kq ≤ k1) ∧ Aside0 (Kd.R (Kd.int .u8) 5 w' w.heap.size (fun _ => True) v3 x3_2) ∧ Aside0 (w'.heap[gb279]? = some (.cells #[.int .i64 ((rd_T51 l0 x4_1).f0), .int .i64 ((rd_T51 l0 x4_1).f1), .string ((rd_T51 l0 x4_1).f2)] 51 (0, 0))) ∧ Aside0 (Below w.heap.size w w'))
                case atStart => exact ⟨(y280), (IntKind.u64.wrap ((IntKind.u64.wrap ((rd_T51 l0 x4_1).f1)) + 9223372036854775808)), (0), (by first | rfl | (simp; done) | (simp [*]; done)), (by first | rfl | (simp; done) | (simp [*]; done)), H', ⟨Nat.le_refl _⟩, ⟨by (with_reducible repeat (first | apply Kd.R_alloc | apply Kd.R_drewN | apply Kd.R_drew)); exact HO282.out⟩, ⟨by (with_reducible repeat (first | refine blk_drewN ?_ _ | refine blk_drew ?_ | refine blk_alloc ?_ _)); exact BK279.out⟩, ⟨by repeat (first | (with_reducible first | exact HB.out | apply below_alloc | apply pw_below_drewN | apply below_drew1 | refine below_set ?_ GE279.out) | exact HB.out)⟩⟩
                case round =>
                  clear H'
                  try clear c1
                  try clear c2
                  try clear c2b0
                  try clear p2
                  try clear q2
                  try clear hx2
                  try clear c3
                  try clear c3b0
                  try clear c4
                  try clear c5
                  try clear c5b0
                  try clear c5b1
                  try clear c6
                  try clear p6
                  try clear c12
                  try clear c12b0
                  try clear c12b1
                  try clear hcz10_0
                  try clear hcz10_1
                  try clear hcz10_2
                  try clear hcz14_0
                  try clear hcz14_1
                  try clear hcz14_2
                  try clear hcz16_0
                  try clear hcz16_1
                  try clear hcz16_2
                  try clear hcz8_0
                  try clear hcz8_1
                  try clear hcz8_2
                  try clear hfz10_0
                  try clear hfz10_1
                  try clear hfz10_2
                  try clear hfz14_0
                  try clear hfz14_1
                  try clear hfz14_2
                  try clear hfz16_0
                  try clear hfz16_1
                  try clear hfz16_2
                  try clear hfz8_0
                  try clear hfz8_1
                  try clear hfz8_2
                  try clear hx278_0
                  try clear hx278_1
                  try clear hx278_2
                  try clear p278
                  try clear q278
                  obtain ⟨x3_2, x6_2, x7_2, rfl, rfl, HA, HK2, HO_3, BK279, HB⟩ := hrel
                  cases gk with
                  | zero => exact absurd HA.out (by simp [pantographref03_Key.l1])
                  | succ k2 =>
                    have H := HA.out
                    clear HA
                    simp only [pantographref03_Key.l1] at H
                    by_cases c17 : x7_2 < 8
                    · rw [if_pos c17] at H
                      have c17b0 : decide (x7_2 < 8) = true := decide_eq_true c17
                      clear c17
                      by_cases c18 : x3_2.length < 140737488355328
                      · rw [if_pos c18] at H
                        have LMc18 := Aside0.mk c18
                        clear c18
                        obtain ⟨y286, hy286⟩ : ∃ y_ : List Int, y_ = (x3_2 ++ [(IntKind.u64.wrap (Int.tdiv x6_2 72057594037927936)) % 256]) := ⟨_, rfl⟩
                        replace H : (pantographref03_Key.l1 k2 l0 y286 x4_1 (IntKind.u64.wrap (x6_2 * 256)) (wrap64 (x7_2 + 1))) = some r := by first | (rw [hy286]; with_reducible exact H) | (have H2_ := (Option.bind_some _ _).symm.trans H; rw [hy286]; with_reducible exact H2_) | (have H2_ := (Option.bind_some _ _).symm.trans H; with_reducible exact H2_) | with_reducible exact H | (rw [hy286]; exact H) | exact H
                        have Ny286 := Aside0.mk hy286
                        clear hy286
                        have H' := Aside0.mk H
                        clear H
                        go_wp2_with (first | ((with_reducible refine gate_builtin (b := .append) (xs := #[.tmp 45, .tmp 49]) rfl ?_); at_builtin; refine Kd.R_append (Kd.int .u8) (w0 := w) w.heap.size rfl (.tmp 45) (.tmp 49) 25 5 (.int .u8 0) 1 rfl Tryd.underlying25 info5 rfl (by decide) (by omega) u3 x3_2 ((IntKind.u64.wrap (Int.tdiv x6_2 72057594037927936)) % 256) [.int .u8 ((IntKind.u64.wrap (Int.tdiv x6_2 72057594037927936)) % 256)] (fun _ => True) (fun _ => False) rfl rfl ?aP (fun _ hk => hk.elim) ?aF ?aO ?aB ?aS ?aL ?_; (case aP => exact rfl); (case aB => exact (by repeat (first | (with_reducible first | exact HB.out | apply below_alloc | apply pw_below_drewN | apply below_drew1 | refine below_set ?_ GE279.out) | exact HB.out))); (case aF => exact (fun _ _ => trivial)); (case aO => exact (by (with_reducible repeat (first | apply Kd.R_alloc | apply Kd.R_drewN | apply Kd.R_drew)); exact HO_3.out)); (case aS => exact (below_size (by repeat (first | (with_reducible first | exact HB.out | apply below_alloc | apply pw_below_drewN | apply below_drew1 | refine below_set ?_ GE279.out) | exact HB.out)))); (case aL => have := LMc18.out; omega); intro v287 w19 ho hb hg hat; rw [← Ny286.out] at ho; have n0_ := Aside0.mk (blk_grown (g := gb279) (o := .cells #[.int .i64 ((rd_T51 l0 x4_1).f0), .int .i64 ((rd_T51 l0 x4_1).f1), .string ((rd_T51 l0 x4_1).f2)] 51 (0, 0)) (by (with_reducible repeat (first | refine blk_drewN ?_ _ | refine blk_drew ?_ | refine blk_alloc ?_ _)); exact BK279.out) hg (Kd.R_ne HO_3.out BK279.out (by decide))); have n1_ := Aside0.mk (hb); have n2_ := Aside0.mk (ho); clear BK279; clear HB; clear HO_3; have BK279 := n0_; have HB := n1_; have HO288 := n2_; clear n0_ n1_ n2_; clear ho hb hg hat))
                        go_roundg k2
                        case measure => have := HK1.out; have := HK2.out; omega
                        case rel => exact ⟨(y286), (IntKind.u64.wrap (x6_2 * 256)), (wrap64 (x7_2 + 1)), (by first | rfl | (simp; done) | (simp [*]; done)), (by first | rfl | (simp; done) | (simp [*]; done)), H', ⟨by have := HK1.out; have := HK2.out; omega⟩, ⟨by (with_reducible repeat (first | apply Kd.R_alloc | apply Kd.R_drewN | apply Kd.R_drew)); exact HO288.out⟩, ⟨by (with_reducible repeat (first | refine blk_drewN ?_ _ | refine blk_drew ?_ | refine blk_alloc ?_ _)); exact BK279.out⟩, ⟨by repeat (first | (with_reducible first | exact HB.out | apply below_alloc | apply pw_below_drewN | apply below_drew1 | refine below_set ?_ GE279.out) | exact HB.out)⟩⟩
                      · rw [if_neg c18] at H
                        exact absurd H (by simp)
                    · rw [if_neg c17] at H
                      have c17b0 : decide (x7_2 < 8) = false := decide_eq_false c17
                      clear c17
                      have H' := Aside0.mk H
                      clear H
                      go_wp2
                      go_roundg k2
                      case measure => have := HK1.out; have := HK2.out; omega
                      case rel => exact ⟨(x3_2), (wrap64 (x4_1 + 1)), (by first | rfl | (simp; done) | (simp [*]; done)), H', ⟨by have := HK1.out; have := HK2.out; omega⟩, ⟨by (with_reducible repeat (first | apply Kd.R_alloc | apply Kd.R_drewN | apply Kd.R_drew)); exact HO_3.out⟩, ⟨by repeat (first | (with_reducible first | exact HB.out | apply below_alloc | apply pw_below_drewN | apply below_drew1 | refine below_set ?_ GE279.out) | exact HB.out)⟩⟩
              · rw [if_neg c12] at H
                have c12b0 : (((rd_T51 l0 x4_1).f0) == 2) = false := beq_eq_false_iff_ne.mpr c12
                have c12b1 : (((rd_T51 l0 x4_1).f0) != 2) = true := bne_iff_ne.mpr c12
                have HC20 := Aside0.mk H
                clear H
                have p278 : 0 ≤ (x4_1 : Int) := of_decide_eq_true (by first | (with_reducible assumption) | assumption)
                have q278 : x4_1 < (l0.length : Int) := of_decide_eq_true (by first | (with_reducible assumption) | assumption)
                obtain ⟨ad278, e278, hx278_0, hx278_1, hx278_2⟩ := at_T51 HR0.out x4_1 p278 q278
                cases e278
                replace hx278_0 := (HB.out.cell (World.block_lt_of_cell? w _ hx278_0)).trans hx278_0
                replace hx278_1 := (HB.out.cell (World.block_lt_of_cell? w _ hx278_1)).trans hx278_1
                replace hx278_2 := (HB.out.cell (World.block_lt_of_cell? w _ hx278_2)).trans hx278_2
                replace p278 := eq_true p278
                replace q278 := eq_true q278
                go_upto_if 53 with (first | ((with_reducible refine gate_dst (N := 5) rfl ?_); refine box_event ?hg (N := 5) ?hd (cs := #[.int .i64 0, .int .i64 0, .string (⟨#[]⟩ : ByteArray)]) (t := 51) ?hr ?_; (case hd => rfl); (case hg => rfl); (case hr => first | (go_simp; done) | (go_simp; rfl)); intro gb279 hg w21 hbox hb; have n0_ := Aside0.mk (Kd.R_below (by (with_reducible repeat (first | apply Kd.R_alloc | apply Kd.R_drewN | apply Kd.R_drew)); exact HO_3.out) hb); have n1_ := Aside0.mk (below_step (by repeat (first | (with_reducible first | exact HB.out | apply below_alloc | apply pw_below_drewN | apply below_drew1) | exact HB.out)) hb); have n2_ := Aside0.mk (hbox); have n3_ := Aside0.mk ((by rw [hg]; exact (below_size (by repeat (first | (with_reducible first | exact HB.out | apply below_alloc | apply pw_below_drewN | apply below_drew1) | exact HB.out))) : w.heap.size ≤ gb279)); have n4_ := Aside0.mk ((by rw [hg]; exact (below_size (by repeat (first | (with_reducible first | exact HB.out | apply below_alloc | apply pw_below_drewN | apply below_drew1) | exact HB.out))) : w.heap.size ≤ gb279)); clear HO_3; clear HB; have HO_3 := n0_; have HB := n1_; have BK279 := n2_; have GW279 := n3_; have GE279 := n4_; clear n0_ n1_ n2_ n3_ n4_; clear hb hbox hg; have hcz22_0 : w21.cell? ⟨gb279, 0, none⟩ = some (.int .i64 0) := (blk_cell BK279.out 0).trans rfl; have hcz22_1 : w21.cell? ⟨gb279, 1, none⟩ = some (.int .i64 0) := (blk_cell BK279.out 1).trans rfl; have hcz22_2 : w21.cell? ⟨gb279, 2, none⟩ = some (.string (⟨#[]⟩ : ByteArray)) := (blk_cell BK279.out 2).trans rfl; have hfz22_0 := blk_frozen BK279.out 0; have hfz22_1 := blk_frozen BK279.out 1; have hfz22_2 := blk_frozen BK279.out 2) | ((with_reducible refine gate_builtin (b := .append) (xs := #[.tmp 19, .tmp 23]) rfl ?_); at_builtin; refine Kd.R_append (Kd.int .u8) (w0 := w) w.heap.size rfl (.tmp 19) (.tmp 23) 25 5 (.int .u8 0) 1 rfl Tryd.underlying25 info5 rfl (by decide) (by omega) u3 x3_1 (((rd_T51 l0 x4_1).f0) % 256) [.int .u8 (((rd_T51 l0 x4_1).f0) % 256)] (fun _ => True) (fun _ => False) rfl (by first | (go_simp; done) | (go_simp; rfl)) ?aP (fun _ hk => hk.elim) ?aF ?aO ?aB ?aS ?aL ?_; (case aP => exact rfl); (case aB => exact (by repeat (first | (with_reducible first | exact HB.out | apply below_alloc | apply pw_below_drewN | apply below_drew1 | refine below_set ?_ GE279.out) | exact HB.out))); (case aF => exact (fun _ _ => trivial)); (case aO => exact (by (with_reducible repeat (first | apply Kd.R_alloc | apply Kd.R_drewN | apply Kd.R_drew)); exact Kd.R_mono (Kd.R_far (p := ⟨gb279, 2, none⟩) (Kd.R_far (p := ⟨gb279, 1, none⟩) (Kd.R_far (p := ⟨gb279, 0, none⟩) (Kd.R_types HO_3.out BK279.out (by decide)) (fun _ hk => hk.2) (.int .i64 ((rd_T51 l0 x4_1).f0))) (fun _ hk => hk.2) (.int .i64 ((rd_T51 l0 x4_1).f1))) (fun _ hk => hk.2) (.string ((rd_T51 l0 x4_1).f2))) (fun _ hk => trivial))); (case aS => exact (below_size (by repeat (first | (with_reducible first | exact HB.out | apply below_alloc | apply pw_below_drewN | apply below_drew1 | refine below_set ?_ GE279.out) | exact HB.out)))); (case aL => have := LMc4.out; omega); intro v281 w23 ho hb hg hat; rw [← Ny280.out] at ho; have n0_ := Aside0.mk (blk_grown (g := gb279) (o := .cells #[.int .i64 ((rd_T51 l0 x4_1).f0), .int .i64 ((rd_T51 l0 x4_1).f1), .string ((rd_T51 l0 x4_1).f2)] 51 (0, 0)) (by (with_reducible repeat (first | refine blk_drewN ?_ _ | refine blk_drew ?_ | refine blk_alloc ?_ _)); refine blk_put (cs := #[.int .i64 ((rd_T51 l0 x4_1).f0), .int .i64 ((rd_T51 l0 x4_1).f1), .string (⟨#[]⟩ : ByteArray)]) ?_ 2 _ rfl; (with_reducible repeat (first | refine blk_drewN ?_ _ | refine blk_drew ?_ | refine blk_alloc ?_ _)); refine blk_put (cs := #[.int .i64 ((rd_T51 l0 x4_1).f0), .int .i64 0, .string (⟨#[]⟩ : ByteArray)]) ?_ 1 _ rfl; (with_reducible repeat (first | refine blk_drewN ?_ _ | refine blk_drew ?_ | refine blk_alloc ?_ _)); refine blk_put (cs := #[.int .i64 0, .int .i64 0, .string (⟨#[]⟩ : ByteArray)]) ?_ 0 _ rfl; (with_reducible repeat (first | refine blk_drewN ?_ _ | refine blk_drew ?_ | refine blk_alloc ?_ _)); exact BK279.out) hg (Kd.R_ne HO_3.out BK279.out (by decide))); have n1_ := Aside0.mk (hb); have n2_ := Aside0.mk (ho); clear BK279; clear HB; clear HO_3; have BK279 := n0_; have HB := n1_; have HO282 := n2_; clear n0_ n1_ n2_; clear ho hb hg hat; have hcz24_0 : w23.cell? ⟨gb279, 0, none⟩ = some (.int .i64 ((rd_T51 l0 x4_1).f0)) := (blk_cell BK279.out 0).trans rfl; have hcz24_1 : w23.cell? ⟨gb279, 1, none⟩ = some (.int .i64 ((rd_T51 l0 x4_1).f1)) := (blk_cell BK279.out 1).trans rfl; have hcz24_2 : w23.cell? ⟨gb279, 2, none⟩ = some (.string ((rd_T51 l0 x4_1).f2)) := (blk_cell BK279.out 2).trans rfl; have hfz24_0 := blk_frozen BK279.out 0; have hfz24_1 := blk_frozen BK279.out 1; have hfz24_2 := blk_frozen BK279.out 2))
                (try simp only [Act.put, List.setIfInBounds_toArray, List.set_cons_zero, List.set_cons_succ])
                go_cut [53] (fun v53 wc => ∃ (kq : Nat) (x53_19 : Bool), v53 = .bool x53_19 ∧ Aside0 (pantographref03_Key.j2 kq l0 y280 x4_1 x53_19 ((rd_T51 l0 x4_1).f0) ((rd_T51 l0 x4_1).f1) ((rd_T51 l0 x4_1).f2) = some r) ∧ Aside0 (kq ≤ k1) ∧ Aside0 (Kd.R (Kd.int .u8) 5 wc w.heap.size (fun _ => True) v281 y280) ∧ Aside0 (wc.heap[gb279]? = some (.cells #[.int .i64 ((rd_T51 l0 x4_1).f0), .int .i64 ((rd_T51 l0 x4_1).f1), .string ((rd_T51 l0 x4_1).f2)] 51 (0, 0))) ∧ Aside0 (Below w.heap.size w wc))
                case first =>
                  have H := HC20.out
                  clear HC20
                  by_cases c25 : ((rd_T51 l0 x4_1).f0) = 3
                  · rw [if_pos c25] at H
                    have c25b0 : (((rd_T51 l0 x4_1).f0) == 3) = true := beq_iff_eq.mpr c25
                    have c25b1 : (((rd_T51 l0 x4_1).f0) != 3) = false := bne_eq_false_iff_eq.mpr c25
                    clear c25
                    (first | rw [c25b0] | (simp only [i64_w, i32_w]; rw [c25b0]) | skip)
                    have H' := Aside0.mk H
                    clear H
                    go_wp2
                    go_meet
                    case rel => exact ⟨_, ((((rd_T51 l0 x4_1).f0) == 3)), (by first | rfl | (simp; done) | (simp [*]; done)), H', ⟨by have := HK1.out; first | omega | exact Nat.le_refl _⟩, ⟨by (with_reducible repeat (first | apply Kd.R_alloc | apply Kd.R_drewN | apply Kd.R_drew)); exact HO282.out⟩, ⟨by (with_reducible repeat (first | refine blk_drewN ?_ _ | refine blk_drew ?_ | refine blk_alloc ?_ _)); exact BK279.out⟩, ⟨by repeat (first | (with_reducible first | exact HB.out | apply below_alloc | apply pw_below_drewN | apply below_drew1 | refine below_set ?_ GE279.out) | exact HB.out)⟩⟩
                  · rw [if_neg c25] at H
                    have c25b0 : (((rd_T51 l0 x4_1).f0) == 3) = false := beq_eq_false_iff_ne.mpr c25
                    have c25b1 : (((rd_T51 l0 x4_1).f0) != 3) = true := bne_iff_ne.mpr c25
                    (first | rw [c25b0] | (simp only [i64_w, i32_w]; rw [c25b0]) | skip)
                    have H' := Aside0.mk H
                    clear H
                    go_wp2
                    go_meet
                    case rel => exact ⟨_, ((((rd_T51 l0 x4_1).f0) == 4)), (by first | rfl | (simp; done) | (simp [*]; done)), H', ⟨by have := HK1.out; first | omega | exact Nat.le_refl _⟩, ⟨by (with_reducible repeat (first | apply Kd.R_alloc | apply Kd.R_drewN | apply Kd.R_drew)); exact HO282.out⟩, ⟨by (with_reducible repeat (first | refine blk_drewN ?_ _ | refine blk_drew ?_ | refine blk_alloc ?_ _)); exact BK279.out⟩, ⟨by repeat (first | (with_reducible first | exact HB.out | apply below_alloc | apply pw_below_drewN | apply below_drew1 | refine below_set ?_ GE279.out) | exact HB.out)⟩⟩
                case rest =>
                  clear HC20
                  try clear c1
                  try clear c2
                  try clear c2b0
                  try clear p2
                  try clear q2
                  try clear hx2
                  try clear c3
                  try clear c3b0
                  try clear c4
                  try clear c5
                  try clear c5b0
                  try clear c5b1
                  try clear c6
                  try clear p6
                  try clear c12
                  try clear c12b0
                  try clear c12b1
                  try clear c17
                  try clear c17b0
                  try clear c18
                  try clear c25
                  try clear c25b0
                  try clear c25b1
                  try clear hcz10_0
                  try clear hcz10_1
                  try clear hcz10_2
                  try clear hcz14_0
                  try clear hcz14_1
                  try clear hcz14_2
                  try clear hcz16_0
                  try clear hcz16_1
                  try clear hcz16_2
                  try clear hcz22_0
                  try clear hcz22_1
                  try clear hcz22_2
                  try clear hcz24_0
                  try clear hcz24_1
                  try clear hcz24_2
                  try clear hcz8_0
                  try clear hcz8_1
                  try clear hcz8_2
                  try clear hfz10_0
                  try clear hfz10_1
                  try clear hfz10_2
                  try clear hfz14_0
                  try clear hfz14_1
                  try clear hfz14_2
                  try clear hfz16_0
                  try clear hfz16_1
                  try clear hfz16_2
                  try clear hfz22_0
                  try clear hfz22_1
                  try clear hfz22_2
                  try clear hfz24_0
                  try clear hfz24_1
                  try clear hfz24_2
                  try clear hfz8_0
                  try clear hfz8_1
                  try clear hfz8_2
                  try clear hx278_0
                  try clear hx278_1
                  try clear hx278_2
                  try clear p2
                  try clear p278
                  try clear p6
                  try clear q2
                  try clear q278
                  obtain ⟨kq, x53_19, rfl, HA, HJ19, HO_3, BK279, HB⟩ := hcut
                  cases kq with
                  | zero => exact absurd HA.out (by simp [pantographref03_Key.j2])
                  | succ kj19 =>
                    have H := HA.out
                    clear HA
                    simp only [pantographref03_Key.j2] at H
                    by_cases c26 : x53_19 = true
                    · subst c26
                      have H1 : (pantographref03_Key.l2 kj19 l0 y280 x4_1 0 ((rd_T51 l0 x4_1).f0) ((rd_T51 l0 x4_1).f1) ((rd_T51 l0 x4_1).f2)) = some r := by rw [if_pos rfl] at H; exact H
                      clear H
                      have H := H1
                      clear H1
                      have H' := Aside0.mk H
                      clear H
                      go_wp2
                      go_loopg [3, 8] kj19 (fun kq v3 v8 w' => ∃ (x3_3 : List Int) (x8_3 : Int), v8 = .int .i64 x8_3 ∧ Aside0 (pantographref03_Key.l2 kq l0 x3_3 x4_1 x8_3 ((rd_T51 l0 x4_1).f0) ((rd_T51 l0 x4_1).f1) ((rd_T51 l0 x4_1).f2) = some r) ∧ Aside0 (kq ≤ kj19) ∧ Aside0 (Kd.R (Kd.int .u8) 5 w' w.heap.size (fun _ => True) v3 x3_3) ∧ Aside0 (w'.heap[gb279]? = some (.cells #[.int .i64 ((rd_T51 l0 x4_1).f0), .int .i64 ((rd_T51 l0 x4_1).f1), .string ((rd_T51 l0 x4_1).f2)] 51 (0, 0))) ∧ Aside0 (Below w.heap.size w w'))
                      case atStart => exact ⟨(y280), (0), (by first | rfl | (simp; done) | (simp [*]; done)), H', ⟨Nat.le_refl _⟩, ⟨by (with_reducible repeat (first | apply Kd.R_alloc | apply Kd.R_drewN | apply Kd.R_drew)); exact HO_3.out⟩, ⟨by (with_reducible repeat (first | refine blk_drewN ?_ _ | refine blk_drew ?_ | refine blk_alloc ?_ _)); exact BK279.out⟩, ⟨by repeat (first | (with_reducible first | exact HB.out | apply below_alloc | apply pw_below_drewN | apply below_drew1 | refine below_set ?_ GE279.out) | exact HB.out)⟩⟩
                      case round =>
                        clear H'
                        try clear c1
                        try clear c2
                        try clear c2b0
                        try clear p2
                        try clear q2
                        try clear hx2
                        try clear c3
                        try clear c3b0
                        try clear c4
                        try clear c5
                        try clear c5b0
                        try clear c5b1
                        try clear c6
                        try clear p6
                        try clear c12
                        try clear c12b0
                        try clear c12b1
                        try clear c17
                        try clear c17b0
                        try clear c18
                        try clear c25
                        try clear c25b0
                        try clear c25b1
                        try clear c26
                        try clear hcz10_0
                        try clear hcz10_1
                        try clear hcz10_2
                        try clear hcz14_0
                        try clear hcz14_1
                        try clear hcz14_2
                        try clear hcz16_0
                        try clear hcz16_1
                        try clear hcz16_2
                        try clear hcz22_0
                        try clear hcz22_1
                        try clear hcz22_2
                        try clear hcz24_0
                        try clear hcz24_1
                        try clear hcz24_2
                        try clear hcz8_0
                        try clear hcz8_1
                        try clear hcz8_2
                        try clear hfz10_0
                        try clear hfz10_1
                        try clear hfz10_2
                        try clear hfz14_0
                        try clear hfz14_1
                        try clear hfz14_2
                        try clear hfz16_0
                        try clear hfz16_1
                        try clear hfz16_2
                        try clear hfz22_0
                        try clear hfz22_1
                        try clear hfz22_2
                        try clear hfz24_0
                        try clear hfz24_1
                        try clear hfz24_2
                        try clear hfz8_0
                        try clear hfz8_1
                        try clear hfz8_2
                        try clear hx278_0
                        try clear hx278_1
                        try clear hx278_2
                        try clear p2
                        try clear p278
                        try clear p6
                        try clear q2
                        try clear q278
                        obtain ⟨x3_3, x8_3, rfl, HA, HK3, HO_3, BK279, HB⟩ := hrel
                        cases gk with
                        | zero => exact absurd HA.out (by simp [pantographref03_Key.l2])
                        | succ k3 =>
                          have H := HA.out
                          clear HA
                          simp only [pantographref03_Key.l2] at H
                          by_cases c27 : x8_3 < (((rd_T51 l0 x4_1).f2).size : Int)
                          · rw [if_pos c27] at H
                            have c27b0 : decide (x8_3 < (((rd_T51 l0 x4_1).f2).size : Int)) = true := decide_eq_true c27
                            clear c27
                            by_cases c28 : 0 ≤ x8_3
                            · rw [if_pos c28] at H
                              have c28b0 : decide (0 ≤ x8_3) = true := decide_eq_true c28
                              clear c28
                              by_cases c30 : x3_3.length < 140737488355328
                              · rw [if_pos c30] at H
                                have LMc30 := Aside0.mk c30
                                clear c30
                                obtain ⟨y289, hy289⟩ : ∃ y_ : List Int, y_ = (x3_3 ++ [bt ((rd_T51 l0 x4_1).f2) x8_3]) := ⟨_, rfl⟩
                                replace H : (if (bt ((rd_T51 l0 x4_1).f2) x8_3) = 0 then (if y289.length < 140737488355328 then (pantographref03_Key.l2 k3 l0 (y289 ++ [255]) x4_1 (wrap64 (x8_3 + 1)) ((rd_T51 l0 x4_1).f0) ((rd_T51 l0 x4_1).f1) ((rd_T51 l0 x4_1).f2)) else (none)) else (pantographref03_Key.l2 k3 l0 y289 x4_1 (wrap64 (x8_3 + 1)) ((rd_T51 l0 x4_1).f0) ((rd_T51 l0 x4_1).f1) ((rd_T51 l0 x4_1).f2))) = some r := by first | (rw [hy289]; with_reducible exact H) | (have H2_ := (Option.bind_some _ _).symm.trans H; rw [hy289]; with_reducible exact H2_) | (have H2_ := (Option.bind_some _ _).symm.trans H; with_reducible exact H2_) | with_reducible exact H | (rw [hy289]; exact H) | exact H
                                have Ny289 := Aside0.mk hy289
                                clear hy289
                                by_cases c32 : (bt ((rd_T51 l0 x4_1).f2) x8_3) = 0
                                · rw [if_pos c32] at H
                                  have c32b0 : ((bt ((rd_T51 l0 x4_1).f2) x8_3) == 0) = true := beq_iff_eq.mpr c32
                                  have c32b1 : ((bt ((rd_T51 l0 x4_1).f2) x8_3) != 0) = false := bne_eq_false_iff_eq.mpr c32
                                  clear c32
                                  by_cases c33 : y289.length < 140737488355328
                                  · rw [if_pos c33] at H
                                    have LMc33 := Aside0.mk c33
                                    clear c33
                                    obtain ⟨y292, hy292⟩ : ∃ y_ : List Int, y_ = (y289 ++ [255]) := ⟨_, rfl⟩
                                    replace H : (pantographref03_Key.l2 k3 l0 y292 x4_1 (wrap64 (x8_3 + 1)) ((rd_T51 l0 x4_1).f0) ((rd_T51 l0 x4_1).f1) ((rd_T51 l0 x4_1).f2)) = some r := by first | (rw [hy292]; with_reducible exact H) | (have H2_ := (Option.bind_some _ _).symm.trans H; rw [hy292]; with_reducible exact H2_) | (have H2_ := (Option.bind_some _ _).symm.trans H; with_reducible exact H2_) | with_reducible exact H | (rw [hy292]; exact H) | exact H
                                    have Ny292 := Aside0.mk hy292
                                    clear hy292
                                    have H' := Aside0.mk H
                                    clear H
                                    have hcz34_0 : wr.cell? ⟨gb279, 0, none⟩ = some (.int .i64 ((rd_T51 l0 x4_1).f0)) := (blk_cell BK279.out 0).trans rfl
                                    have hcz34_1 : wr.cell? ⟨gb279, 1, none⟩ = some (.int .i64 ((rd_T51 l0 x4_1).f1)) := (blk_cell BK279.out 1).trans rfl
                                    have hcz34_2 : wr.cell? ⟨gb279, 2, none⟩ = some (.string ((rd_T51 l0 x4_1).f2)) := (blk_cell BK279.out 2).trans rfl
                                    have hfz34_0 := blk_frozen BK279.out 0
                                    have hfz34_1 := blk_frozen BK279.out 1
                                    have hfz34_2 := blk_frozen BK279.out 2
                                    have p29 : 0 ≤ (x8_3 : Int) := of_decide_eq_true (by first | (with_reducible assumption) | assumption)
                                    have q29 : x8_3 < (((rd_T51 l0 x4_1).f2).size : Int) := of_decide_eq_true (by first | (with_reducible assumption) | assumption)
                                    have hx29 := bt_at ((rd_T51 l0 x4_1).f2) x8_3
                                    replace p29 := eq_true p29
                                    replace q29 := eq_true q29
                                    go_wp2_with (first | ((with_reducible refine gate_builtin (b := .append) (xs := #[.tmp 63, .tmp 68]) rfl ?_); at_builtin; refine Kd.R_append (Kd.int .u8) (w0 := w) w.heap.size rfl (.tmp 63) (.tmp 68) 25 5 (.int .u8 0) 1 rfl Tryd.underlying25 info5 rfl (by decide) (by omega) u3 x3_3 (bt ((rd_T51 l0 x4_1).f2) x8_3) [.int .u8 (bt ((rd_T51 l0 x4_1).f2) x8_3)] (fun _ => True) (fun _ => False) rfl rfl ?aP (fun _ hk => hk.elim) ?aF ?aO ?aB ?aS ?aL ?_; (case aP => exact rfl); (case aB => exact (by repeat (first | (with_reducible first | exact HB.out | apply below_alloc | apply pw_below_drewN | apply below_drew1 | refine below_set ?_ GE279.out) | exact HB.out))); (case aF => exact (fun _ _ => trivial)); (case aO => exact (by (with_reducible repeat (first | apply Kd.R_alloc | apply Kd.R_drewN | apply Kd.R_drew)); exact HO_3.out)); (case aS => exact (below_size (by repeat (first | (with_reducible first | exact HB.out | apply below_alloc | apply pw_below_drewN | apply below_drew1 | refine below_set ?_ GE279.out) | exact HB.out)))); (case aL => have := LMc30.out; omega); intro v290 w35 ho hb hg hat; rw [← Ny289.out] at ho; have n0_ := Aside0.mk (blk_grown (g := gb279) (o := .cells #[.int .i64 ((rd_T51 l0 x4_1).f0), .int .i64 ((rd_T51 l0 x4_1).f1), .string ((rd_T51 l0 x4_1).f2)] 51 (0, 0)) (by (with_reducible repeat (first | refine blk_drewN ?_ _ | refine blk_drew ?_ | refine blk_alloc ?_ _)); exact BK279.out) hg (Kd.R_ne HO_3.out BK279.out (by decide))); have n1_ := Aside0.mk (hb); have n2_ := Aside0.mk (ho); clear BK279; clear HB; clear HO_3; have BK279 := n0_; have HB := n1_; have HO291 := n2_; clear n0_ n1_ n2_; clear ho hb hg hat; have hcz36_0 : w35.cell? ⟨gb279, 0, none⟩ = some (.int .i64 ((rd_T51 l0 x4_1).f0)) := (blk_cell BK279.out 0).trans rfl; have hcz36_1 : w35.cell? ⟨gb279, 1, none⟩ = some (.int .i64 ((rd_T51 l0 x4_1).f1)) := (blk_cell BK279.out 1).trans rfl; have hcz36_2 : w35.cell? ⟨gb279, 2, none⟩ = some (.string ((rd_T51 l0 x4_1).f2)) := (blk_cell BK279.out 2).trans rfl; have hfz36_0 := blk_frozen BK279.out 0; have hfz36_1 := blk_frozen BK279.out 1; have hfz36_2 := blk_frozen BK279.out 2; have p31 : 0 ≤ (x8_3 : Int) := of_decide_eq_true (by first | (with_reducible assumption) | assumption); have q31 : x8_3 < (((rd_T51 l0 x4_1).f2).size : Int) := of_decide_eq_true (by first | (with_reducible assumption) | assumption); have hx31 := bt_at ((rd_T51 l0 x4_1).f2) x8_3; replace p31 := eq_true p31; replace q31 := eq_true q31) | ((with_reducible refine gate_builtin (b := .append) (xs := #[.tmp 75, .tmp 76]) rfl ?_); at_builtin; refine Kd.R_append (Kd.int .u8) (w0 := w) w.heap.size rfl (.tmp 75) (.tmp 76) 25 5 (.int .u8 0) 1 rfl Tryd.underlying25 info5 rfl (by decide) (by omega) v290 y289 255 [.int .u8 255] (fun _ => True) (fun _ => False) rfl rfl ?aP (fun _ hk => hk.elim) ?aF ?aO ?aB ?aS ?aL ?_; (case aP => exact rfl); (case aB => exact (by repeat (first | (with_reducible first | exact HB.out | apply below_alloc | apply pw_below_drewN | apply below_drew1 | refine below_set ?_ GE279.out) | exact HB.out))); (case aF => exact (fun _ _ => trivial)); (case aO => exact (by (with_reducible repeat (first | apply Kd.R_alloc | apply Kd.R_drewN | apply Kd.R_drew)); exact HO291.out)); (case aS => exact (below_size (by repeat (first | (with_reducible first | exact HB.out | apply below_alloc | apply pw_below_drewN | apply below_drew1 | refine below_set ?_ GE279.out) | exact HB.out)))); (case aL => have := LMc33.out; omega); intro v293 w37 ho hb hg hat; rw [← Ny292.out] at ho; have n0_ := Aside0.mk (blk_grown (g := gb279) (o := .cells #[.int .i64 ((rd_T51 l0 x4_1).f0), .int .i64 ((rd_T51 l0 x4_1).f1), .string ((rd_T51 l0 x4_1).f2)] 51 (0, 0)) (by (with_reducible repeat (first | refine blk_drewN ?_ _ | refine blk_drew ?_ | refine blk_alloc ?_ _)); exact BK279.out) hg (Kd.R_ne HO291.out BK279.out (by decide))); have n1_ := Aside0.mk (hb); have n2_ := Aside0.mk (ho); clear BK279; clear HB; clear HO291; have BK279 := n0_; have HB := n1_; have HO294 := n2_; clear n0_ n1_ n2_; clear ho hb hg hat))
                                    go_roundg k3
                                    case measure => have := HK1.out; have := HJ19.out; have := HK3.out; omega
                                    case rel => exact ⟨(y292), (wrap64 (x8_3 + 1)), (by first | rfl | (simp; done) | (simp [*]; done)), H', ⟨by have := HK1.out; have := HJ19.out; have := HK3.out; omega⟩, ⟨by (with_reducible repeat (first | apply Kd.R_alloc | apply Kd.R_drewN | apply Kd.R_drew)); exact HO294.out⟩, ⟨by (with_reducible repeat (first | refine blk_drewN ?_ _ | refine blk_drew ?_ | refine blk_alloc ?_ _)); exact BK279.out⟩, ⟨by repeat (first | (with_reducible first | exact HB.out | apply below_alloc | apply pw_below_drewN | apply below_drew1 | refine below_set ?_ GE279.out) | exact HB.out)⟩⟩
                                  · rw [if_neg c33] at H
                                    exact absurd H (by simp)
                                · rw [if_neg c32] at H
                                  have c32b0 : ((bt ((rd_T51 l0 x4_1).f2) x8_3) == 0) = false := beq_eq_false_iff_ne.mpr c32
                                  have c32b1 : ((bt ((rd_T51 l0 x4_1).f2) x8_3) != 0) = true := bne_iff_ne.mpr c32
                                  have H' := Aside0.mk H
                                  clear H
                                  have hcz38_0 : wr.cell? ⟨gb279, 0, none⟩ = some (.int .i64 ((rd_T51 l0 x4_1).f0)) := (blk_cell BK279.out 0).trans rfl
                                  have hcz38_1 : wr.cell? ⟨gb279, 1, none⟩ = some (.int .i64 ((rd_T51 l0 x4_1).f1)) := (blk_cell BK279.out 1).trans rfl
                                  have hcz38_2 : wr.cell? ⟨gb279, 2, none⟩ = some (.string ((rd_T51 l0 x4_1).f2)) := (blk_cell BK279.out 2).trans rfl
                                  have hfz38_0 := blk_frozen BK279.out 0
                                  have hfz38_1 := blk_frozen BK279.out 1
                                  have hfz38_2 := blk_frozen BK279.out 2
                                  have p29 : 0 ≤ (x8_3 : Int) := of_decide_eq_true (by first | (with_reducible assumption) | assumption)
                                  have q29 : x8_3 < (((rd_T51 l0 x4_1).f2).size : Int) := of_decide_eq_true (by first | (with_reducible assumption) | assumption)
                                  have hx29 := bt_at ((rd_T51 l0 x4_1).f2) x8_3
                                  replace p29 := eq_true p29
                                  replace q29 := eq_true q29
                                  go_wp2_with (first | ((with_reducible refine gate_builtin (b := .append) (xs := #[.tmp 63, .tmp 68]) rfl ?_); at_builtin; refine Kd.R_append (Kd.int .u8) (w0 := w) w.heap.size rfl (.tmp 63) (.tmp 68) 25 5 (.int .u8 0) 1 rfl Tryd.underlying25 info5 rfl (by decide) (by omega) u3 x3_3 (bt ((rd_T51 l0 x4_1).f2) x8_3) [.int .u8 (bt ((rd_T51 l0 x4_1).f2) x8_3)] (fun _ => True) (fun _ => False) rfl rfl ?aP (fun _ hk => hk.elim) ?aF ?aO ?aB ?aS ?aL ?_; (case aP => exact rfl); (case aB => exact (by repeat (first | (with_reducible first | exact HB.out | apply below_alloc | apply pw_below_drewN | apply below_drew1 | refine below_set ?_ GE279.out) | exact HB.out))); (case aF => exact (fun _ _ => trivial)); (case aO => exact (by (with_reducible repeat (first | apply Kd.R_alloc | apply Kd.R_drewN | apply Kd.R_drew)); exact HO_3.out)); (case aS => exact (below_size (by repeat (first | (with_reducible first | exact HB.out | apply below_alloc | apply pw_below_drewN | apply below_drew1 | refine below_set ?_ GE279.out) | exact HB.out)))); (case aL => have := LMc30.out; omega); intro v290 w39 ho hb hg hat; rw [← Ny289.out] at ho; have n0_ := Aside0.mk (blk_grown (g := gb279) (o := .cells #[.int .i64 ((rd_T51 l0 x4_1).f0), .int .i64 ((rd_T51 l0 x4_1).f1), .string ((rd_T51 l0 x4_1).f2)] 51 (0, 0)) (by (with_reducible repeat (first | refine blk_drewN ?_ _ | refine blk_drew ?_ | refine blk_alloc ?_ _)); exact BK279.out) hg (Kd.R_ne HO_3.out BK279.out (by decide))); have n1_ := Aside0.mk (hb); have n2_ := Aside0.mk (ho); clear BK279; clear HB; clear HO_3; have BK279 := n0_; have HB := n1_; have HO291 := n2_; clear n0_ n1_ n2_; clear ho hb hg hat; have hcz40_0 : w39.cell? ⟨gb279, 0, none⟩ = some (.int .i64 ((rd_T51 l0 x4_1).f0)) := (blk_cell BK279.out 0).trans rfl; have hcz40_1 : w39.cell? ⟨gb279, 1, none⟩ = some (.int .i64 ((rd_T51 l0 x4_1).f1)) := (blk_cell BK279.out 1).trans rfl; have hcz40_2 : w39.cell? ⟨gb279, 2, none⟩ = some (.string ((rd_T51 l0 x4_1).f2)) := (blk_cell BK279.out 2).trans rfl; have hfz40_0 := blk_frozen BK279.out 0; have hfz40_1 := blk_frozen BK279.out 1; have hfz40_2 := blk_frozen BK279.out 2; have p31 : 0 ≤ (x8_3 : Int) := of_decide_eq_true (by first | (with_reducible assumption) | assumption); have q31 : x8_3 < (((rd_T51 l0 x4_1).f2).size : Int) := of_decide_eq_true (by first | (with_reducible assumption) | assumption); have hx31 := bt_at ((rd_T51 l0 x4_1).f2) x8_3; replace p31 := eq_true p31; replace q31 := eq_true q31))
                                  go_roundg k3
                                  case measure => have := HK1.out; have := HJ19.out; have := HK3.out; omega
                                  case rel => exact ⟨(y289), (wrap64 (x8_3 + 1)), (by first | rfl | (simp; done) | (simp [*]; done)), H', ⟨by have := HK1.out; have := HJ19.out; have := HK3.out; omega⟩, ⟨by (with_reducible repeat (first | apply Kd.R_alloc | apply Kd.R_drewN | apply Kd.R_drew)); exact HO291.out⟩, ⟨by (with_reducible repeat (first | refine blk_drewN ?_ _ | refine blk_drew ?_ | refine blk_alloc ?_ _)); exact BK279.out⟩, ⟨by repeat (first | (with_reducible first | exact HB.out | apply below_alloc | apply pw_below_drewN | apply below_drew1 | refine below_set ?_ GE279.out) | exact HB.out)⟩⟩
                              · rw [if_neg c30] at H
                                exact absurd H (by simp)
                            · rw [if_neg c28] at H
                              exact absurd H (by simp)
                          · rw [if_neg c27] at H
                            have c27b0 : decide (x8_3 < (((rd_T51 l0 x4_1).f2).size : Int)) = false := decide_eq_false c27
                            clear c27
                            obtain ⟨y295, hy295⟩ : ∃ y_ : List Int, y_ = (([0, 1] : List Int)) := ⟨_, rfl⟩
                            replace H : (if x3_3.length + y295.length < 140737488355328 then (pantographref03_Key.l0 k3 l0 (x3_3 ++ y295) (wrap64 (x4_1 + 1))) else (none)) = some r := by first | (rw [hy295]; with_reducible exact H) | (have H2_ := (Option.bind_some _ _).symm.trans H; rw [hy295]; with_reducible exact H2_) | (have H2_ := (Option.bind_some _ _).symm.trans H; with_reducible exact H2_) | with_reducible exact H | (rw [hy295]; exact H) | exact H
                            have Ny295 := Aside0.mk hy295
                            clear hy295
                            by_cases c41 : x3_3.length + y295.length < 140737488355328
                            · rw [if_pos c41] at H
                              have LMc41 := Aside0.mk c41
                              clear c41
                              obtain ⟨y298, hy298⟩ : ∃ y_ : List Int, y_ = (x3_3 ++ y295) := ⟨_, rfl⟩
                              replace H : (pantographref03_Key.l0 k3 l0 y298 (wrap64 (x4_1 + 1))) = some r := by first | (rw [hy298]; with_reducible exact H) | (have H2_ := (Option.bind_some _ _).symm.trans H; rw [hy298]; with_reducible exact H2_) | (have H2_ := (Option.bind_some _ _).symm.trans H; with_reducible exact H2_) | with_reducible exact H | (rw [hy298]; exact H) | exact H
                              have Ny298 := Aside0.mk hy298
                              clear hy298
                              have H' := Aside0.mk H
                              clear H
                              have hcz42_0 : wr.cell? ⟨gb279, 0, none⟩ = some (.int .i64 ((rd_T51 l0 x4_1).f0)) := (blk_cell BK279.out 0).trans rfl
                              have hcz42_1 : wr.cell? ⟨gb279, 1, none⟩ = some (.int .i64 ((rd_T51 l0 x4_1).f1)) := (blk_cell BK279.out 1).trans rfl
                              have hcz42_2 : wr.cell? ⟨gb279, 2, none⟩ = some (.string ((rd_T51 l0 x4_1).f2)) := (blk_cell BK279.out 2).trans rfl
                              have hfz42_0 := blk_frozen BK279.out 0
                              have hfz42_1 := blk_frozen BK279.out 1
                              have hfz42_2 := blk_frozen BK279.out 2
                              go_wp2_with (first | ((with_reducible refine gate_dst (N := 79) rfl ?_); refine Kd.R_lit (Kd.int .u8) _ 5 ?hg (N := 79) ?hd (xs := ([0, 1] : List Int)) (inner := [.int .u8 0, .int .u8 1]) (ok := fun _ => True) (okp := fun _ => True) ?hr ?hp (fun _ hk => hk) trivial (Below.refl _ _) (Nat.le_refl _) (by simp) ?_; (case hd => rfl); (case hg => rfl); (case hr => first | (go_simp; done) | (go_simp; rfl)); (case hp => exact (Reps.one (show Kd.M (Kd.int .u8) _ _ _ 0 [.int .u8 0] from rfl) (Reps.one (show Kd.M (Kd.int .u8) _ _ _ 1 [.int .u8 1] from rfl) (Reps.none _ _)))); intro v296 w43 ho44 hb hg_ hnew_; clear hg_ hnew_; (first | rw [← Ny295.out] at ho44 | (simp only [Int.reduceToNat] at ho44; rw [← Ny295.out] at ho44)); have n0_ := Aside0.mk (Kd.R_elder' (by (with_reducible repeat (first | apply Kd.R_alloc | apply Kd.R_drewN | apply Kd.R_drew)); exact HO_3.out) (Kd.R_base ho44) hb); have n1_ := Aside0.mk (Kd.R_lower (Kd.R_new' ho44 (Kd.R_lt (by (with_reducible repeat (first | apply Kd.R_alloc | apply Kd.R_drewN | apply Kd.R_drew)); exact HO_3.out))) (below_size (by repeat (first | (with_reducible first | exact HB.out | apply below_alloc | apply pw_below_drewN | apply below_drew1 | refine below_set ?_ GE279.out) | exact HB.out)))); have n2_ := Aside0.mk (blk_below (g := gb279) (o := .cells #[.int .i64 ((rd_T51 l0 x4_1).f0), .int .i64 ((rd_T51 l0 x4_1).f1), .string ((rd_T51 l0 x4_1).f2)] 51 (0, 0)) (by (with_reducible repeat (first | refine blk_drewN ?_ _ | refine blk_drew ?_ | refine blk_alloc ?_ _)); exact BK279.out) hb); have n3_ := Aside0.mk (below_step (by repeat (first | (with_reducible first | exact HB.out | apply below_alloc | apply pw_below_drewN | apply below_drew1 | refine below_set ?_ GE279.out) | exact HB.out)) hb); clear HO_3; clear BK279; clear HB; have HO_3 := n0_; have HO297 := n1_; have BK279 := n2_; have HB := n3_; clear n0_ n1_ n2_ n3_; clear hb ho44; obtain ⟨Ao46, co46, eo46⟩ := Kd.R_slice HO297.out; subst eo46) | ((with_reducible refine gate_builtin (b := .append) (xs := #[.tmp 78, .tmp 79]) rfl ?_); at_builtin; refine Kd.R_append_rows (Kd.int .u8) (w0 := w) w.heap.size rfl (.tmp 78) (.tmp 79) 25 5 (.int .u8 0) 1 rfl Tryd.underlying25 info5 rfl (by decide) (by omega) u3 x3_3 y295 _ _ _ (fun k_ => some k_ ≠ (.slice Ao46 y295.length co46 : Value).ownBlock) (fun _ => False) rfl rfl ?aO ?aR (fun _ _ h => h) (fun _ h => h.elim) ?aF ?aB ?aS ?aL ?_; (case aR => repeat (first | exact (Kd.R_reads' HO297.out).2.2 | (with_reducible refine Kd.C_alloc ?_ _) | (with_reducible refine Kd.C_drewN ?_ _) | (with_reducible refine Kd.C_drew ?_))); (case aB => exact (by repeat (first | (with_reducible first | exact HB.out | apply below_alloc | apply pw_below_drewN | apply below_drew1 | refine below_set ?_ GE279.out) | exact HB.out))); (case aF => exact (fun k_ hk => Kd.fresh' (Kd.R_lt (by (with_reducible repeat (first | apply Kd.R_alloc | apply Kd.R_drewN | apply Kd.R_drew)); exact HO297.out)) k_ hk)); (case aO => exact (by (with_reducible repeat (first | apply Kd.R_alloc | apply Kd.R_drewN | apply Kd.R_drew)); exact Kd.R_mono HO_3.out (fun _ hk => hk.2))); (case aS => exact (below_size (by repeat (first | (with_reducible first | exact HB.out | apply below_alloc | apply pw_below_drewN | apply below_drew1 | refine below_set ?_ GE279.out) | exact HB.out)))); (case aL => have := LMc41.out; omega); intro v299 w45 ho hb hg hat; rw [← Ny298.out] at ho; have n0_ := Aside0.mk (blk_grown (g := gb279) (o := .cells #[.int .i64 ((rd_T51 l0 x4_1).f0), .int .i64 ((rd_T51 l0 x4_1).f1), .string ((rd_T51 l0 x4_1).f2)] 51 (0, 0)) (by (with_reducible repeat (first | refine blk_drewN ?_ _ | refine blk_drew ?_ | refine blk_alloc ?_ _)); exact BK279.out) hg (Kd.R_ne HO_3.out BK279.out (by decide))); have n1_ := Aside0.mk (Kd.R_after (ok := (fun _ => True)) (by (with_reducible repeat (first | apply Kd.R_alloc | apply Kd.R_drewN | apply Kd.R_drew)); exact HO297.out) hg hat); have n2_ := Aside0.mk (hb); have n3_ := Aside0.mk (ho); clear BK279; clear HO297; clear HB; clear HO_3; have BK279 := n0_; have HO297 := n1_; have HB := n2_; have HO300 := n3_; clear n0_ n1_ n2_ n3_; clear ho hb hg hat))
                              go_roundg k3
                              case measure => have := HK1.out; have := HJ19.out; have := HK3.out; omega
                              case rel => exact ⟨(y298), (wrap64 (x4_1 + 1)), (by first | rfl | (simp; done) | (simp [*]; done)), H', ⟨by have := HK1.out; have := HJ19.out; have := HK3.out; omega⟩, ⟨by (with_reducible repeat (first | apply Kd.R_alloc | apply Kd.R_drewN | apply Kd.R_drew)); exact Kd.R_mono HO300.out (fun _ hk => trivial)⟩, ⟨by repeat (first | (with_reducible first | exact HB.out | apply below_alloc | apply pw_below_drewN | apply below_drew1 | refine below_set ?_ GE279.out) | exact HB.out)⟩⟩
                            · rw [if_neg c41] at H
                              exact absurd H (by simp)
                    · replace c26 := Bool.eq_false_iff.mpr c26
                      subst c26
                      have H1 : (pantographref03_Key.l0 kj19 l0 y280 (wrap64 (x4_1 + 1))) = some r := by rw [if_neg (show ¬ (false = true) by decide)] at H; exact H
                      clear H
                      have H := H1
                      clear H1
                      have H' := Aside0.mk H
                      clear H
                      go_wp2
                      go_roundg kj19
                      case measure => have := HK1.out; have := HJ19.out; omega
                      case rel => exact ⟨(y280), (wrap64 (x4_1 + 1)), (by first | rfl | (simp; done) | (simp [*]; done)), H', ⟨by have := HK1.out; have := HJ19.out; omega⟩, ⟨by (with_reducible repeat (first | apply Kd.R_alloc | apply Kd.R_drewN | apply Kd.R_drew)); exact HO_3.out⟩, ⟨by repeat (first | (with_reducible first | exact HB.out | apply below_alloc | apply pw_below_drewN | apply below_drew1 | refine below_set ?_ GE279.out) | exact HB.out)⟩⟩
          · rw [if_neg c4] at H
            exact absurd H (by simp)
        · rw [if_neg c3] at H
          exact absurd H (by simp)
      · rw [if_neg c2] at H
        have c2b0 : decide (x4_1 < (l0.length : Int)) = false := decide_eq_false c2
        clear c2
        obtain rfl := Option.some.inj H
        have hcv47 := own_string (P := Tryd.prog) Tryd.underlying25 Tryd.underlying5 Tryd.underlying9 (Kd.own_of_R HO_3.out)
        go_wp2
        go_ret
        exact ⟨by first | rfl | (simp [errW_none, errW_some] <;> rfl) | (simp [*, errW_none, errW_some] <;> rfl), by repeat (first | (with_reducible first | exact HB.out | apply below_alloc | apply pw_below_drewN | apply below_drew1) | exact HB.out)⟩

end Go.Proofs.YtaddlkokencbkaaDoor.Q
