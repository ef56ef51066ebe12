/- value.Compare, by hand: its answer is the order C of values. -/
import Derived.Test.YtaddlkokencbkaaDoorCmp3
import Derived.Test.YtaddlkokencbkaaDoorQ36
import Derived.Deep.RegionWith
import Derived.Deep.DeepCutAuto
import Derived.StillTailTactics
namespace Go.Proofs.YtaddlkokencbkaaDoor.VCmp
open Go.RowKit Go.Proofs.YtaddlkokencbkaaDoorW.PrintWords Go.Proofs.YtaddlkokencbkaaDoorW.PrintLast Go.Proofs.YtaddlkokencbkaaDoorW.PrintMore Go.Proofs.YtaddlkokencbkaaDoor.Q Go.Proofs.YtaddlkokencbkaaDoor.Shelf Go.Proofs.YtaddlkokencbkaaDoor.May Go.Proofs.YtaddlkokencbkaaDoor.VKeyW Go.Proofs.YtaddlkokencbkaaDoor.OpenV Go.Proofs.YtaddlkokencbkaaDoor.Vals Go.Proofs.YtaddlkokencbkaaDoor.VOrd Go.Proofs.YtaddlkokencbkaaDoor.Plain Go.Proofs.YtaddlkokencbkaaDoor.Cmp3
set_option linter.unusedVariables false
set_option linter.unusedSimpArgs false
theorem cmpB_map : ∀ a b : List UInt8, Lib.compareBytes a b = L (a.map fun x => (x.toNat : Int)) (b.map fun x => (x.toNat : Int))
  | [], [] => rfl
  | [], _ :: _ => rfl
  | _ :: _, [] => rfl
  | a :: s, b :: t => by
    have ih := cmpB_map s t
    simp only [Lib.compareBytes, List.map_cons, L, UInt8.lt_iff_toNat_lt]
    rw [ih]
    generalize L (s.map fun x => (x.toNat : Int)) (t.map fun x => (x.toNat : Int)) = q
    repeat' split
    all_goals first | rfl | (exfalso; omega)
theorem cmpB (a b : ByteArray) : Lib.compareBytes a.data.toList b.data.toList = L (bytesOf a) (bytesOf b) := cmpB_map _ _
def or3 (a b c : Int) : Int := if a = 0 then (if b = 0 then c else b) else a
theorem or3_C (u v : V) : or3 (Lib.compareInt u.f0 v.f0) (Lib.compareInt u.f1 v.f1) (Lib.compareBytes u.f2.data.toList v.f2.data.toList) = C u v := by
  unfold or3 C Lib.compareInt
  rw [cmpB]
  repeat' split
  all_goals first | rfl | (exfalso; omega)
theorem or_f (a b c : Int) : cmp_Or_int.f 4 [a, b, c] = some (or3 a b c) := by
  have w1 : wrap64 (0 + 1) = 1 := by unfold wrap64; omega
  have w2 : wrap64 (1 + 1) = 2 := by unfold wrap64; omega
  have w3 : wrap64 (2 + 1) = 3 := by unfold wrap64; omega
  have r0 : rd [a, b, c] 0 = a := rfl
  have r1 : rd [a, b, c] 1 = b := rfl
  have r2 : rd [a, b, c] 2 = c := rfl
  have hl : (([a, b, c] : List Int).length : Int) = 3 := rfl
  unfold cmp_Or_int.f or3
  rw [cmp_Or_int.l0, hl, if_pos (by omega), if_pos (by omega), if_pos (by omega), r0, w1]
  by_cases ha : a = 0
  · rw [if_pos ha, if_pos ha, cmp_Or_int.l0, hl, if_pos (by omega), if_pos (by omega), if_pos (by omega), r1, w2]
    by_cases hb : b = 0
    · rw [if_pos hb, if_pos hb, cmp_Or_int.l0, hl, if_pos (by omega), if_pos (by omega), if_pos (by omega), r2, w3]
      by_cases hc : c = 0
      · rw [if_pos hc, cmp_Or_int.l0, hl, if_neg (by omega), hc]
      · rw [if_neg hc]
    · rw [if_neg hb, if_neg hb]
  · rw [if_neg ha, if_neg ha]
theorem C_ints3 (w : World) (a b c : Int) (t : TypeId) : Kd.C (Kd.int .i64) (w.alloc (.cells #[.int .i64 a, .int .i64 b, .int .i64 c] t)) (some ⟨w.heap.size, 0, none⟩) ([a, b, c] : List Int).length [a, b, c] := by
  refine Kd.C_of_reads (d := (0 : Int)) (h1 := fun _ => rfl) ⟨rfl, by simp, fun _ => ⟨_, rfl, fun j hj => ?_⟩⟩
  have hb := blk_new w (.cells #[.int .i64 a, .int .i64 b, .int .i64 c] t (0, 0))
  match j, hj with
  | 0, _ => exact (blk_cell hb 0).trans rfl
  | 1, _ => exact (blk_cell hb 1).trans rfl
  | 2, _ => exact (blk_cell hb 2).trans rfl
theorem or_calls (a b c r : Int) (W : World) (t n : Nat) (hn : W.heap.size = n) (h : or3 a b c = r) :
    Calls Tryd.prog 55 #[.slice (some ⟨n, 0, none⟩) 3 3] (W.alloc (.cells #[.int .i64 a, .int .i64 b, .int .i64 c] t)) fun e w' => e = .returned (.int .i64 r) ∧ ∃ nd, w' = (W.alloc (.cells #[.int .i64 a, .int .i64 b, .int .i64 c] t)).drewN nd := by
  subst hn
  have hC := C_ints3 W a b c t
  refine (cmp_Or_int.calls 4 _ 3 [a, b, c] r _ hC (by simp) (by rw [← h]; exact or_f a b c)).mono ?_
  rintro e w' ⟨he, nd, hb⟩
  exact ⟨he, nd, hb⟩
set_option maxHeartbeats 4000000 in
set_option maxRecDepth 100000 in
theorem vcompare_calls (k n : Int) (s : ByteArray) (k' n' : Int) (s' : ByteArray) (r : Int) (w : World) (h : C ⟨k, n, s⟩ ⟨k', n', s'⟩ = r) :
    Calls Tryd.prog 33 #[.agg #[.int .i64 k, .int .i64 n, .string s], .agg #[.int .i64 k', .int .i64 n', .string s']] w fun e w' => e = .returned (.int .i64 r) ∧ Below w.heap.size w w' := by
  obtain ⟨x0, hx0⟩ : ∃ x, Lib.compareInt k k' = x := ⟨_, rfl⟩
  obtain ⟨x1, hx1⟩ : ∃ x, Lib.compareInt n n' = x := ⟨_, rfl⟩
  obtain ⟨x2, hx2⟩ : ∃ x, Lib.compareBytes s.data.toList s'.data.toList = x := ⟨_, rfl⟩
  have hr := or3_C ⟨k, n, s⟩ ⟨k', n', s'⟩
  dsimp only at hr
  rw [h, hx0, hx1, hx2] at hr
  have H0 := Aside0.mk hx0
  have H1 := Aside0.mk hx1
  have H2 := Aside0.mk hx2
  have HR := Aside0.mk hr
  have HSZ : Aside0 (((w.alloc (Obj.cells #[Value.int IntKind.i64 k, Value.int IntKind.i64 n, Value.string s] 51)).alloc (Obj.cells #[Value.int IntKind.i64 k', Value.int IntKind.i64 n', Value.string s'] 51)).heap.size = w.heap.size + 1 + 1) := ⟨by simp⟩
  clear h hx0 hx1 hx2 hr
  go_enter Tryd.func33, Tryd.ntmps33
  go_wp2
  have b0 := blk_below (blk_new w (Obj.cells #[Value.int IntKind.i64 k, Value.int IntKind.i64 n, Value.string s] 51)) (below_alloc (Below.refl (w.alloc (Obj.cells #[Value.int IntKind.i64 k, Value.int IntKind.i64 n, Value.string s] 51)).heap.size (w.alloc (Obj.cells #[Value.int IntKind.i64 k, Value.int IntKind.i64 n, Value.string s] 51))) (Obj.cells #[Value.int IntKind.i64 k', Value.int IntKind.i64 n', Value.string s'] 51))
  have k0 := (blk_cell b0 0).trans rfl
  have k1 := (blk_cell b0 1).trans rfl
  have k2 := (blk_cell b0 2).trans rfl
  have b1 := blk_new (w.alloc (Obj.cells #[Value.int IntKind.i64 k, Value.int IntKind.i64 n, Value.string s] 51)) (Obj.cells #[Value.int IntKind.i64 k', Value.int IntKind.i64 n', Value.string s'] 51)
  have hs : (w.alloc (Obj.cells #[Value.int IntKind.i64 k, Value.int IntKind.i64 n, Value.string s] 51)).heap.size = w.heap.size + 1 := by simp
  rw [hs] at b1
  have k3 := (blk_cell b1 0).trans rfl
  have k4 := (blk_cell b1 1).trans rfl
  have k5 := (blk_cell b1 2).trans rfl
  have HB := Aside0.mk (below_alloc (below_alloc (Below.refl w.heap.size w) (Obj.cells #[Value.int IntKind.i64 k, Value.int IntKind.i64 n, Value.string s] 51)) (Obj.cells #[Value.int IntKind.i64 k', Value.int IntKind.i64 n', Value.string s'] 51))
  clear b0 b1 hs
  generalize (w.alloc (Obj.cells #[Value.int IntKind.i64 k, Value.int IntKind.i64 n, Value.string s] 51)).alloc (Obj.cells #[Value.int IntKind.i64 k', Value.int IntKind.i64 n', Value.string s'] 51) = W2 at k0 k1 k2 k3 k4 k5 HSZ HB ⊢
  refine wp_region_still_tail 15 (by kernel_rfl) (by kernel_rfl) ?_
  simp only [List.take_succ_cons, List.take_zero, List.drop_succ_cons, List.drop_zero]
  repeat (first | still_step | (still_call (cmpI_calls _ _ _)) | (still_call (cmpS_calls _ _ _)))
  refine wpStill_nil ?_
  rw [H0.out, H1.out, H2.out]
  have HB3 : Aside0 (Below w.heap.size w W2.drew) := ⟨HB.out.drew⟩
  change wpList _ _ _ _ _ W2.drew
  generalize W2.drew = W3 at HB3 ⊢
  clear k0 k1 k2 k3 k4 k5 HSZ HB
  go_wp2_with (go_at_call 55; refine (or_calls x0 x1 x2 r W3 _ _ rfl HR.out).mono ?_; rintro e w6 ⟨rfl, nd, rfl⟩)
  go_ret
  exact ⟨rfl, pw_below_drewN (below_alloc HB3.out _) _⟩
end Go.Proofs.YtaddlkokencbkaaDoor.VCmp
