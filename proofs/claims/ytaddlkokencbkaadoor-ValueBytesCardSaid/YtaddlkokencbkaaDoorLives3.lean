/- law03's own example, by hand. -/
import Derived.Test.YtaddlkokencbkaaDoorVKeyW
import Derived.Test.YtaddlkokencbkaaDoorShow
namespace Go.Proofs.YtaddlkokencbkaaDoor.Lives3
open Go.RowKit Go.Proofs.YtaddlkokencbkaaDoorW.PrintWords Go.Proofs.YtaddlkokencbkaaDoorW.PrintLast Go.Proofs.YtaddlkokencbkaaDoorW.PrintMore Go.Proofs.YtaddlkokencbkaaDoor.Q Go.Proofs.YtaddlkokencbkaaDoor.Shelf Go.Proofs.YtaddlkokencbkaaDoor.May Go.Proofs.YtaddlkokencbkaaDoor.VKey Go.Proofs.YtaddlkokencbkaaDoor.VKeyW Go.Proofs.YtaddlkokencbkaaDoor.Show
set_option linter.unusedVariables false
set_option linter.unusedSimpArgs false
theorem C_one (w : World) (k n : Int) (s : ByteArray) : Kd.C k51 (w.alloc (.cells #[.int .i64 k, .int .i64 n, .string s] 51)) (some ⟨w.heap.size, 0, none⟩) ([⟨k, n, s⟩] : List V).length [⟨k, n, s⟩] := by
  refine ⟨rfl, by simp, fun _ => ⟨_, rfl, fun j p hj => ?_⟩⟩
  match j, hj with
  | 0, hj =>
    simp at hj
    subst hj
    refine ⟨_, rfl, k51_mk _ _, fun i u hu => ?_⟩
    have hb := blk_new w (.cells #[.int .i64 k, .int .i64 n, .string s] 51 (0, 0))
    match i, hu with
    | 0, hu => exact (blk_cell hb 0).trans hu
    | 1, hu => exact (blk_cell hb 1).trans hu
    | 2, hu => exact (blk_cell hb 2).trans hu
theorem ex_key : keyR [⟨2, 1, ⟨#[]⟩⟩] = [2, 128, 0, 0, 0, 0, 0, 0, 1] := by decide +kernel
theorem ex_e : keyE [⟨2, 1, ⟨#[]⟩⟩] = 0 := by decide +kernel
theorem small : ∀ v ∈ ([⟨2, 1, ⟨#[]⟩⟩] : List V), v.f2.size ≤ 4096 := by
  intro v hv
  obtain rfl := List.mem_singleton.1 hv
  decide
theorem ex_str : (strOfNums [2, 128, 0, 0, 0, 0, 0, 0, 1]).toList = [2, 128, 0, 0, 0, 0, 0, 0, 1] := by decide +kernel
theorem ex_q : value_quoted.f 5 ⟨#[]⟩ = some ⟨#[39, 39]⟩ := by decide +kernel
theorem lives_calls (w : World) (hT : Tabs w) (hP : Pow w) : Calls Tryd.prog 27 #[] w fun e w' => e = .returned (.bool true) ∧ Below w.heap.size w w' := by
  have HT := Aside0.mk hT
  have HP := Aside0.mk hP
  clear hT hP
  have est := ex_str
  have cee : ∀ y : List UInt8, (y == y) = true := by simp
  go_enter Tryd.func27, Tryd.ntmps27
  go_wp2_with (first | (go_at_call 25; refine (key_calls (some ⟨w.heap.size, 0, none⟩) 1 [⟨2, 1, ⟨#[]⟩⟩] _ (C_one w 2 1 ⟨#[]⟩) (by simp) small (by simp) (Tabs.below HT.out (below_alloc (Below.refl _ _) _))).mono ?_; rintro e w1 ⟨rfl, hb⟩; rw [ex_key, ex_e]; have HB1 := Aside0.mk (below_step (below_alloc (Below.refl w.heap.size w) _) hb); clear hb) | (go_at_call 31; refine (may_calls 0 0 ⟨#[]⟩ _ (by decide) (Tabs.below HT.out HB1.out)).mono ?_; rintro e w2 ⟨rfl, hb⟩; rw [show mayB 0 0 ⟨#[]⟩ = true by decide +kernel]; have HB2 := Aside0.mk (below_step HB1.out hb); clear hb) | (go_at_call 29; refine (show_calls 5 0 0 ⟨#[]⟩ _ _ (by omega) (by omega) (Pow.below HP.out HB2.out) ex_q).mono ?_; rintro e w3 ⟨rfl, hb⟩; rw [show showS 0 0 ⟨#[39, 39]⟩ = ⟨#[110, 117, 108, 108]⟩ from rfl]; have HB3 := Aside0.mk (below_step HB2.out hb); clear hb))
  go_ret
  exact ⟨rfl, HB3.out⟩
end Go.Proofs.YtaddlkokencbkaaDoor.Lives3
