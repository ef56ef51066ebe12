/- The walk of the law ValueMay: which values may be, and their order, is told as the document says. No condition. -/
import Derived.Test.YtaddlkokencbkaaDoorVCmp
import Derived.Test.YtaddlkokencbkaaDoorLives3
import Derived.Test.YtaddlkokencbkaaDoorMay3
import Derived.Deep.RegionHeld3
namespace Go.Proofs.YtaddlkokencbkaaDoor.RowValueMayW
open Go.RowKit Go.Proofs.YtaddlkokencbkaaDoorW.PrintWords Go.Proofs.YtaddlkokencbkaaDoorW.PrintLast Go.Proofs.YtaddlkokencbkaaDoorW.PrintMore Go.Proofs.YtaddlkokencbkaaDoor.Q Go.Proofs.YtaddlkokencbkaaDoor.Shelf Go.Proofs.YtaddlkokencbkaaDoor.May Go.Proofs.YtaddlkokencbkaaDoor.VKeyW Go.Proofs.YtaddlkokencbkaaDoor.OpenV Go.Proofs.YtaddlkokencbkaaDoor.Vals Go.Proofs.YtaddlkokencbkaaDoor.VOrd Go.Proofs.YtaddlkokencbkaaDoor.Plain Go.Proofs.YtaddlkokencbkaaDoor.Cmp3 Go.Proofs.YtaddlkokencbkaaDoor.VCmp
set_option linter.unusedVariables false
set_option linter.unusedSimpArgs false
abbrev blkA (k n : Int) (s : ByteArray) : Obj := .cells #[.int .i64 k, .int .i64 n, .string s] 51
abbrev Held (w : World) (k n : Int) (s : ByteArray) (k' n' : Int) (s' : ByteArray) (w' : World) : Prop := w'.cell? ⟨w.heap.size, 0, none⟩ = some (.int .i64 k) ∧ w'.cell? ⟨w.heap.size, 1, none⟩ = some (.int .i64 n) ∧ w'.cell? ⟨w.heap.size, 2, none⟩ = some (.string s) ∧ w'.cell? ⟨w.heap.size + 1, 0, none⟩ = some (.int .i64 k') ∧ w'.cell? ⟨w.heap.size + 1, 1, none⟩ = some (.int .i64 n') ∧ w'.cell? ⟨w.heap.size + 1, 2, none⟩ = some (.string s') ∧ Below w.heap.size w w'
theorem Held.below {w : World} {k n : Int} {s : ByteArray} {k' n' : Int} {s' : ByteArray} {w' : World} (h : Held w k n s k' n' s' w') : Below w.heap.size w w' := h.2.2.2.2.2.2
theorem Held.next {w : World} {k n : Int} {s : ByteArray} {k' n' : Int} {s' : ByteArray} {w1 w2 : World} (hb : Below w1.heap.size w1 w2) (h : Held w k n s k' n' s' w1) : Held w k n s k' n' s' w2 :=
  ⟨pw_cell_below hb h.1, pw_cell_below hb h.2.1, pw_cell_below hb h.2.2.1, pw_cell_below hb h.2.2.2.1, pw_cell_below hb h.2.2.2.2.1, pw_cell_below hb h.2.2.2.2.2.1, below_step h.2.2.2.2.2.2 hb⟩
set_option maxHeartbeats 4000000 in
set_option maxRecDepth 100000 in
theorem walk (k n : Int) (s : ByteArray) (k' n' : Int) (s' : ByteArray) (b : Bool) (r q : Int) (w : World) (hs : s.size ≤ 140737488355000) (hT : Tabs w) (hP : Pow w) (hb : mayB k n s = b)
    (h1 : C ⟨k, n, s⟩ ⟨k', n', s'⟩ = r) (h2 : C ⟨k', n', s'⟩ ⟨k, n, s⟩ = q) (h3 : IntKind.i64.wrap (-r) = q) :
    Calls Tryd.prog 8 #[.agg #[.int .i64 k, .int .i64 n, .string s], .agg #[.int .i64 k', .int .i64 n', .string s']] w fun e w' => e = .returned (.bool true) ∧ Below w.heap.size w w' := by
  have H1 := Aside0.mk h1
  have H2 := Aside0.mk h2
  have H0 := Aside0.mk (C_self ⟨k, n, s⟩)
  have HB := Aside0.mk hb
  have HT := Aside0.mk hT
  have HP := Aside0.mk hP
  have HS := Aside0.mk hs
  have cee : ∀ y : Int, (y == y) = true := by simp
  have cbb : ∀ y : Bool, (y == y) = true := by simp
  clear hT hP hb h1 h2 hs
  go_enter Tryd.func8, Tryd.ntmps8
  go_wp2
  have b0 := blk_below (blk_new w (blkA k n s)) (below_alloc (Below.refl (w.alloc (blkA k n s)).heap.size (w.alloc (blkA k n s))) (blkA k' n' s'))
  have k0 := (blk_cell b0 0).trans rfl
  have k1 := (blk_cell b0 1).trans rfl
  have k2 := (blk_cell b0 2).trans rfl
  have b1 := blk_new (w.alloc (blkA k n s)) (blkA k' n' s')
  have hsz : (w.alloc (blkA k n s)).heap.size = w.heap.size + 1 := by simp
  rw [hsz] at b1
  have k3 := (blk_cell b1 0).trans rfl
  have k4 := (blk_cell b1 1).trans rfl
  have k5 := (blk_cell b1 2).trans rfl
  have HW := Aside0.mk (below_alloc (below_alloc (Below.refl w.heap.size w) (blkA k n s)) (blkA k' n' s'))
  clear b0 b1 hsz
  change Code.wp _ _ _ _ ((w.alloc (blkA k n s)).alloc (blkA k' n' s'))
  generalize (w.alloc (blkA k n s)).alloc (blkA k' n' s') = W2 at k0 k1 k2 k3 k4 k5 HW ⊢
  go_region_held3 (fun w' => w'.cell? ⟨w.heap.size, 0, none⟩ = some (.int .i64 k) ∧ w'.cell? ⟨w.heap.size, 1, none⟩ = some (.int .i64 n) ∧ w'.cell? ⟨w.heap.size, 2, none⟩ = some (.string s) ∧ w'.cell? ⟨w.heap.size + 1, 0, none⟩ = some (.int .i64 k') ∧ w'.cell? ⟨w.heap.size + 1, 1, none⟩ = some (.int .i64 n') ∧ w'.cell? ⟨w.heap.size + 1, 2, none⟩ = some (.string s') ∧ Below w.heap.size w w')
    (first | exact ⟨k0, k1, k2, k3, k4, k5, HW.out.drew⟩ | (exact Held.next (by assumption) (by assumption)) | go_keep)
    (first | (go_at_call 31; refine (May3.vmay_calls k n s b _ HS.out (Tabs.below HT.out (Held.below (k := k) (n := n) (s := s) (k' := k') (n' := n') (s' := s') (by assumption))) HB.out).mono ?_; rintro e w5 ⟨rfl, hb5⟩) | (go_at_call 32; refine (May3.refmay_calls k n s b _ (by have := HS.out; omega) HB.out).mono ?_; rintro e w5 ⟨rfl, hb5⟩) | (go_at_call 33; refine (vcompare_calls _ _ _ _ _ _ _ _ rfl).mono ?_; (first | rw [H1.out] | rw [H2.out] | rw [H0.out]); rintro e w5 ⟨rfl, hb5⟩) | (go_at_call 26; refine (compare_calls k n s k' n' s' r _ H1.out).mono ?_; rintro e w5 ⟨rfl, hb5⟩) | (go_at_call 27; refine (Lives3.lives_calls _ (Tabs.below HT.out (Held.below (k := k) (n := n) (s := s) (k' := k') (n' := n') (s' := s') (by assumption))) (Show.Pow.below HP.out (Held.below (k := k) (n := n) (s := s) (k' := k') (n' := n') (s' := s') (by assumption)))).mono ?_; rintro e w5 ⟨rfl, hb5⟩))
  all_goals
    go_wp2
    go_ret
    first | exact ⟨rfl, Held.below (k := k) (n := n) (s := s) (k' := k') (n' := n') (s' := s') (by assumption)⟩ | exact ⟨rfl, below_step (Held.below (k := k) (n := n) (s := s) (k' := k') (n' := n') (s' := s') (by assumption)) (by assumption)⟩
theorem law_calls (y y1 : V) (w : World) (ok : OkV y) (sm : Small y) (ok1 : OkV y1) (sm1 : Small y1) (hT : Tabs w) (hP : Pow w) :
    Calls Tryd.prog 8 #[.agg #[.int .i64 y.f0, .int .i64 y.f1, .string y.f2], .agg #[.int .i64 y1.f0, .int .i64 y1.f1, .string y1.f2]] w fun e w' => e = .returned (.bool true) ∧ Below w.heap.size w w' := by
  refine walk y.f0 y.f1 y.f2 y1.f0 y1.f1 y1.f2 _ (C y y1) (C y1 y) w (by unfold Small reachBytes at sm; omega) hT hP rfl rfl rfl ?_
  have h3 := C_three y y1
  have ha := C_anti y y1
  rw [IntKind.wrap_i64]
  omega
end Go.Proofs.YtaddlkokencbkaaDoor.RowValueMayW
