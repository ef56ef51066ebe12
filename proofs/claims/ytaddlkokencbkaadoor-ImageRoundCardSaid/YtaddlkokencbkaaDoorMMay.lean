/- Texts of this claim, one behind the other: Shelf, May, MayV. -/
import Derived.Test.YtaddlkokencbkaaDoorProg
import Derived.Ground.NamesProg
import Derived.WalkKit
import Derived.WalkMore
import Derived.Below
import Derived.Shelf.Lay
import Derived.Shelf.Unicode.ValidAny
import Derived.Shelf.Strconv.Itoa3
import Derived.Shelf.Small.Strs
import Derived.Shelf.Small.Wraps
import Derived.Test.YtaddlkokencbkaaDoorMBase
import Derived.Test.YtaddlkokencbkaaDoorWMore
/- Contracts of the library's functions, laid at this program by the shelf. -/
namespace Go.Proofs
open Go.RowKit Go.Shelf Go.Lib
shelf_lay Lays.n196 Nm 196 at Tryd as Tryd.laysValid
shelf_lay LaysM.n171 Nm 171 at Tryd as Tryd.laysItoa
shelf_lay Lays.n121 Nm 121 at Tryd as Tryd.laysBool
shelf_lay Lays.n106 Nm 106 at Tryd as Tryd.laysCmpS
shelf_lay Lays.n122 Nm 122 at Tryd as Tryd.laysCmpI
namespace YtaddlkokencbkaaDoor.Shelf
def Tabs (w : World) : Prop := Lib.Utf8Tabs (Tryd.laysValid_ren.g 3) (Tryd.laysValid_ren.g 4) w
def Pow (w : World) : Prop := Lib.TabIs Tryd.prog w "internal/strconv.uint64pow10" .u64 Lib.pow10Tab
theorem valid_calls (s : ByteArray) (w : World) (hs : s.size ≤ 9223372036854775807) (hT : Tabs w) :
    Calls Tryd.prog 54 #[.string s] w fun e w' => e = .returned (.bool (Lib.validD s.data.toList)) ∧ Below w.heap.size w w' := Any.utf8_ValidString Tryd.laysValid s w hs hT
theorem itoa_calls (n : Int) (h0 : -9223372036854775808 ≤ n) (h1 : n ≤ 9223372036854775807) (w : World) (htab : Pow w) :
    Calls Tryd.prog 51 #[.int .i64 n] w fun e w' => e = .returned (.string ⟨(Lib.itoa n).toArray⟩) ∧ ∃ k os, w' = Sort.grow (w.drewN k) os := Any.strconv_Itoa Tryd.laysItoa n h0 h1 w htab
theorem bool_calls (b : Bool) (w : World) : Calls Tryd.prog 50 #[.bool b] w fun e w' => e = .returned (.string ⟨(Lib.formatBool b).toArray⟩) ∧ w' = w := Any.strconv_FormatBool Tryd.laysBool b w
theorem cmpS_calls (a b : ByteArray) (w : World) : Calls Tryd.prog 57 #[.string a, .string b] w fun e w' => e = .returned (.int .i64 (Lib.compareBytes a.data.toList b.data.toList)) ∧ w' = w := Any.strings_Compare Tryd.laysCmpS a b w
theorem cmpI_calls (x y : Int) (w : World) : Calls Tryd.prog 56 #[.int .i64 x, .int .i64 y] w fun e w' => e = .returned (.int .i64 (Lib.compareInt x y)) ∧ w' = w := Any.cmp_Compare_int Tryd.laysCmpI x y w
end YtaddlkokencbkaaDoor.Shelf
end Go.Proofs

/- value.May, by hand: which values may be. -/
namespace Go.Proofs.YtaddlkokencbkaaDoor.May
open Go.RowKit Go.Proofs.YtaddlkokencbkaaDoorW.PrintWords Go.Proofs.YtaddlkokencbkaaDoorW.PrintLast Go.Proofs.YtaddlkokencbkaaDoorW.PrintMore Go.Proofs.YtaddlkokencbkaaDoor.Shelf
set_option linter.unusedVariables false
set_option linter.unusedSimpArgs false
theorem Tabs.below {w w1 : World} (h : Tabs w) (hb : Below w.heap.size w w1) : Tabs w1 :=
  ⟨fun c hc => pw_cell_below hb (h.1 c hc), fun i hi => ⟨pw_cell_below hb (h.2 i hi).1, pw_cell_below hb (h.2 i hi).2⟩⟩
def mayB (k n : Int) (s : ByteArray) : Bool :=
  if k = 0 then decide (n = 0) && s.toList.isEmpty
  else if k = 1 then (decide (n = 0) || decide (n = 1)) && s.toList.isEmpty
  else if k = 2 then s.toList.isEmpty
  else if k = 3 then decide ((s.size : Int) ≤ 4096) && decide (n = 0) && Lib.validD s.data.toList
  else if k = 4 then decide ((s.size : Int) ≤ 4096) && decide (n = 0)
  else false
theorem vbool {a b : Bool} (h : a = b) : Ending.returned (.bool a) = .returned (.bool b) := by rw [h]
set_option maxHeartbeats 2000000 in
theorem may_calls (k n : Int) (s : ByteArray) (w : World) (hs : s.size ≤ 140737488355000) (hT : Tabs w) :
    Calls Tryd.prog 31 #[.agg #[.int .i64 k, .int .i64 n, .string s]] w fun e w' => e = .returned (.bool (mayB k n s)) ∧ Below w.heap.size w w' := by
  have HT := Aside0.mk (fun o => Tabs.below hT (below_alloc (Below.refl w.heap.size w) o))
  clear hT
  obtain ⟨V, hV⟩ : ∃ V, Lib.validD s.data.toList = V := ⟨_, rfl⟩
  obtain ⟨r, hr⟩ : ∃ r, mayB k n s = r := ⟨_, rfl⟩
  have HV := Aside0.mk hV
  have HM := Aside0.mk hr
  clear hV
  rw [hr]
  clear hr
  go_enter Tryd.func31, Tryd.ntmps31
  go_wp2_with (first | (go_at_call 54; refine (valid_calls s _ (by omega) (HT.out _)).mono ?_; rintro e w1 ⟨rfl, hb⟩; rw [HV.out]; have HB := Aside0.mk (below_step (below_alloc (Below.refl w.heap.size w) _) hb); clear hb))
  all_goals
    go_ret
    have HV := HV.out
    have HM := HM.out
    refine ⟨vbool (a := _) ?_, ?_⟩
    rotate_left
    first | exact HB.out | exact below_alloc (Below.refl _ _) _
    rw [← HM]
    unfold mayB
    clear HM HT
    first | (simp_all; done) | (subst HV; simp_all; done) | (simp_all; omega) | (by_cases hn0 : n = 0 <;> simp_all; done)
end Go.Proofs.YtaddlkokencbkaaDoor.May

/- value.May, told by one Bool. -/
namespace Go.Proofs.YtaddlkokencbkaaDoor.May3
open Go.RowKit Go.Proofs.YtaddlkokencbkaaDoorW.PrintWords Go.Proofs.YtaddlkokencbkaaDoorW.PrintLast Go.Proofs.YtaddlkokencbkaaDoorW.PrintMore Go.Proofs.YtaddlkokencbkaaDoor.May
set_option linter.unusedVariables false
theorem vmay_calls (k n : Int) (s : ByteArray) (b : Bool) (w : World) (hs : s.size ≤ 140737488355000) (hT : Shelf.Tabs w) (h : mayB k n s = b) :
    Calls Tryd.prog 31 #[.agg #[.int .i64 k, .int .i64 n, .string s]] w fun e w' => e = .returned (.bool b) ∧ Below w.heap.size w w' := by
  subst h
  exact may_calls k n s w hs hT
end Go.Proofs.YtaddlkokencbkaaDoor.May3
