/- Contracts of the library's functions, laid at this program by the shelf. -/
import Derived.Test.YtaddlkokencbkaaDoorProg
import Derived.Ground.NamesProg
import Derived.WalkKit
import Derived.WalkMore
import Derived.Below
import Derived.Shelf.Lay
import Derived.Shelf.Unicode.ValidAny
import Derived.Shelf.Strconv.Itoa3
import Derived.Shelf.Small.Strs
import Derived.Shelf.Small.Wraps
namespace Go.Proofs
open Go.RowKit Go.Shelf Go.Lib
shelf_lay Lays.n196 Nm 196 at Tryd as Tryd.laysValid
shelf_lay LaysM.n171 Nm 171 at Tryd as Tryd.laysItoa
shelf_lay Lays.n121 Nm 121 at Tryd as Tryd.laysBool
shelf_lay Lays.n106 Nm 106 at Tryd as Tryd.laysCmpS
shelf_lay Lays.n122 Nm 122 at Tryd as Tryd.laysCmpI
namespace YtaddlkokencbkaaDoor.Shelf
def Tabs (w : World) : Prop := Lib.Utf8Tabs (Tryd.laysValid_ren.g 3) (Tryd.laysValid_ren.g 4) w
def Pow (w : World) : Prop := Lib.TabIs Tryd.prog w "internal/strconv.uint64pow10" .u64 Lib.pow10Tab
theorem valid_calls (s : ByteArray) (w : World) (hs : s.size ≤ 9223372036854775807) (hT : Tabs w) :
    Calls Tryd.prog 54 #[.string s] w fun e w' => e = .returned (.bool (Lib.validD s.data.toList)) ∧ Below w.heap.size w w' := Any.utf8_ValidString Tryd.laysValid s w hs hT
theorem itoa_calls (n : Int) (h0 : -9223372036854775808 ≤ n) (h1 : n ≤ 9223372036854775807) (w : World) (htab : Pow w) :
    Calls Tryd.prog 51 #[.int .i64 n] w fun e w' => e = .returned (.string ⟨(Lib.itoa n).toArray⟩) ∧ ∃ k os, w' = Sort.grow (w.drewN k) os := Any.strconv_Itoa Tryd.laysItoa n h0 h1 w htab
theorem bool_calls (b : Bool) (w : World) : Calls Tryd.prog 50 #[.bool b] w fun e w' => e = .returned (.string ⟨(Lib.formatBool b).toArray⟩) ∧ w' = w := Any.strconv_FormatBool Tryd.laysBool b w
theorem cmpS_calls (a b : ByteArray) (w : World) : Calls Tryd.prog 57 #[.string a, .string b] w fun e w' => e = .returned (.int .i64 (Lib.compareBytes a.data.toList b.data.toList)) ∧ w' = w := Any.strings_Compare Tryd.laysCmpS a b w
theorem cmpI_calls (x y : Int) (w : World) : Calls Tryd.prog 56 #[.int .i64 x, .int .i64 y] w fun e w' => e = .returned (.int .i64 (Lib.compareInt x y)) ∧ w' = w := Any.cmp_Compare_int Tryd.laysCmpI x y w
end YtaddlkokencbkaaDoor.Shelf
end Go.Proofs
