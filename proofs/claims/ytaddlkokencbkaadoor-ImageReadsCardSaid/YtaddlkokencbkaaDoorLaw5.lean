/- pantographref05.Read, told by one answer; two readers side by side. -/
import Derived.Test.YtaddlkokencbkaaDoorLawT
import Derived.Test.YtaddlkokencbkaaDoorRead5
namespace Go.Proofs.YtaddlkokencbkaaDoor.Law5
open Go.RowKit Go.Proofs.YtaddlkokencbkaaDoorW.PrintWords Go.Proofs.YtaddlkokencbkaaDoorW.PrintLast Go.Proofs.YtaddlkokencbkaaDoorW.PrintMore Go.Proofs.YtaddlkokencbkaaDoor.Q Go.Proofs.YtaddlkokencbkaaDoor.Exact Go.Proofs.YtaddlkokencbkaaDoor.Shelf Go.Proofs.YtaddlkokencbkaaDoor.May Go.Proofs.YtaddlkokencbkaaDoor.Rd Go.Proofs.YtaddlkokencbkaaDoor.RdR Go.Proofs.YtaddlkokencbkaaDoor.RdN Go.Proofs.YtaddlkokencbkaaDoor.Fits Go.Proofs.YtaddlkokencbkaaDoor.Bits Go.Proofs.YtaddlkokencbkaaDoor.Row Go.Proofs.YtaddlkokencbkaaDoor.Take Go.Proofs.YtaddlkokencbkaaDoor.Read5
set_option linter.unusedVariables false
set_option linter.unusedSimpArgs false
def RP (w : World) (g : Nat) (ok : Bool) (vs : List V) (lf : List Int) (r : Ending) (w' : World) : Prop := (∃ A l c e, RdR w' g A l c e ∧ (ok = true → l = lf)) ∧ Off g w w' ∧ TakeR ok vs r w'
theorem read5_calls (w : World) (g : Nat) (A0 : Option Addr) (l0 : List Int) (c0 : Nat) (e0 : Int) (h : RdR w g A0 l0 c0 e0) (hb : ∀ x ∈ l0, 0 ≤ x ∧ x < 256) (B : Option Addr) (d n : Nat) (cs : List Col) (hn : cs.length = n) (hC : Kd.C k69 w B n cs) (hd : n ≤ d)
    (h1 : 1 ≤ n) (h8 : n ≤ 8) (hk : ∀ c ∈ cs, 1 ≤ c.f1 ∧ c.f1 ≤ 4) (ok : Bool) (vs : List V) (lf : List Int) (hok : okB cs (byteV l0 e0) (byteL l0 e0) (byteE l0 e0) = ok) (hvs : (rowR cs (byteV l0 e0) (byteL l0 e0) (byteE l0 e0)).1 = vs) (hlf : (rowR cs (byteV l0 e0) (byteL l0 e0) (byteE l0 e0)).2.1 = lf) :
    Calls Tryd.prog 16 #[.pointer (some ⟨g, 0, none⟩), .slice B n d] w fun r w' => RP w g ok vs lf r w' := by
  subst hn
  refine (read_calls w g A0 l0 c0 e0 h hb B d cs hC hd h1 h8 hk).mono fun r w' hp => ?_
  unfold ReadPost at hp
  rw [hok, hvs, hlf] at hp
  exact hp
/-! ### readers side by side -/
variable {W W1 : World} {g g2 c c2 : Nat} {A A2 : Option Addr} {l l2 : List Int} {e e2 : Int}
theorem RdR_offRd (h : RdR W g A l c e) (h2 : Rd W g2 A2 l2 c2 e2) (hne : g ≠ g2) (k : Off g2 W W1) : RdR W1 g A l c e := ⟨k.keep.blk h.1 hne (by simp), C_off h2.1 h.2.1 k, h.2.2⟩
theorem Rd_offRdR (h : Rd W g A l c e) (h2 : RdR W g2 A2 l2 c2 e2) (hne : g ≠ g2) (k : Off g2 W W1) : Rd W1 g A l c e := ⟨k.keep.blk h.1 hne (by simp), C_offR h2.1 h.2.1 k, h.2.2⟩
end Go.Proofs.YtaddlkokencbkaaDoor.Law5
