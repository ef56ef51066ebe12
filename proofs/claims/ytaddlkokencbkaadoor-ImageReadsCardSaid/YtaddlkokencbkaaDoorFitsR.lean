/- Whether a row fits columns, by the document (pantographref04.Fits). -/
import Derived.Test.YtaddlkokencbkaaDoorFits
import Derived.Test.YtaddlkokencbkaaDoorMay3
import Derived.Test.YtaddlkokencbkaaDoorQ5
namespace Go.Proofs.YtaddlkokencbkaaDoor.Fits
open Go.RowKit Go.Proofs.YtaddlkokencbkaaDoorW.PrintWords Go.Proofs.YtaddlkokencbkaaDoorW.PrintLast Go.Proofs.YtaddlkokencbkaaDoorW.PrintMore Go.Proofs.YtaddlkokencbkaaDoor.Q Go.Proofs.YtaddlkokencbkaaDoor.Shelf Go.Proofs.YtaddlkokencbkaaDoor.May
set_option linter.unusedVariables false
set_option linter.unusedSimpArgs false
/-! ### the document's -/
theorem stands_f (c : Col) (v : V) (hs : v.f2.size ≤ 140737488355000) : pantographref04_stands.f c.f0 c.f1 c.f2 v.f0 v.f1 v.f2 = some (standB c v) := by
  unfold pantographref04_stands.f standB
  rw [May3.may_f _ _ _ (by omega), Option.bind_some]
  cases mayB v.f0 v.f1 v.f2
  · rfl
  · by_cases h1 : v.f0 = c.f1
    · simp [h1]
    · by_cases h2 : v.f0 = 0
      · rw [h2] at h1
        simp [h1, h2]
      · simp [h1, h2]
theorem fits_l0 (cs : List Col) (a : Int) (vs : List V) (hl : vs.length = cs.length) (hn : vs.length ≤ 100000) (hs : Short vs) : ∀ (d i : Nat), vs.length - i = d → i ≤ vs.length → Ev (fun k => pantographref04_Fits.l0 k vs (i : Int) cs a) (fitsB (cs.drop i) (vs.drop i)) := by
  intro d
  induction d with
  | zero =>
    intro i hd hi
    refine ⟨1, fun k hk => ?_⟩
    obtain ⟨k, rfl⟩ : ∃ j, k = j + 1 := ⟨k - 1, by omega⟩
    rw [List.drop_eq_nil_of_le (by omega), List.drop_eq_nil_of_le (by omega)]
    dsimp only
    rw [pantographref04_Fits.l0, if_neg (by omega)]
    rfl
  | succ d ih =>
    intro i hd hi
    obtain ⟨K, hK⟩ := ih (i + 1) (by omega) (by omega)
    have e : wrap64 ((i : Int) + 1) = ((i + 1 : Nat) : Int) := by unfold wrap64; omega
    refine ⟨K + 1, fun k hk => ?_⟩
    obtain ⟨k, rfl⟩ : ∃ j, k = j + 1 := ⟨k - 1, by omega⟩
    dsimp only
    rw [pantographref04_Fits.l0, if_pos (by omega), if_pos (by omega), if_pos (by omega), stands_f _ _ (hs _ (val_mem vs i (by omega))), Option.bind_some, e, col_drop cs i (by omega), val_drop vs i (by omega), fitsB]
    cases standB (rd_T69 cs (i : Int)) (rd_T51 vs (i : Int))
    · rfl
    · rw [if_pos rfl, Bool.true_and]
      exact hK k (by omega)
theorem fits_f (cs : List Col) (a : Int) (vs : List V) (hn : vs.length ≤ 100000) (hs : Short vs) : Ev (fun k => pantographref04_Fits.f k cs a vs) (fitsB cs vs) := by
  by_cases hl : vs.length = cs.length
  · obtain ⟨K, hK⟩ := fits_l0 cs a vs hl hn hs vs.length 0 (by omega) (by omega)
    refine ⟨K, fun k hk => ?_⟩
    have := hK k hk
    simp only [pantographref04_Fits.f]
    rw [if_pos (by omega)]
    exact this
  · refine ⟨0, fun k hk => ?_⟩
    have : fitsB cs vs = false := by
      cases h : fitsB cs vs
      · rfl
      · exact absurd (fitsB_len h) hl
    simp only [pantographref04_Fits.f]
    rw [if_neg (by omega), this]
theorem reffits_calls (w : World) (A B : Option Addr) (c d : Nat) (cs : List Col) (a : Int) (vs : List V) (hA : Kd.C k69 w A cs.length cs) (hc : cs.length ≤ c) (hB : Kd.C k51 w B vs.length vs) (hd : vs.length ≤ d) (hn : vs.length ≤ 100000) (hs : Short vs) :
    Calls Tryd.prog 46 #[.agg #[.slice A cs.length c, .int .i64 a], .slice B vs.length d] w fun e w' => e = .returned (.bool (fitsB cs vs)) ∧ Below w.heap.size w w' := by
  obtain ⟨K, hK⟩ := fits_f cs a vs hn hs
  exact pantographref04_Fits.calls K A c cs a B d vs _ w hA hc hB hd (hK K (Nat.le_refl _))
end Go.Proofs.YtaddlkokencbkaaDoor.Fits
