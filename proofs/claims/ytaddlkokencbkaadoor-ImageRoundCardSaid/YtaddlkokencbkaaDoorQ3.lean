/- Printed by this session's myprint.py out of the translation: functions of the program as Lean functions, and that the program's calls come to them. -/
import Derived.Test.YtaddlkokencbkaaDoorQ0
import Derived.Test.YtaddlkokencbkaaDoorQ2
namespace Go.Proofs.YtaddlkokencbkaaDoor.Q
open Go.RowKit Go.Proofs.YtaddlkokencbkaaDoorW.PrintWords Go.Proofs.YtaddlkokencbkaaDoorW.PrintLast Go.Proofs.YtaddlkokencbkaaDoorW.PrintMore
attribute [local go_sem] max2_int min2_int max_two min_two max_three min_three max_four min_four   -- for this text's walks alone
set_option linter.unusedVariables false
set_option linter.unusedSimpArgs false

/-! ### pantographref04_Good: function 12 -/
mutual
def pantographref04_Good.l0 : Nat → List ByteArray → Int → List (S69) → Int → List (S69) → Int → Option ((List (S69)) × Int)
 | 0, _, _, _, _, _, _ => none
 | k + 1, x4, x5, x104000, x104001, x106000, x106001 => if x5 < (x104000.length : Int) then (pantographref04_Good.j1 k x4 x5 (decide (x5 < 6)) x104000 x104001 x106000 x106001) else (pantographref04_Good.j1 k x4 x5 false x104000 x104001 x106000 x106001)
def pantographref04_Good.j1 : Nat → List ByteArray → Int → Bool → List (S69) → Int → List (S69) → Int → Option ((List (S69)) × Int)
 | 0, _, _, _, _, _, _, _ => none
 | k + 1, x4, x5, x20, x104000, x104001, x106000, x106001 => if x20 = true then (if 0 ≤ x5 then (if x5 < (x104000.length : Int) then (if ((rd_T69 x104000 x5).f1) < 0 then (pantographref04_Good.j2 k x4 x5 (wrap64 (-(wrap64 (((rd_T69 x104000 x5).f1) + 1)))) x104000 x104001 x106000 x106001 ((rd_T69 x104000 x5).f0) ((rd_T69 x104000 x5).f1) ((rd_T69 x104000 x5).f2)) else (pantographref04_Good.j2 k x4 x5 ((rd_T69 x104000 x5).f1) x104000 x104001 x106000 x106001 ((rd_T69 x104000 x5).f0) ((rd_T69 x104000 x5).f1) ((rd_T69 x104000 x5).f2))) else (none)) else (none)) else (if (x106000.length : Int) = 0 then (if x106000.length < 4398046511104 then (pantographref04_Good.j4 k x104000 x104001 (x106000 ++ [(⟨(⟨#[105, 100]⟩ : ByteArray), 2, false⟩ : S69)]) x106001) else (none)) else (pantographref04_Good.j4 k x104000 x104001 x106000 x106001))
def pantographref04_Good.j2 : Nat → List ByteArray → Int → Int → List (S69) → Int → List (S69) → Int → ByteArray → Int → Bool → Option ((List (S69)) × Int)
 | 0, _, _, _, _, _, _, _, _, _, _ => none
 | k + 1, x4, x5, x7, x104000, x104001, x106000, x106001, x111000, x111001, x111002 => (pantographref04_Name.f k x111000).bind fun t111 => (if t111 = true then ((pantographref04_Find.f k x106000 x106001 x111000).bind fun t112 => (pantographref04_Good.j3 k x4 x5 (decide (t112 ≥ 0)) x104000 x104001 x106000 x106001 x111000 (wrap64 (1 + (Int.tmod x7 4))) x111002)) else (pantographref04_Good.j3 k x4 x5 true x104000 x104001 x106000 x106001 x111000 (wrap64 (1 + (Int.tmod x7 4))) x111002))
def pantographref04_Good.j3 : Nat → List ByteArray → Int → Bool → List (S69) → Int → List (S69) → Int → ByteArray → Int → Bool → Option ((List (S69)) × Int)
 | 0, _, _, _, _, _, _, _, _, _, _ => none
 | k + 1, x4, x5, x50, x104000, x104001, x106000, x106001, x111000, x111001, x111002 => if x50 = true then (if 0 ≤ x5 then (if x5 < (x4.length : Int) then ((pantographref04_Find.f k x106000 x106001 (rdOf ByteArray.empty x4 x5)).bind fun t114 => (if t114 < 0 then (if x106000.length < 4398046511104 then (pantographref04_Good.l0 k x4 (wrap64 (x5 + 1)) x104000 x104001 (x106000 ++ [(⟨rdOf ByteArray.empty x4 x5, x111001, x111002⟩ : S69)]) x106001) else (none)) else (pantographref04_Good.l0 k x4 (wrap64 (x5 + 1)) x104000 x104001 x106000 x106001))) else (none)) else (none)) else ((pantographref04_Find.f k x106000 x106001 x111000).bind fun t118 => (if t118 < 0 then (if x106000.length < 4398046511104 then (pantographref04_Good.l0 k x4 (wrap64 (x5 + 1)) x104000 x104001 (x106000 ++ [(⟨x111000, x111001, x111002⟩ : S69)]) x106001) else (none)) else (pantographref04_Good.l0 k x4 (wrap64 (x5 + 1)) x104000 x104001 x106000 x106001)))
def pantographref04_Good.j4 : Nat → List (S69) → Int → List (S69) → Int → Option ((List (S69)) × Int)
 | 0, _, _, _, _ => none
 | k + 1, x104000, x104001, x106000, x106001 => if x104001 < 0 then (pantographref04_Good.j5 k (wrap64 (-(wrap64 (x104001 + 1)))) x106000 x106001) else (pantographref04_Good.j5 k x104001 x106000 x106001)
def pantographref04_Good.j5 : Nat → Int → List (S69) → Int → Option ((List (S69)) × Int)
 | 0, _, _, _ => none
 | k + 1, x9, x106000, x106001 => if (mn (x106000.length : Int) 3) = 0 then (none) else (pantographref04_Good.l1 k 0 x106000 (wrap64 (1 + (Int.tmod x9 (mn (x106000.length : Int) 3)))))
def pantographref04_Good.l1 : Nat → Int → List (S69) → Int → Option ((List (S69)) × Int)
 | 0, _, _, _ => none
 | k + 1, x10, x106000, x106001 => if x10 < x106001 then (if 0 ≤ x10 then (if x10 < (x106000.length : Int) then (pantographref04_Good.l1 k (wrap64 (x10 + 1)) (x106000.set (x10 : Int).toNat (⟨(rd_T69 x106000 x10).f0, (rd_T69 x106000 x10).f1, false⟩ : S69)) x106001) else (none)) else (none)) else (some (x106000, x106001))
end
def pantographref04_Good.f (k : Nat) (l0_0 : List (S69)) (a0_1 : Int) : Option ((List (S69)) × Int) := pantographref04_Good.l0 k (([(⟨#[105, 100]⟩ : ByteArray), (⟨#[110, 97, 109, 101]⟩ : ByteArray), (⟨#[110]⟩ : ByteArray), (⟨#[102, 108, 97, 103]⟩ : ByteArray), (⟨#[114, 97, 119]⟩ : ByteArray), (⟨#[120]⟩ : ByteArray)] : List ByteArray)) 0 l0_0 a0_1 ([] : List (S69)) 0
theorem pantographref04_Good.mono_l : ∀ k, (∀ y0 y1 y2 y3 y4 y5, LeO (pantographref04_Good.l0 k y0 y1 y2 y3 y4 y5) (pantographref04_Good.l0 (k + 1) y0 y1 y2 y3 y4 y5)) ∧ (∀ y0 y1 y2 y3 y4 y5 y6, LeO (pantographref04_Good.j1 k y0 y1 y2 y3 y4 y5 y6) (pantographref04_Good.j1 (k + 1) y0 y1 y2 y3 y4 y5 y6)) ∧ (∀ y0 y1 y2 y3 y4 y5 y6 y7 y8 y9, LeO (pantographref04_Good.j2 k y0 y1 y2 y3 y4 y5 y6 y7 y8 y9) (pantographref04_Good.j2 (k + 1) y0 y1 y2 y3 y4 y5 y6 y7 y8 y9)) ∧ (∀ y0 y1 y2 y3 y4 y5 y6 y7 y8 y9, LeO (pantographref04_Good.j3 k y0 y1 y2 y3 y4 y5 y6 y7 y8 y9) (pantographref04_Good.j3 (k + 1) y0 y1 y2 y3 y4 y5 y6 y7 y8 y9)) ∧ (∀ y0 y1 y2 y3, LeO (pantographref04_Good.j4 k y0 y1 y2 y3) (pantographref04_Good.j4 (k + 1) y0 y1 y2 y3)) ∧ (∀ y0 y1 y2, LeO (pantographref04_Good.j5 k y0 y1 y2) (pantographref04_Good.j5 (k + 1) y0 y1 y2)) ∧ (∀ y0 y1 y2, LeO (pantographref04_Good.l1 k y0 y1 y2) (pantographref04_Good.l1 (k + 1) y0 y1 y2))
 | 0 => ⟨fun _ _ _ _ _ _ r h => by simp [pantographref04_Good.l0] at h, fun _ _ _ _ _ _ _ r h => by simp [pantographref04_Good.j1] at h, fun _ _ _ _ _ _ _ _ _ _ r h => by simp [pantographref04_Good.j2] at h, fun _ _ _ _ _ _ _ _ _ _ r h => by simp [pantographref04_Good.j3] at h, fun _ _ _ _ r h => by simp [pantographref04_Good.j4] at h, fun _ _ _ r h => by simp [pantographref04_Good.j5] at h, fun _ _ _ r h => by simp [pantographref04_Good.l1] at h⟩
 | k + 1 => by
  obtain ⟨ih0, ih1, ih2, ih3, ih4, ih5, ih6⟩ := pantographref04_Good.mono_l k
  refine ⟨?_, ?_, ?_, ?_, ?_, ?_, ?_⟩
  ·intro y0 y1 y2 y3 y4 y5
   unfold pantographref04_Good.l0
   repeat' first
   | (with_reducible exact ih0 _ _ _ _ _ _)
   | (with_reducible exact ih1 _ _ _ _ _ _ _)
   | (with_reducible exact ih2 _ _ _ _ _ _ _ _ _ _)
   | (with_reducible exact ih3 _ _ _ _ _ _ _ _ _ _)
   | (with_reducible exact ih4 _ _ _ _)
   | (with_reducible exact ih5 _ _ _)
   | (with_reducible exact ih6 _ _ _)
   | (with_reducible exact pantographref04_Find.mono _ _ _ _)
   | (with_reducible exact pantographref04_Name.mono _ _)
   | (with_reducible exact LeO.refl _)
   | (with_reducible exact LeO.none _)
   | (with_reducible refine LeO.ite ?_ ?_)
   | (with_reducible refine LeO.bind ?_ (fun _ => ?_))
   | exact ih0 _ _ _ _ _ _
   | exact ih1 _ _ _ _ _ _ _
   | exact ih2 _ _ _ _ _ _ _ _ _ _
   | exact ih3 _ _ _ _ _ _ _ _ _ _
   | exact ih4 _ _ _ _
   | exact ih5 _ _ _
   | exact ih6 _ _ _
   | exact pantographref04_Find.mono _ _ _ _
   | exact pantographref04_Name.mono _ _
   | exact LeO.none _
   | refine LeO.ite ?_ ?_
   | refine LeO.bind ?_ (fun _ => ?_)
  ·intro y0 y1 y2 y3 y4 y5 y6
   unfold pantographref04_Good.j1
   repeat' first
   | (with_reducible exact ih0 _ _ _ _ _ _)
   | (with_reducible exact ih1 _ _ _ _ _ _ _)
   | (with_reducible exact ih2 _ _ _ _ _ _ _ _ _ _)
   | (with_reducible exact ih3 _ _ _ _ _ _ _ _ _ _)
   | (with_reducible exact ih4 _ _ _ _)
   | (with_reducible exact ih5 _ _ _)
   | (with_reducible exact ih6 _ _ _)
   | (with_reducible exact pantographref04_Find.mono _ _ _ _)
   | (with_reducible exact pantographref04_Name.mono _ _)
   | (with_reducible exact LeO.refl _)
   | (with_reducible exact LeO.none _)
   | (with_reducible refine LeO.ite ?_ ?_)
   | (with_reducible refine LeO.bind ?_ (fun _ => ?_))
   | exact ih0 _ _ _ _ _ _
   | exact ih1 _ _ _ _ _ _ _
   | exact ih2 _ _ _ _ _ _ _ _ _ _
   | exact ih3 _ _ _ _ _ _ _ _ _ _
   | exact ih4 _ _ _ _
   | exact ih5 _ _ _
   | exact ih6 _ _ _
   | exact pantographref04_Find.mono _ _ _ _
   | exact pantographref04_Name.mono _ _
   | exact LeO.none _
   | refine LeO.ite ?_ ?_
   | refine LeO.bind ?_ (fun _ => ?_)
  ·intro y0 y1 y2 y3 y4 y5 y6 y7 y8 y9
   unfold pantographref04_Good.j2
   repeat' first
   | (with_reducible exact ih0 _ _ _ _ _ _)
   | (with_reducible exact ih1 _ _ _ _ _ _ _)
   | (with_reducible exact ih2 _ _ _ _ _ _ _ _ _ _)
   | (with_reducible exact ih3 _ _ _ _ _ _ _ _ _ _)
   | (with_reducible exact ih4 _ _ _ _)
   | (with_reducible exact ih5 _ _ _)
   | (with_reducible exact ih6 _ _ _)
   | (with_reducible exact pantographref04_Find.mono _ _ _ _)
   | (with_reducible exact pantographref04_Name.mono _ _)
   | (with_reducible exact LeO.refl _)
   | (with_reducible exact LeO.none _)
   | (with_reducible refine LeO.ite ?_ ?_)
   | (with_reducible refine LeO.bind ?_ (fun _ => ?_))
   | exact ih0 _ _ _ _ _ _
   | exact ih1 _ _ _ _ _ _ _
   | exact ih2 _ _ _ _ _ _ _ _ _ _
   | exact ih3 _ _ _ _ _ _ _ _ _ _
   | exact ih4 _ _ _ _
   | exact ih5 _ _ _
   | exact ih6 _ _ _
   | exact pantographref04_Find.mono _ _ _ _
   | exact pantographref04_Name.mono _ _
   | exact LeO.none _
   | refine LeO.ite ?_ ?_
   | refine LeO.bind ?_ (fun _ => ?_)
  ·intro y0 y1 y2 y3 y4 y5 y6 y7 y8 y9
   unfold pantographref04_Good.j3
   repeat' first
   | (with_reducible exact ih0 _ _ _ _ _ _)
   | (with_reducible exact ih1 _ _ _ _ _ _ _)
   | (with_reducible exact ih2 _ _ _ _ _ _ _ _ _ _)
   | (with_reducible exact ih3 _ _ _ _ _ _ _ _ _ _)
   | (with_reducible exact ih4 _ _ _ _)
   | (with_reducible exact ih5 _ _ _)
   | (with_reducible exact ih6 _ _ _)
   | (with_reducible exact pantographref04_Find.mono _ _ _ _)
   | (with_reducible exact pantographref04_Name.mono _ _)
   | (with_reducible exact LeO.refl _)
   | (with_reducible exact LeO.none _)
   | (with_reducible refine LeO.ite ?_ ?_)
   | (with_reducible refine LeO.bind ?_ (fun _ => ?_))
   | exact ih0 _ _ _ _ _ _
   | exact ih1 _ _ _ _ _ _ _
   | exact ih2 _ _ _ _ _ _ _ _ _ _
   | exact ih3 _ _ _ _ _ _ _ _ _ _
   | exact ih4 _ _ _ _
   | exact ih5 _ _ _
   | exact ih6 _ _ _
   | exact pantographref04_Find.mono _ _ _ _
   | exact pantographref04_Name.mono _ _
   | exact LeO.none _
   | refine LeO.ite ?_ ?_
   | refine LeO.bind ?_ (fun _ => ?_)
  ·intro y0 y1 y2 y3
   unfold pantographref04_Good.j4
   repeat' first
   | (with_reducible exact ih0 _ _ _ _ _ _)
   | (with_reducible exact ih1 _ _ _ _ _ _ _)
   | (with_reducible exact ih2 _ _ _ _ _ _ _ _ _ _)
   | (with_reducible exact ih3 _ _ _ _ _ _ _ _ _ _)
   | (with_reducible exact ih4 _ _ _ _)
   | (with_reducible exact ih5 _ _ _)
   | (with_reducible exact ih6 _ _ _)
   | (with_reducible exact pantographref04_Find.mono _ _ _ _)
   | (with_reducible exact pantographref04_Name.mono _ _)
   | (with_reducible exact LeO.refl _)
   | (with_reducible exact LeO.none _)
   | (with_reducible refine LeO.ite ?_ ?_)
   | (with_reducible refine LeO.bind ?_ (fun _ => ?_))
   | exact ih0 _ _ _ _ _ _
   | exact ih1 _ _ _ _ _ _ _
   | exact ih2 _ _ _ _ _ _ _ _ _ _
   | exact ih3 _ _ _ _ _ _ _ _ _ _
   | exact ih4 _ _ _ _
   | exact ih5 _ _ _
   | exact ih6 _ _ _
   | exact pantographref04_Find.mono _ _ _ _
   | exact pantographref04_Name.mono _ _
   | exact LeO.none _
   | refine LeO.ite ?_ ?_
   | refine LeO.bind ?_ (fun _ => ?_)
  ·intro y0 y1 y2
   unfold pantographref04_Good.j5
   repeat' first
   | (with_reducible exact ih0 _ _ _ _ _ _)
   | (with_reducible exact ih1 _ _ _ _ _ _ _)
   | (with_reducible exact ih2 _ _ _ _ _ _ _ _ _ _)
   | (with_reducible exact ih3 _ _ _ _ _ _ _ _ _ _)
   | (with_reducible exact ih4 _ _ _ _)
   | (with_reducible exact ih5 _ _ _)
   | (with_reducible exact ih6 _ _ _)
   | (with_reducible exact pantographref04_Find.mono _ _ _ _)
   | (with_reducible exact pantographref04_Name.mono _ _)
   | (with_reducible exact LeO.refl _)
   | (with_reducible exact LeO.none _)
   | (with_reducible refine LeO.ite ?_ ?_)
   | (with_reducible refine LeO.bind ?_ (fun _ => ?_))
   | exact ih0 _ _ _ _ _ _
   | exact ih1 _ _ _ _ _ _ _
   | exact ih2 _ _ _ _ _ _ _ _ _ _
   | exact ih3 _ _ _ _ _ _ _ _ _ _
   | exact ih4 _ _ _ _
   | exact ih5 _ _ _
   | exact ih6 _ _ _
   | exact pantographref04_Find.mono _ _ _ _
   | exact pantographref04_Name.mono _ _
   | exact LeO.none _
   | refine LeO.ite ?_ ?_
   | refine LeO.bind ?_ (fun _ => ?_)
  ·intro y0 y1 y2
   unfold pantographref04_Good.l1
   repeat' first
   | (with_reducible exact ih0 _ _ _ _ _ _)
   | (with_reducible exact ih1 _ _ _ _ _ _ _)
   | (with_reducible exact ih2 _ _ _ _ _ _ _ _ _ _)
   | (with_reducible exact ih3 _ _ _ _ _ _ _ _ _ _)
   | (with_reducible exact ih4 _ _ _ _)
   | (with_reducible exact ih5 _ _ _)
   | (with_reducible exact ih6 _ _ _)
   | (with_reducible exact pantographref04_Find.mono _ _ _ _)
   | (with_reducible exact pantographref04_Name.mono _ _)
   | (with_reducible exact LeO.refl _)
   | (with_reducible exact LeO.none _)
   | (with_reducible refine LeO.ite ?_ ?_)
   | (with_reducible refine LeO.bind ?_ (fun _ => ?_))
   | exact ih0 _ _ _ _ _ _
   | exact ih1 _ _ _ _ _ _ _
   | exact ih2 _ _ _ _ _ _ _ _ _ _
   | exact ih3 _ _ _ _ _ _ _ _ _ _
   | exact ih4 _ _ _ _
   | exact ih5 _ _ _
   | exact ih6 _ _ _
   | exact pantographref04_Find.mono _ _ _ _
   | exact pantographref04_Name.mono _ _
   | exact LeO.none _
   | refine LeO.ite ?_ ?_
   | refine LeO.bind ?_ (fun _ => ?_)
theorem pantographref04_Good.mono : ∀ a0 a1 k, LeO (pantographref04_Good.f k a0 a1) (pantographref04_Good.f (k + 1) a0 a1) := by
 intro a0 a1 k
 obtain ⟨ih0, ih1, ih2, ih3, ih4, ih5, ih6⟩ := pantographref04_Good.mono_l k
 unfold pantographref04_Good.f
 repeat' first
   | (with_reducible exact ih0 _ _ _ _ _ _)
   | (with_reducible exact ih1 _ _ _ _ _ _ _)
   | (with_reducible exact ih2 _ _ _ _ _ _ _ _ _ _)
   | (with_reducible exact ih3 _ _ _ _ _ _ _ _ _ _)
   | (with_reducible exact ih4 _ _ _ _)
   | (with_reducible exact ih5 _ _ _)
   | (with_reducible exact ih6 _ _ _)
   | (with_reducible exact pantographref04_Find.mono _ _ _ _)
   | (with_reducible exact pantographref04_Name.mono _ _)
   | (with_reducible exact LeO.refl _)
   | (with_reducible exact LeO.none _)
   | (with_reducible refine LeO.ite ?_ ?_)
   | (with_reducible refine LeO.bind ?_ (fun _ => ?_))
   | exact ih0 _ _ _ _ _ _
   | exact ih1 _ _ _ _ _ _ _
   | exact ih2 _ _ _ _ _ _ _ _ _ _
   | exact ih3 _ _ _ _ _ _ _ _ _ _
   | exact ih4 _ _ _ _
   | exact ih5 _ _ _
   | exact ih6 _ _ _
   | exact pantographref04_Find.mono _ _ _ _
   | exact pantographref04_Name.mono _ _
   | exact LeO.none _
   | refine LeO.ite ?_ ?_
   | refine LeO.bind ?_ (fun _ => ?_)
set_option maxHeartbeats 8000000 in
set_option maxRecDepth 100000 in
theorem pantographref04_Good.calls (k : Nat) (A0_0 : Option Addr) (c0_0 : Nat) (l0_0 : List (S69)) (a0_1 : Int) (r1 : List (S69)) (r2 : Int) (w : World) (hr0_0 : Kd.C k69 w A0_0 l0_0.length l0_0) (hc0_0 : l0_0.length ≤ c0_0) (h : pantographref04_Good.f k l0_0 a0_1 = some (r1, r2)) :
  Calls Tryd.prog 12 #[.agg #[.slice A0_0 l0_0.length c0_0, .int .i64 a0_1]] w fun e w' => ∃ v0_ : Value, e = .returned (.agg #[v0_, .int .i64 r2]) ∧ Kd.R k69 69 w' w.heap.size (fun _ => True) v0_ r1 ∧ Below w.heap.size w w' := by
 have hu24 := Tryd.underlying24
 have hu69 := Tryd.underlying69
 have HR0_0 := Aside0.mk hr0_0
 have HC0_0 := Aside0.mk hc0_0
 clear hr0_0 hc0_0
 have HB := Aside0.mk (Below.refl w.heap.size w)
 have H : (pantographref04_Good.l0 k (([(⟨#[105, 100]⟩ : ByteArray), (⟨#[110, 97, 109, 101]⟩ : ByteArray), (⟨#[110]⟩ : ByteArray), (⟨#[102, 108, 97, 103]⟩ : ByteArray), (⟨#[114, 97, 119]⟩ : ByteArray), (⟨#[120]⟩ : ByteArray)] : List ByteArray)) 0 l0_0 a0_1 ([] : List (S69)) 0) = some (r1, r2) := h
 clear h
 obtain ⟨y106, hy106⟩ : ∃ y_ : List ByteArray, y_ = (([(⟨#[105, 100]⟩ : ByteArray), (⟨#[110, 97, 109, 101]⟩ : ByteArray), (⟨#[110]⟩ : ByteArray), (⟨#[102, 108, 97, 103]⟩ : ByteArray), (⟨#[114, 97, 119]⟩ : ByteArray), (⟨#[120]⟩ : ByteArray)] : List ByteArray)) := ⟨_, rfl⟩
 replace H : (pantographref04_Good.l0 k y106 0 l0_0 a0_1 ([] : List (S69)) 0) = some (r1, r2) := by first | (rw [hy106]; with_reducible exact H) | (have H2_ := (Option.bind_some _ _).symm.trans H; rw [hy106]; with_reducible exact H2_) | (have H2_ := (Option.bind_some _ _).symm.trans H; with_reducible exact H2_) | with_reducible exact H | (rw [hy106]; exact H) | exact H
 have Ny106 := Aside0.mk hy106
 clear hy106
 have H' := Aside0.mk H
 clear H
 go_enter Tryd.func12, Tryd.ntmps12
 go_wp2_with (first | ((with_reducible refine gate_dst (N := 1) rfl ?_); refine box_event ?hg (N := 1) ?hd (cs := #[.slice A0_0 l0_0.length c0_0, .int .i64 a0_1]) (t := 24) ?hr ?_; (case hd => rfl); (case hg => rfl); (case hr => first | (go_simp; done) | (go_simp; rfl)); intro gb103 hg w2 hbox hb; have n0_ := Aside0.mk (below_step (by repeat (first | (with_reducible first | exact HB.out | apply below_alloc | apply pw_below_drewN | apply below_drew1) | exact HB.out)) hb); have n1_ := Aside0.mk (hbox); have n2_ := Aside0.mk ((by rw [hg]; exact (below_size (by repeat (first | (with_reducible first | exact HB.out | apply below_alloc | apply pw_below_drewN | apply below_drew1) | exact HB.out))) : w.heap.size ≤ gb103)); have n3_ := Aside0.mk ((by rw [hg]; exact (below_size (by repeat (first | (with_reducible first | exact HB.out | apply below_alloc | apply pw_below_drewN | apply below_drew1) | exact HB.out))) : w.heap.size ≤ gb103)); clear HB; have HB := n0_; have BK103 := n1_; have GW103 := n2_; have GE103 := n3_; clear n0_ n1_ n2_ n3_; clear hb hbox hg) | ((with_reducible refine gate_dst (N := 2) rfl ?_); refine box_event ?hg (N := 2) ?hd (cs := #[.slice none 0 0, .int .i64 0]) (t := 24) ?hr ?_; (case hd => rfl); (case hg => rfl); (case hr => first | (go_simp; done) | (go_simp; rfl)); intro gb104 hg w3 hbox hb; have n0_ := Aside0.mk (blk_below (g := gb103) (o := .cells #[.slice A0_0 l0_0.length c0_0, .int .i64 a0_1] 24 (0, 0)) (by (with_reducible repeat (first | refine blk_drewN ?_ _ | refine blk_drew ?_ | refine blk_alloc ?_ _)); exact BK103.out) hb); have n1_ := Aside0.mk (below_step (by repeat (first | (with_reducible first | exact HB.out | apply below_alloc | apply pw_below_drewN | apply below_drew1 | refine below_set ?_ GE103.out) | exact HB.out)) hb); have n2_ := Aside0.mk (hbox); have n3_ := Aside0.mk ((by rw [hg]; exact (below_size (by repeat (first | (with_reducible first | exact HB.out | apply below_alloc | apply pw_below_drewN | apply below_drew1 | refine below_set ?_ GE103.out) | exact HB.out))) : w.heap.size ≤ gb104)); have n4_ := Aside0.mk ((by rw [hg]; exact (below_size (by repeat (first | (with_reducible first | exact HB.out | apply below_alloc | apply pw_below_drewN | apply below_drew1 | refine below_set ?_ GE103.out) | exact HB.out))) : w.heap.size ≤ gb104)); have n5_ := Aside0.mk ((by rw [hg]; exact Nat.ne_of_lt (blk_lt (g := gb103) (o := .cells #[.slice A0_0 l0_0.length c0_0, .int .i64 a0_1] 24 (0, 0)) (by (with_reducible repeat (first | refine blk_drewN ?_ _ | refine blk_drew ?_ | refine blk_alloc ?_ _)); exact BK103.out)) : gb103 ≠ gb104)); have n6_ := Aside0.mk ((by rw [hg]; exact Nat.ne_of_gt (blk_lt (g := gb103) (o := .cells #[.slice A0_0 l0_0.length c0_0, .int .i64 a0_1] 24 (0, 0)) (by (with_reducible repeat (first | refine blk_drewN ?_ _ | refine blk_drew ?_ | refine blk_alloc ?_ _)); exact BK103.out)) : gb104 ≠ gb103)); clear BK103; clear HB; have BK103 := n0_; have HB := n1_; have BK104 := n2_; have GW104 := n3_; have GE104 := n4_; have NB103_104 := n5_; have NB104_103 := n6_; clear n0_ n1_ n2_ n3_ n4_ n5_ n6_; clear hb hbox hg) | ((with_reducible refine gate_dst (N := 3) rfl ?_); refine box_event ?hg (N := 3) ?hd (cs := #[.slice none 0 0, .int .i64 0]) (t := 24) ?hr ?_; (case hd => rfl); (case hg => rfl); (case hr => first | (go_simp; done) | (go_simp; rfl)); intro gb105 hg w4 hbox hb; have n0_ := Aside0.mk (blk_below (g := gb103) (o := .cells #[.slice A0_0 l0_0.length c0_0, .int .i64 a0_1] 24 (0, 0)) (by (with_reducible repeat (first | refine blk_drewN ?_ _ | refine blk_drew ?_ | refine blk_alloc ?_ _)); exact BK103.out) hb); have n1_ := Aside0.mk (blk_below (g := gb104) (o := .cells #[.slice none 0 0, .int .i64 0] 24 (0, 0)) (by (with_reducible repeat (first | refine blk_drewN ?_ _ | refine blk_drew ?_ | refine blk_alloc ?_ _)); exact BK104.out) hb); have n2_ := Aside0.mk (below_step (by repeat (first | (with_reducible first | exact HB.out | apply below_alloc | apply pw_below_drewN | apply below_drew1 | refine below_set ?_ GE103.out | refine below_set ?_ GE104.out) | exact HB.out)) hb); have n3_ := Aside0.mk (hbox); have n4_ := Aside0.mk ((by rw [hg]; exact (below_size (by repeat (first | (with_reducible first | exact HB.out | apply below_alloc | apply pw_below_drewN | apply below_drew1 | refine below_set ?_ GE103.out | refine below_set ?_ GE104.out) | exact HB.out))) : w.heap.size ≤ gb105)); have n5_ := Aside0.mk ((by rw [hg]; exact (below_size (by repeat (first | (with_reducible first | exact HB.out | apply below_alloc | apply pw_below_drewN | apply below_drew1 | refine below_set ?_ GE103.out | refine below_set ?_ GE104.out) | exact HB.out))) : w.heap.size ≤ gb105)); have n6_ := Aside0.mk ((by rw [hg]; exact Nat.ne_of_lt (blk_lt (g := gb103) (o := .cells #[.slice A0_0 l0_0.length c0_0, .int .i64 a0_1] 24 (0, 0)) (by (with_reducible repeat (first | refine blk_drewN ?_ _ | refine blk_drew ?_ | refine blk_alloc ?_ _)); exact BK103.out)) : gb103 ≠ gb105)); have n7_ := Aside0.mk ((by rw [hg]; exact Nat.ne_of_gt (blk_lt (g := gb103) (o := .cells #[.slice A0_0 l0_0.length c0_0, .int .i64 a0_1] 24 (0, 0)) (by (with_reducible repeat (first | refine blk_drewN ?_ _ | refine blk_drew ?_ | refine blk_alloc ?_ _)); exact BK103.out)) : gb105 ≠ gb103)); have n8_ := Aside0.mk ((by rw [hg]; exact Nat.ne_of_lt (blk_lt (g := gb104) (o := .cells #[.slice none 0 0, .int .i64 0] 24 (0, 0)) (by (with_reducible repeat (first | refine blk_drewN ?_ _ | refine blk_drew ?_ | refine blk_alloc ?_ _)); exact BK104.out)) : gb104 ≠ gb105)); have n9_ := Aside0.mk ((by rw [hg]; exact Nat.ne_of_gt (blk_lt (g := gb104) (o := .cells #[.slice none 0 0, .int .i64 0] 24 (0, 0)) (by (with_reducible repeat (first | refine blk_drewN ?_ _ | refine blk_drew ?_ | refine blk_alloc ?_ _)); exact BK104.out)) : gb105 ≠ gb104)); clear BK103; clear BK104; clear HB; have BK103 := n0_; have BK104 := n1_; have HB := n2_; have BK105 := n3_; have GW105 := n4_; have GE105 := n5_; have NB103_105 := n6_; have NB105_103 := n7_; have NB104_105 := n8_; have NB105_104 := n9_; clear n0_ n1_ n2_ n3_ n4_ n5_ n6_ n7_ n8_ n9_; clear hb hbox hg) | ((with_reducible refine gate_dst (N := 11) rfl ?_); refine Kd.R_lit Kd.string _ 9 ?hg (N := 11) ?hd (xs := ([(⟨#[105, 100]⟩ : ByteArray), (⟨#[110, 97, 109, 101]⟩ : ByteArray), (⟨#[110]⟩ : ByteArray), (⟨#[102, 108, 97, 103]⟩ : ByteArray), (⟨#[114, 97, 119]⟩ : ByteArray), (⟨#[120]⟩ : ByteArray)] : List ByteArray)) (inner := [.string (⟨#[105, 100]⟩ : ByteArray), .string (⟨#[110, 97, 109, 101]⟩ : ByteArray), .string (⟨#[110]⟩ : ByteArray), .string (⟨#[102, 108, 97, 103]⟩ : ByteArray), .string (⟨#[114, 97, 119]⟩ : ByteArray), .string (⟨#[120]⟩ : ByteArray)]) (ok := fun _ => True) (okp := fun _ => True) ?hr ?hp (fun _ hk => hk) trivial (Below.refl _ _) (Nat.le_refl _) (by simp) ?_; (case hd => rfl); (case hg => rfl); (case hr => first | (go_simp; done) | (go_simp; rfl)); (case hp => exact (Reps.one (show Kd.M Kd.string _ _ _ (⟨#[105, 100]⟩ : ByteArray) [.string (⟨#[105, 100]⟩ : ByteArray)] from rfl) (Reps.one (show Kd.M Kd.string _ _ _ (⟨#[110, 97, 109, 101]⟩ : ByteArray) [.string (⟨#[110, 97, 109, 101]⟩ : ByteArray)] from rfl) (Reps.one (show Kd.M Kd.string _ _ _ (⟨#[110]⟩ : ByteArray) [.string (⟨#[110]⟩ : ByteArray)] from rfl) (Reps.one (show Kd.M Kd.string _ _ _ (⟨#[102, 108, 97, 103]⟩ : ByteArray) [.string (⟨#[102, 108, 97, 103]⟩ : ByteArray)] from rfl) (Reps.one (show Kd.M Kd.string _ _ _ (⟨#[114, 97, 119]⟩ : ByteArray) [.string (⟨#[114, 97, 119]⟩ : ByteArray)] from rfl) (Reps.one (show Kd.M Kd.string _ _ _ (⟨#[120]⟩ : ByteArray) [.string (⟨#[120]⟩ : ByteArray)] from rfl) (Reps.none _ _)))))))); intro v107 w5 ho6 hb hg_ hnew_; clear hg_ hnew_; (first | rw [← Ny106.out] at ho6 | (simp only [Int.reduceToNat] at ho6; rw [← Ny106.out] at ho6)); have n0_ := Aside0.mk (Kd.R_lower ho6 (below_size (by repeat (first | (with_reducible first | exact HB.out | apply below_alloc | apply pw_below_drewN | apply below_drew1 | refine below_set ?_ GE103.out | refine below_set ?_ GE104.out | refine below_set ?_ GE105.out) | exact HB.out)))); have n1_ := Aside0.mk (blk_below (g := gb103) (o := .cells #[.slice A0_0 l0_0.length c0_0, .int .i64 a0_1] 24 (0, 0)) (by (with_reducible repeat (first | refine blk_drewN ?_ _ | refine blk_drew ?_ | refine blk_alloc ?_ _)); exact BK103.out) hb); have n2_ := Aside0.mk (blk_below (g := gb104) (o := .cells #[.slice none 0 0, .int .i64 0] 24 (0, 0)) (by (with_reducible repeat (first | refine blk_drewN ?_ _ | refine blk_drew ?_ | refine blk_alloc ?_ _)); exact BK104.out) hb); have n3_ := Aside0.mk (blk_below (g := gb105) (o := .cells #[.slice none 0 0, .int .i64 0] 24 (0, 0)) (by (with_reducible repeat (first | refine blk_drewN ?_ _ | refine blk_drew ?_ | refine blk_alloc ?_ _)); exact BK105.out) hb); have n4_ := Aside0.mk (below_step (by repeat (first | (with_reducible first | exact HB.out | apply below_alloc | apply pw_below_drewN | apply below_drew1 | refine below_set ?_ GE103.out | refine below_set ?_ GE104.out | refine below_set ?_ GE105.out) | exact HB.out)) hb); clear BK103; clear BK104; clear BK105; clear HB; have HO108 := n0_; have BK103 := n1_; have BK104 := n2_; have BK105 := n3_; have HB := n4_; clear n0_ n1_ n2_ n3_ n4_; clear hb ho6))
 go_loopg [5] k (fun kq v5 w' => ∃ (x5_1 : Int) (x106000_1 : List (S69)) (u106000 : Value), v5 = .int .i64 x5_1 ∧ Aside0 (pantographref04_Good.l0 kq y106 x5_1 l0_0 a0_1 x106000_1 0 = some (r1, r2)) ∧ Aside0 (kq ≤ k) ∧ Aside0 (Kd.R Kd.string 9 w' w.heap.size (fun _ => True) v107 y106) ∧ Aside0 (Kd.R k69 69 w' w.heap.size (fun _ => True) u106000 x106000_1) ∧ Aside0 (w'.heap[gb103]? = some (.cells #[(.slice A0_0 l0_0.length c0_0), .int .i64 a0_1] 24 (0, 0))) ∧ Aside0 (w'.heap[gb104]? = some (.cells #[(.slice none 0 0), .int .i64 0] 24 (0, 0))) ∧ Aside0 (w'.heap[gb105]? = some (.cells #[u106000, .int .i64 0] 24 (0, 0))) ∧ Aside0 (Below w.heap.size w w'))
 case atStart => exact ⟨(0), (([] : List (S69))), (.slice none 0 0), (by first | rfl | (simp; done) | (simp [*]; done)), H', ⟨Nat.le_refl _⟩, ⟨by (with_reducible repeat (first | apply Kd.R_alloc | apply Kd.R_drewN | apply Kd.R_drew)); exact HO108.out⟩, ⟨by first | exact Kd.R_nil _ _ _ _ _ | exact Kd.N_nil _ _ _ _ _ | exact Kd.V_nil _ _ _ _ _ | exact Kd.Q_nil _ _ _ _ _ | exact Kd.S_nil _ _ _ _ _⟩, ⟨by (with_reducible repeat (first | refine blk_drewN ?_ _ | refine blk_drew ?_ | refine blk_alloc ?_ _)); exact BK103.out⟩, ⟨by (with_reducible repeat (first | refine blk_drewN ?_ _ | refine blk_drew ?_ | refine blk_alloc ?_ _)); exact BK104.out⟩, ⟨by (with_reducible repeat (first | refine blk_drewN ?_ _ | refine blk_drew ?_ | refine blk_alloc ?_ _)); exact BK105.out⟩, ⟨by repeat (first | (with_reducible first | exact HB.out | apply below_alloc | apply pw_below_drewN | apply below_drew1 | refine below_set ?_ GE103.out | refine below_set ?_ GE104.out | refine below_set ?_ GE105.out) | exact HB.out)⟩⟩
 case round =>
  clear H'
  try clear c1
  try clear p2
  obtain ⟨x5_1, x106000_1, u106000, rfl, HA, HK1, HO_4, HO_106000, BK103, BK104, BK105, HB⟩ := hrel
  cases gk with
  | zero => exact absurd HA.out (by simp [pantographref04_Good.l0])
  | succ k1 =>
   have H := HA.out
   clear HA
   simp only [pantographref04_Good.l0] at H
   have HC7 := Aside0.mk H
   clear H
   go_upto_region 4 with (fail)
   go_cut [20] (fun v20 wc => ∃ (kq : Nat) (x20_6 : Bool), v20 = .bool x20_6 ∧ Aside0 (pantographref04_Good.j1 kq y106 x5_1 x20_6 l0_0 a0_1 x106000_1 0 = some (r1, r2)) ∧ Aside0 (kq ≤ k1) ∧ Aside0 (Kd.R Kd.string 9 wc w.heap.size (fun _ => True) v107 y106) ∧ Aside0 (Kd.R k69 69 wc w.heap.size (fun _ => True) u106000 x106000_1) ∧ Aside0 (wc.heap[gb103]? = some (.cells #[(.slice A0_0 l0_0.length c0_0), .int .i64 a0_1] 24 (0, 0))) ∧ Aside0 (wc.heap[gb104]? = some (.cells #[(.slice none 0 0), .int .i64 0] 24 (0, 0))) ∧ Aside0 (wc.heap[gb105]? = some (.cells #[u106000, .int .i64 0] 24 (0, 0))) ∧ Aside0 (Below w.heap.size w wc))
   case first =>
    have H := HC7.out
    clear HC7
    by_cases c8 : x5_1 < (l0_0.length : Int)
    ·rw [if_pos c8] at H
     have c8b0 : decide (x5_1 < (l0_0.length : Int)) = true := decide_eq_true c8
     clear c8
     (first | rw [c8b0] | (simp only [i64_w, i32_w]; rw [c8b0]) | skip)
     have H' := Aside0.mk H
     clear H
     have hnb9 := NB103_104.out
     have hnc9 := NB104_103.out
     have hnb10 := NB103_105.out
     have hnc10 := NB105_103.out
     have hcz11_0 : wr.cell? ⟨gb103, 0, none⟩ = some (.slice A0_0 l0_0.length c0_0) := (blk_cell BK103.out 0).trans rfl
     have hcz11_1 : wr.cell? ⟨gb103, 1, none⟩ = some (.int .i64 a0_1) := (blk_cell BK103.out 1).trans rfl
     have hfz11_0 := blk_frozen BK103.out 0
     have hfz11_1 := blk_frozen BK103.out 1
     go_wp2
     go_meet
     case rel => exact ⟨_, (decide (x5_1 < 6)), (by first | rfl | (simp; done) | (simp [*]; done)), H', ⟨by have := HK1.out; first | omega | exact Nat.le_refl _⟩, ⟨by (with_reducible repeat (first | apply Kd.R_alloc | apply Kd.R_drewN | apply Kd.R_drew)); exact HO_4.out⟩, ⟨by (with_reducible repeat (first | apply Kd.R_alloc | apply Kd.R_drewN | apply Kd.R_drew)); exact HO_106000.out⟩, ⟨by (with_reducible repeat (first | refine blk_drewN ?_ _ | refine blk_drew ?_ | refine blk_alloc ?_ _)); exact BK103.out⟩, ⟨by (with_reducible repeat (first | refine blk_drewN ?_ _ | refine blk_drew ?_ | refine blk_alloc ?_ _)); exact BK104.out⟩, ⟨by (with_reducible repeat (first | refine blk_drewN ?_ _ | refine blk_drew ?_ | refine blk_alloc ?_ _)); exact BK105.out⟩, ⟨by repeat (first | (with_reducible first | exact HB.out | apply below_alloc | apply pw_below_drewN | apply below_drew1 | refine below_set ?_ GE103.out | refine below_set ?_ GE104.out | refine below_set ?_ GE105.out) | exact HB.out)⟩⟩
    ·rw [if_neg c8] at H
     have c8b0 : decide (x5_1 < (l0_0.length : Int)) = false := decide_eq_false c8
     clear c8
     (first | rw [c8b0] | (simp only [i64_w, i32_w]; rw [c8b0]) | skip)
     have H' := Aside0.mk H
     clear H
     have hnb12 := NB103_104.out
     have hnc12 := NB104_103.out
     have hnb13 := NB103_105.out
     have hnc13 := NB105_103.out
     have hcz14_0 : wr.cell? ⟨gb103, 0, none⟩ = some (.slice A0_0 l0_0.length c0_0) := (blk_cell BK103.out 0).trans rfl
     have hcz14_1 : wr.cell? ⟨gb103, 1, none⟩ = some (.int .i64 a0_1) := (blk_cell BK103.out 1).trans rfl
     have hfz14_0 := blk_frozen BK103.out 0
     have hfz14_1 := blk_frozen BK103.out 1
     go_wp2
     go_meet
     case rel => exact ⟨_, (false), (by first | rfl | (simp; done) | (simp [*]; done)), H', ⟨by have := HK1.out; first | omega | exact Nat.le_refl _⟩, ⟨by (with_reducible repeat (first | apply Kd.R_alloc | apply Kd.R_drewN | apply Kd.R_drew)); exact HO_4.out⟩, ⟨by (with_reducible repeat (first | apply Kd.R_alloc | apply Kd.R_drewN | apply Kd.R_drew)); exact HO_106000.out⟩, ⟨by (with_reducible repeat (first | refine blk_drewN ?_ _ | refine blk_drew ?_ | refine blk_alloc ?_ _)); exact BK103.out⟩, ⟨by (with_reducible repeat (first | refine blk_drewN ?_ _ | refine blk_drew ?_ | refine blk_alloc ?_ _)); exact BK104.out⟩, ⟨by (with_reducible repeat (first | refine blk_drewN ?_ _ | refine blk_drew ?_ | refine blk_alloc ?_ _)); exact BK105.out⟩, ⟨by repeat (first | (with_reducible first | exact HB.out | apply below_alloc | apply pw_below_drewN | apply below_drew1 | refine below_set ?_ GE103.out | refine below_set ?_ GE104.out | refine below_set ?_ GE105.out) | exact HB.out)⟩⟩
   case rest =>
    clear HC7
    try clear c1
    try clear p2
    try clear c8
    try clear c8b0
    try clear c9
    try clear c10
    try clear c12
    try clear c13
    try clear hcz11_0
    try clear hcz11_1
    try clear hcz14_0
    try clear hcz14_1
    try clear hfz11_0
    try clear hfz11_1
    try clear hfz14_0
    try clear hfz14_1
    try clear p2
    obtain ⟨kq, x20_6, rfl, HA, HJ6, HO_4, HO_106000, BK103, BK104, BK105, HB⟩ := hcut
    cases kq with
    | zero => exact absurd HA.out (by simp [pantographref04_Good.j1])
    | succ kj6 =>
     have H := HA.out
     clear HA
     simp only [pantographref04_Good.j1] at H
     by_cases c15 : x20_6 = true
     ·subst c15
      have H1 : (if 0 ≤ x5_1 then (if x5_1 < (l0_0.length : Int) then (if ((rd_T69 l0_0 x5_1).f1) < 0 then (pantographref04_Good.j2 kj6 y106 x5_1 (wrap64 (-(wrap64 (((rd_T69 l0_0 x5_1).f1) + 1)))) l0_0 a0_1 x106000_1 0 ((rd_T69 l0_0 x5_1).f0) ((rd_T69 l0_0 x5_1).f1) ((rd_T69 l0_0 x5_1).f2)) else (pantographref04_Good.j2 kj6 y106 x5_1 ((rd_T69 l0_0 x5_1).f1) l0_0 a0_1 x106000_1 0 ((rd_T69 l0_0 x5_1).f0) ((rd_T69 l0_0 x5_1).f1) ((rd_T69 l0_0 x5_1).f2))) else (none)) else (none)) = some (r1, r2) := by rw [if_pos rfl] at H; exact H
      clear H
      have H := H1
      clear H1
      by_cases c16 : 0 ≤ x5_1
      ·rw [if_pos c16] at H
       have c16b0 : decide (0 ≤ x5_1) = true := decide_eq_true c16
       clear c16
       by_cases c17 : x5_1 < (l0_0.length : Int)
       ·rw [if_pos c17] at H
        have c17b0 : decide (x5_1 < (l0_0.length : Int)) = true := decide_eq_true c17
        clear c17
        have HC18 := Aside0.mk H
        clear H
        have hnb19 := NB103_104.out
        have hnc19 := NB104_103.out
        have hnb20 := NB103_105.out
        have hnc20 := NB105_103.out
        have hcz21_0 : wc.cell? ⟨gb103, 0, none⟩ = some (.slice A0_0 l0_0.length c0_0) := (blk_cell BK103.out 0).trans rfl
        have hcz21_1 : wc.cell? ⟨gb103, 1, none⟩ = some (.int .i64 a0_1) := (blk_cell BK103.out 1).trans rfl
        have hfz21_0 := blk_frozen BK103.out 0
        have hfz21_1 := blk_frozen BK103.out 1
        have p109 : 0 ≤ (x5_1 : Int) := of_decide_eq_true (by first | (with_reducible assumption) | assumption)
        have q109 : x5_1 < (l0_0.length : Int) := of_decide_eq_true (by first | (with_reducible assumption) | assumption)
        obtain ⟨ad109, e109, hx109_0, hx109_1, hx109_2⟩ := at_T69 HR0_0.out x5_1 p109 q109
        cases e109
        replace hx109_0 := (HB.out.cell (World.block_lt_of_cell? w _ hx109_0)).trans hx109_0
        replace hx109_1 := (HB.out.cell (World.block_lt_of_cell? w _ hx109_1)).trans hx109_1
        replace hx109_2 := (HB.out.cell (World.block_lt_of_cell? w _ hx109_2)).trans hx109_2
        replace p109 := eq_true p109
        replace q109 := eq_true q109
        go_upto_if 31 with (first | ((with_reducible refine gate_dst (N := 6) rfl ?_); refine box_event ?hg (N := 6) ?hd (cs := #[.string (⟨#[]⟩ : ByteArray), .int .i64 0, .bool false]) (t := 69) ?hr ?_; (case hd => rfl); (case hg => rfl); (case hr => first | (go_simp; done) | (go_simp; rfl)); intro gb110 hg w22 hbox hb; have n0_ := Aside0.mk (Kd.R_below (by (with_reducible repeat (first | apply Kd.R_alloc | apply Kd.R_drewN | apply Kd.R_drew)); exact HO_4.out) hb); have n1_ := Aside0.mk (Kd.R_below (Kd.R_elderB (by (with_reducible repeat (first | apply Kd.R_alloc | apply Kd.R_drewN | apply Kd.R_drew)); exact HO_106000.out) gb110 (Nat.le_of_eq hg.symm)) hb); have n2_ := Aside0.mk (blk_below (g := gb103) (o := .cells #[.slice (some ad109) l0_0.length c0_0, .int .i64 a0_1] 24 (0, 0)) (by (with_reducible repeat (first | refine blk_drewN ?_ _ | refine blk_drew ?_ | refine blk_alloc ?_ _)); exact BK103.out) hb); have n3_ := Aside0.mk (blk_below (g := gb104) (o := .cells #[.slice none 0 0, .int .i64 0] 24 (0, 0)) (by (with_reducible repeat (first | refine blk_drewN ?_ _ | refine blk_drew ?_ | refine blk_alloc ?_ _)); exact BK104.out) hb); have n4_ := Aside0.mk (blk_below (g := gb105) (o := .cells #[u106000, .int .i64 0] 24 (0, 0)) (by (with_reducible repeat (first | refine blk_drewN ?_ _ | refine blk_drew ?_ | refine blk_alloc ?_ _)); exact BK105.out) hb); have n5_ := Aside0.mk (below_step (by repeat (first | (with_reducible first | exact HB.out | apply below_alloc | apply pw_below_drewN | apply below_drew1 | refine below_set ?_ GE103.out | refine below_set ?_ GE104.out | refine below_set ?_ GE105.out) | exact HB.out)) hb); have n6_ := Aside0.mk (hbox); have n7_ := Aside0.mk ((by rw [hg]; exact (below_size (by repeat (first | (with_reducible first | exact HB.out | apply below_alloc | apply pw_below_drewN | apply below_drew1 | refine below_set ?_ GE103.out | refine below_set ?_ GE104.out | refine below_set ?_ GE105.out) | exact HB.out))) : w.heap.size ≤ gb110)); have n8_ := Aside0.mk ((by rw [hg]; exact (below_size (by repeat (first | (with_reducible first | exact HB.out | apply below_alloc | apply pw_below_drewN | apply below_drew1 | refine below_set ?_ GE103.out | refine below_set ?_ GE104.out | refine below_set ?_ GE105.out) | exact HB.out))) : w.heap.size ≤ gb110)); have n9_ := Aside0.mk ((by rw [hg]; exact Nat.ne_of_lt (blk_lt (g := gb103) (o := .cells #[.slice (some ad109) l0_0.length c0_0, .int .i64 a0_1] 24 (0, 0)) (by (with_reducible repeat (first | refine blk_drewN ?_ _ | refine blk_drew ?_ | refine blk_alloc ?_ _)); exact BK103.out)) : gb103 ≠ gb110)); have n10_ := Aside0.mk ((by rw [hg]; exact Nat.ne_of_gt (blk_lt (g := gb103) (o := .cells #[.slice (some ad109) l0_0.length c0_0, .int .i64 a0_1] 24 (0, 0)) (by (with_reducible repeat (first | refine blk_drewN ?_ _ | refine blk_drew ?_ | refine blk_alloc ?_ _)); exact BK103.out)) : gb110 ≠ gb103)); have n11_ := Aside0.mk ((by rw [hg]; exact Nat.ne_of_lt (blk_lt (g := gb104) (o := .cells #[.slice none 0 0, .int .i64 0] 24 (0, 0)) (by (with_reducible repeat (first | refine blk_drewN ?_ _ | refine blk_drew ?_ | refine blk_alloc ?_ _)); exact BK104.out)) : gb104 ≠ gb110)); have n12_ := Aside0.mk ((by rw [hg]; exact Nat.ne_of_gt (blk_lt (g := gb104) (o := .cells #[.slice none 0 0, .int .i64 0] 24 (0, 0)) (by (with_reducible repeat (first | refine blk_drewN ?_ _ | refine blk_drew ?_ | refine blk_alloc ?_ _)); exact BK104.out)) : gb110 ≠ gb104)); have n13_ := Aside0.mk ((by rw [hg]; exact Nat.ne_of_lt (blk_lt (g := gb105) (o := .cells #[u106000, .int .i64 0] 24 (0, 0)) (by (with_reducible repeat (first | refine blk_drewN ?_ _ | refine blk_drew ?_ | refine blk_alloc ?_ _)); exact BK105.out)) : gb105 ≠ gb110)); have n14_ := Aside0.mk ((by rw [hg]; exact Nat.ne_of_gt (blk_lt (g := gb105) (o := .cells #[u106000, .int .i64 0] 24 (0, 0)) (by (with_reducible repeat (first | refine blk_drewN ?_ _ | refine blk_drew ?_ | refine blk_alloc ?_ _)); exact BK105.out)) : gb110 ≠ gb105)); clear HO_4; clear HO_106000; clear BK103; clear BK104; clear BK105; clear HB; have HO_4 := n0_; have HO_106000 := n1_; have BK103 := n2_; have BK104 := n3_; have BK105 := n4_; have HB := n5_; have BK110 := n6_; have GW110 := n7_; have GE110 := n8_; have NB103_110 := n9_; have NB110_103 := n10_; have NB104_110 := n11_; have NB110_104 := n12_; have NB105_110 := n13_; have NB110_105 := n14_; clear n0_ n1_ n2_ n3_ n4_ n5_ n6_ n7_ n8_ n9_ n10_ n11_ n12_ n13_ n14_; clear hb hbox hg; have hnb23 := NB110_103.out; have hnc23 := NB103_110.out; have hnb24 := NB110_104.out; have hnc24 := NB104_110.out; have hnb25 := NB110_105.out; have hnc25 := NB105_110.out; have hcz26_0 : w22.cell? ⟨gb110, 0, none⟩ = some (.string (⟨#[]⟩ : ByteArray)) := (blk_cell BK110.out 0).trans rfl; have hcz26_1 : w22.cell? ⟨gb110, 1, none⟩ = some (.int .i64 0) := (blk_cell BK110.out 1).trans rfl; have hcz26_2 : w22.cell? ⟨gb110, 2, none⟩ = some (.bool false) := (blk_cell BK110.out 2).trans rfl; have hfz26_0 := blk_frozen BK110.out 0; have hfz26_1 := blk_frozen BK110.out 1; have hfz26_2 := blk_frozen BK110.out 2))
        (try simp only [Act.put, List.setIfInBounds_toArray, List.set_cons_zero, List.set_cons_succ])
        go_cut [7] (fun v7 wc => ∃ (kq : Nat) (x7_17 : Int), v7 = .int .i64 x7_17 ∧ Aside0 (pantographref04_Good.j2 kq y106 x5_1 x7_17 l0_0 a0_1 x106000_1 0 ((rd_T69 l0_0 x5_1).f0) ((rd_T69 l0_0 x5_1).f1) ((rd_T69 l0_0 x5_1).f2) = some (r1, r2)) ∧ Aside0 (kq ≤ kj6) ∧ Aside0 (Kd.R Kd.string 9 wc w.heap.size (fun _ => True) v107 y106) ∧ Aside0 (Kd.R k69 69 wc w.heap.size (fun k_ => k_ ≠ gb110) u106000 x106000_1) ∧ Aside0 (wc.heap[gb103]? = some (.cells #[(.slice (some ad109) l0_0.length c0_0), .int .i64 a0_1] 24 (0, 0))) ∧ Aside0 (wc.heap[gb104]? = some (.cells #[(.slice none 0 0), .int .i64 0] 24 (0, 0))) ∧ Aside0 (wc.heap[gb105]? = some (.cells #[u106000, .int .i64 0] 24 (0, 0))) ∧ Aside0 (wc.heap[gb110]? = some (.cells #[.string ((rd_T69 l0_0 x5_1).f0), .int .i64 ((rd_T69 l0_0 x5_1).f1), .bool ((rd_T69 l0_0 x5_1).f2)] 69 (0, 0))) ∧ Aside0 (Below w.heap.size w wc))
        case first =>
         have H := HC18.out
         clear HC18
         by_cases c27 : ((rd_T69 l0_0 x5_1).f1) < 0
         ·rw [if_pos c27] at H
          have c27b0 : decide (((rd_T69 l0_0 x5_1).f1) < 0) = true := decide_eq_true c27
          clear c27
          (first | rw [c27b0] | (simp only [i64_w, i32_w]; rw [c27b0]) | skip)
          have H' := Aside0.mk H
          clear H
          go_wp2
          go_meet
          case rel => exact ⟨_, (wrap64 (-(wrap64 (((rd_T69 l0_0 x5_1).f1) + 1)))), (by first | rfl | (simp; done) | (simp [*]; done)), H', ⟨by have := HK1.out; have := HJ6.out; first | omega | exact Nat.le_refl _⟩, ⟨by (with_reducible repeat (first | apply Kd.R_alloc | apply Kd.R_drewN | apply Kd.R_drew)); exact Kd.R_mono (Kd.R_far (p := ⟨gb110, 2, none⟩) (Kd.R_far (p := ⟨gb110, 1, none⟩) (Kd.R_far (p := ⟨gb110, 0, none⟩) (Kd.R_types HO_4.out BK110.out (by decide)) (fun _ hk => hk.2) (.string ((rd_T69 l0_0 x5_1).f0))) (fun _ hk => hk.2) (.int .i64 ((rd_T69 l0_0 x5_1).f1))) (fun _ hk => hk.2) (.bool ((rd_T69 l0_0 x5_1).f2))) (fun _ hk => trivial)⟩, ⟨by (with_reducible repeat (first | apply Kd.R_alloc | apply Kd.R_drewN | apply Kd.R_drew)); exact Kd.R_mono (Kd.R_far (p := ⟨gb110, 2, none⟩) (Kd.R_far (p := ⟨gb110, 1, none⟩) (Kd.R_far (p := ⟨gb110, 0, none⟩) (Kd.R_mono HO_106000.out (fun k_ hk => (⟨hk, hk.2⟩ : _ ∧ k_ ≠ gb110))) (fun _ hk => hk.2) (.string ((rd_T69 l0_0 x5_1).f0))) (fun _ hk => hk.2) (.int .i64 ((rd_T69 l0_0 x5_1).f1))) (fun _ hk => hk.2) (.bool ((rd_T69 l0_0 x5_1).f2))) (fun _ hk => hk.1.2)⟩, ⟨by (with_reducible repeat (first | refine blk_drewN ?_ _ | refine blk_drew ?_ | refine blk_alloc ?_ _)); refine blk_far ?_ NB103_110.out _; (with_reducible repeat (first | refine blk_drewN ?_ _ | refine blk_drew ?_ | refine blk_alloc ?_ _)); refine blk_far ?_ NB103_110.out _; (with_reducible repeat (first | refine blk_drewN ?_ _ | refine blk_drew ?_ | refine blk_alloc ?_ _)); refine blk_far ?_ NB103_110.out _; (with_reducible repeat (first | refine blk_drewN ?_ _ | refine blk_drew ?_ | refine blk_alloc ?_ _)); exact BK103.out⟩, ⟨by (with_reducible repeat (first | refine blk_drewN ?_ _ | refine blk_drew ?_ | refine blk_alloc ?_ _)); refine blk_far ?_ NB104_110.out _; (with_reducible repeat (first | refine blk_drewN ?_ _ | refine blk_drew ?_ | refine blk_alloc ?_ _)); refine blk_far ?_ NB104_110.out _; (with_reducible repeat (first | refine blk_drewN ?_ _ | refine blk_drew ?_ | refine blk_alloc ?_ _)); refine blk_far ?_ NB104_110.out _; (with_reducible repeat (first | refine blk_drewN ?_ _ | refine blk_drew ?_ | refine blk_alloc ?_ _)); exact BK104.out⟩, ⟨by (with_reducible repeat (first | refine blk_drewN ?_ _ | refine blk_drew ?_ | refine blk_alloc ?_ _)); refine blk_far ?_ NB105_110.out _; (with_reducible repeat (first | refine blk_drewN ?_ _ | refine blk_drew ?_ | refine blk_alloc ?_ _)); refine blk_far ?_ NB105_110.out _; (with_reducible repeat (first | refine blk_drewN ?_ _ | refine blk_drew ?_ | refine blk_alloc ?_ _)); refine blk_far ?_ NB105_110.out _; (with_reducible repeat (first | refine blk_drewN ?_ _ | refine blk_drew ?_ | refine blk_alloc ?_ _)); exact BK105.out⟩, ⟨by (with_reducible repeat (first | refine blk_drewN ?_ _ | refine blk_drew ?_ | refine blk_alloc ?_ _)); refine blk_put (cs := #[.string ((rd_T69 l0_0 x5_1).f0), .int .i64 ((rd_T69 l0_0 x5_1).f1), .bool false]) ?_ 2 _ rfl; (with_reducible repeat (first | refine blk_drewN ?_ _ | refine blk_drew ?_ | refine blk_alloc ?_ _)); refine blk_put (cs := #[.string ((rd_T69 l0_0 x5_1).f0), .int .i64 0, .bool false]) ?_ 1 _ rfl; (with_reducible repeat (first | refine blk_drewN ?_ _ | refine blk_drew ?_ | refine blk_alloc ?_ _)); refine blk_put (cs := #[.string (⟨#[]⟩ : ByteArray), .int .i64 0, .bool false]) ?_ 0 _ rfl; (with_reducible repeat (first | refine blk_drewN ?_ _ | refine blk_drew ?_ | refine blk_alloc ?_ _)); exact BK110.out⟩, ⟨by repeat (first | (with_reducible first | exact HB.out | apply below_alloc | apply pw_below_drewN | apply below_drew1 | refine below_set ?_ GE103.out | refine below_set ?_ GE104.out | refine below_set ?_ GE105.out | refine below_set ?_ GE110.out) | exact HB.out)⟩⟩
         ·rw [if_neg c27] at H
          have c27b0 : decide (((rd_T69 l0_0 x5_1).f1) < 0) = false := decide_eq_false c27
          clear c27
          (first | rw [c27b0] | (simp only [i64_w, i32_w]; rw [c27b0]) | skip)
          have H' := Aside0.mk H
          clear H
          go_wp2
          go_meet
          case rel => exact ⟨_, ((rd_T69 l0_0 x5_1).f1), (by first | rfl | (simp; done) | (simp [*]; done)), H', ⟨by have := HK1.out; have := HJ6.out; first | omega | exact Nat.le_refl _⟩, ⟨by (with_reducible repeat (first | apply Kd.R_alloc | apply Kd.R_drewN | apply Kd.R_drew)); exact Kd.R_mono (Kd.R_far (p := ⟨gb110, 2, none⟩) (Kd.R_far (p := ⟨gb110, 1, none⟩) (Kd.R_far (p := ⟨gb110, 0, none⟩) (Kd.R_types HO_4.out BK110.out (by decide)) (fun _ hk => hk.2) (.string ((rd_T69 l0_0 x5_1).f0))) (fun _ hk => hk.2) (.int .i64 ((rd_T69 l0_0 x5_1).f1))) (fun _ hk => hk.2) (.bool ((rd_T69 l0_0 x5_1).f2))) (fun _ hk => trivial)⟩, ⟨by (with_reducible repeat (first | apply Kd.R_alloc | apply Kd.R_drewN | apply Kd.R_drew)); exact Kd.R_mono (Kd.R_far (p := ⟨gb110, 2, none⟩) (Kd.R_far (p := ⟨gb110, 1, none⟩) (Kd.R_far (p := ⟨gb110, 0, none⟩) (Kd.R_mono HO_106000.out (fun k_ hk => (⟨hk, hk.2⟩ : _ ∧ k_ ≠ gb110))) (fun _ hk => hk.2) (.string ((rd_T69 l0_0 x5_1).f0))) (fun _ hk => hk.2) (.int .i64 ((rd_T69 l0_0 x5_1).f1))) (fun _ hk => hk.2) (.bool ((rd_T69 l0_0 x5_1).f2))) (fun _ hk => hk.1.2)⟩, ⟨by (with_reducible repeat (first | refine blk_drewN ?_ _ | refine blk_drew ?_ | refine blk_alloc ?_ _)); refine blk_far ?_ NB103_110.out _; (with_reducible repeat (first | refine blk_drewN ?_ _ | refine blk_drew ?_ | refine blk_alloc ?_ _)); refine blk_far ?_ NB103_110.out _; (with_reducible repeat (first | refine blk_drewN ?_ _ | refine blk_drew ?_ | refine blk_alloc ?_ _)); refine blk_far ?_ NB103_110.out _; (with_reducible repeat (first | refine blk_drewN ?_ _ | refine blk_drew ?_ | refine blk_alloc ?_ _)); exact BK103.out⟩, ⟨by (with_reducible repeat (first | refine blk_drewN ?_ _ | refine blk_drew ?_ | refine blk_alloc ?_ _)); refine blk_far ?_ NB104_110.out _; (with_reducible repeat (first | refine blk_drewN ?_ _ | refine blk_drew ?_ | refine blk_alloc ?_ _)); refine blk_far ?_ NB104_110.out _; (with_reducible repeat (first | refine blk_drewN ?_ _ | refine blk_drew ?_ | refine blk_alloc ?_ _)); refine blk_far ?_ NB104_110.out _; (with_reducible repeat (first | refine blk_drewN ?_ _ | refine blk_drew ?_ | refine blk_alloc ?_ _)); exact BK104.out⟩, ⟨by (with_reducible repeat (first | refine blk_drewN ?_ _ | refine blk_drew ?_ | refine blk_alloc ?_ _)); refine blk_far ?_ NB105_110.out _; (with_reducible repeat (first | refine blk_drewN ?_ _ | refine blk_drew ?_ | refine blk_alloc ?_ _)); refine blk_far ?_ NB105_110.out _; (with_reducible repeat (first | refine blk_drewN ?_ _ | refine blk_drew ?_ | refine blk_alloc ?_ _)); refine blk_far ?_ NB105_110.out _; (with_reducible repeat (first | refine blk_drewN ?_ _ | refine blk_drew ?_ | refine blk_alloc ?_ _)); exact BK105.out⟩, ⟨by (with_reducible repeat (first | refine blk_drewN ?_ _ | refine blk_drew ?_ | refine blk_alloc ?_ _)); refine blk_put (cs := #[.string ((rd_T69 l0_0 x5_1).f0), .int .i64 ((rd_T69 l0_0 x5_1).f1), .bool false]) ?_ 2 _ rfl; (with_reducible repeat (first | refine blk_drewN ?_ _ | refine blk_drew ?_ | refine blk_alloc ?_ _)); refine blk_put (cs := #[.string ((rd_T69 l0_0 x5_1).f0), .int .i64 0, .bool false]) ?_ 1 _ rfl; (with_reducible repeat (first | refine blk_drewN ?_ _ | refine blk_drew ?_ | refine blk_alloc ?_ _)); refine blk_put (cs := #[.string (⟨#[]⟩ : ByteArray), .int .i64 0, .bool false]) ?_ 0 _ rfl; (with_reducible repeat (first | refine blk_drewN ?_ _ | refine blk_drew ?_ | refine blk_alloc ?_ _)); exact BK110.out⟩, ⟨by repeat (first | (with_reducible first | exact HB.out | apply below_alloc | apply pw_below_drewN | apply below_drew1 | refine below_set ?_ GE103.out | refine below_set ?_ GE104.out | refine below_set ?_ GE105.out | refine below_set ?_ GE110.out) | exact HB.out)⟩⟩
        case rest =>
         clear HC18
         try clear c1
         try clear p1
         try clear q1
         try clear hx1
         try clear c2
         try clear p2
         try clear p6
         try clear c8
         try clear c8b0
         try clear c9
         try clear c10
         try clear p10
         try clear q10
         try clear hx10
         try clear c12
         try clear c13
         try clear c15
         try clear c16
         try clear c16b0
         try clear c17
         try clear c17b0
         try clear c19
         try clear c20
         try clear c23
         try clear c24
         try clear c25
         try clear c27
         try clear c27b0
         try clear hcz11_0
         try clear hcz11_1
         try clear hcz14_0
         try clear hcz14_1
         try clear hcz21_0
         try clear hcz21_1
         try clear hcz26_0
         try clear hcz26_1
         try clear hcz26_2
         try clear hfz11_0
         try clear hfz11_1
         try clear hfz14_0
         try clear hfz14_1
         try clear hfz21_0
         try clear hfz21_1
         try clear hfz26_0
         try clear hfz26_1
         try clear hfz26_2
         try clear hx109_0
         try clear hx109_1
         try clear hx109_2
         try clear p109
         try clear p2
         try clear q109
         obtain ⟨kq, x7_17, rfl, HA, HJ17, HO_4, HO_106000, BK103, BK104, BK105, BK110, HB⟩ := hcut
         cases kq with
         | zero => exact absurd HA.out (by simp [pantographref04_Good.j2])
         | succ kj17 =>
          have H := HA.out
          clear HA
          simp only [pantographref04_Good.j2] at H
          replace H := Option.bind_eq_some_iff.mp H
          obtain ⟨t111, A280, H⟩ := H
          replace H : (if t111 = true then ((pantographref04_Find.f kj17 x106000_1 0 ((rd_T69 l0_0 x5_1).f0)).bind fun t112 => (pantographref04_Good.j3 kj17 y106 x5_1 (decide (t112 ≥ 0)) l0_0 a0_1 x106000_1 0 ((rd_T69 l0_0 x5_1).f0) (wrap64 (1 + (Int.tmod x7_17 4))) ((rd_T69 l0_0 x5_1).f2))) else (pantographref04_Good.j3 kj17 y106 x5_1 true l0_0 a0_1 x106000_1 0 ((rd_T69 l0_0 x5_1).f0) (wrap64 (1 + (Int.tmod x7_17 4))) ((rd_T69 l0_0 x5_1).f2))) = some (r1, r2) := H
          have A28 := Aside0.mk A280
          clear A280
          have HC29 := Aside0.mk H
          clear H
          have hnb30 := NB110_103.out
          have hnc30 := NB103_110.out
          have hnb31 := NB110_104.out
          have hnc31 := NB104_110.out
          have hnb32 := NB110_105.out
          have hnc32 := NB105_110.out
          have hcz33_0 : wc.cell? ⟨gb110, 0, none⟩ = some (.string ((rd_T69 l0_0 x5_1).f0)) := (blk_cell BK110.out 0).trans rfl
          have hcz33_1 : wc.cell? ⟨gb110, 1, none⟩ = some (.int .i64 ((rd_T69 l0_0 x5_1).f1)) := (blk_cell BK110.out 1).trans rfl
          have hcz33_2 : wc.cell? ⟨gb110, 2, none⟩ = some (.bool ((rd_T69 l0_0 x5_1).f2)) := (blk_cell BK110.out 2).trans rfl
          have hfz33_0 := blk_frozen BK110.out 0
          have hfz33_1 := blk_frozen BK110.out 1
          have hfz33_2 := blk_frozen BK110.out 2
          go_upto_region 12 with (first | ((with_reducible refine gate_callee (f := 40) rfl ?_); refine goesL_ (some 41) rfl rfl Tryd.func40 (by kernel_rfl) rfl #[.string ((rd_T69 l0_0 x5_1).f0)] rfl (by (try simp only [List.map_toArray, List.map_cons, List.map_nil]); first | done | rfl | (simp only [List.length_drop, List.length_take]; rfl)) ?_; (with_reducible refine (pantographref04_Name.calls kj17 ((rd_T69 l0_0 x5_1).f0) t111 _ A28.out).mono ?_); rintro e w' ⟨rfl, ⟨nd, rfl⟩⟩; refine ⟨_, rfl, ?_⟩))
          (try simp only [Act.put, List.setIfInBounds_toArray, List.set_cons_zero, List.set_cons_succ])
          go_cut [50] (fun v50 wc => ∃ (kq : Nat) (x50_28 : Bool), v50 = .bool x50_28 ∧ Aside0 (pantographref04_Good.j3 kq y106 x5_1 x50_28 l0_0 a0_1 x106000_1 0 ((rd_T69 l0_0 x5_1).f0) (wrap64 (1 + (Int.tmod x7_17 4))) ((rd_T69 l0_0 x5_1).f2) = some (r1, r2)) ∧ Aside0 (kq ≤ kj17) ∧ Aside0 (Kd.R Kd.string 9 wc w.heap.size (fun _ => True) v107 y106) ∧ Aside0 (Kd.R k69 69 wc w.heap.size (fun k_ => k_ ≠ gb110) u106000 x106000_1) ∧ Aside0 (wc.heap[gb103]? = some (.cells #[(.slice (some ad109) l0_0.length c0_0), .int .i64 a0_1] 24 (0, 0))) ∧ Aside0 (wc.heap[gb104]? = some (.cells #[(.slice none 0 0), .int .i64 0] 24 (0, 0))) ∧ Aside0 (wc.heap[gb105]? = some (.cells #[u106000, .int .i64 0] 24 (0, 0))) ∧ Aside0 (wc.heap[gb110]? = some (.cells #[.string ((rd_T69 l0_0 x5_1).f0), .int .i64 (wrap64 (1 + (Int.tmod x7_17 4))), .bool ((rd_T69 l0_0 x5_1).f2)] 69 (0, 0))) ∧ Aside0 (Below w.heap.size w wc))
          case first =>
           have H := HC29.out
           clear HC29
           by_cases c34 : t111 = true
           ·subst c34
            have H1 : ((pantographref04_Find.f kj17 x106000_1 0 ((rd_T69 l0_0 x5_1).f0)).bind fun t112 => (pantographref04_Good.j3 kj17 y106 x5_1 (decide (t112 ≥ 0)) l0_0 a0_1 x106000_1 0 ((rd_T69 l0_0 x5_1).f0) (wrap64 (1 + (Int.tmod x7_17 4))) ((rd_T69 l0_0 x5_1).f2))) = some (r1, r2) := by rw [if_pos rfl] at H; exact H
            clear H
            have H := H1
            clear H1
            replace H := Option.bind_eq_some_iff.mp H
            obtain ⟨t112, A350, H⟩ := H
            replace H : (pantographref04_Good.j3 kj17 y106 x5_1 (decide (t112 ≥ 0)) l0_0 a0_1 x106000_1 0 ((rd_T69 l0_0 x5_1).f0) (wrap64 (1 + (Int.tmod x7_17 4))) ((rd_T69 l0_0 x5_1).f2)) = some (r1, r2) := H
            have A35 := Aside0.mk A350
            clear A350
            have H' := Aside0.mk H
            clear H
            have hnb36 := NB105_103.out
            have hnc36 := NB103_105.out
            have hnb37 := NB105_104.out
            have hnc37 := NB104_105.out
            have hnb38 := NB105_110.out
            have hnc38 := NB110_105.out
            have hcz39_0 : wc.cell? ⟨gb105, 0, none⟩ = some (u106000) := (blk_cell BK105.out 0).trans rfl
            have hcz39_1 : wc.cell? ⟨gb105, 1, none⟩ = some (.int .i64 0) := (blk_cell BK105.out 1).trans rfl
            have hfz39_0 := blk_frozen BK105.out 0
            have hfz39_1 := blk_frozen BK105.out 1
            have hnb40 := NB110_103.out
            have hnc40 := NB103_110.out
            have hnb41 := NB110_104.out
            have hnc41 := NB104_110.out
            have hcz42_0 : wc.cell? ⟨gb110, 0, none⟩ = some (.string ((rd_T69 l0_0 x5_1).f0)) := (blk_cell BK110.out 0).trans rfl
            have hcz42_1 : wc.cell? ⟨gb110, 1, none⟩ = some (.int .i64 ((rd_T69 l0_0 x5_1).f1)) := (blk_cell BK110.out 1).trans rfl
            have hcz42_2 : wc.cell? ⟨gb110, 2, none⟩ = some (.bool ((rd_T69 l0_0 x5_1).f2)) := (blk_cell BK110.out 2).trans rfl
            have hfz42_0 := blk_frozen BK110.out 0
            have hfz42_1 := blk_frozen BK110.out 1
            have hfz42_2 := blk_frozen BK110.out 2
            obtain ⟨Ao43, co43, eo43⟩ := Kd.R_slice HO_106000.out
            subst eo43
            go_wp2_with (first | (go_at_call 41; (with_reducible refine (pantographref04_Find.calls kj17 _ _ x106000_1 0 ((rd_T69 l0_0 x5_1).f0) t112 _ ?side1 ?side2 A35.out).mono ?_); (case side1 => refine (Kd.R_reads' (e := 69) (base := w.heap.size) (ok := fun k_ => k_ ≠ gb110) (n := x106000_1.length) (c := co43) ?_).2.2; exact (by (with_reducible repeat (first | apply Kd.R_alloc | apply Kd.R_drewN | apply Kd.R_drew)); exact (Kd.R_mono (Kd.R_far (p := ⟨gb110, 1, none⟩) (Kd.R_mono HO_106000.out (fun k_ hk => (⟨hk, hk⟩ : _ ∧ k_ ≠ gb110))) (fun _ hk => hk.2) (.int .i64 (wrap64 (1 + (Int.tmod x7_17 4))))) (fun _ h_ => h_.1)))); (case side2 => exact (Kd.R_reads' HO_106000.out).2.1); rintro e w44 ⟨rfl, hb⟩; have n0_ := Aside0.mk (Kd.R_below (by (with_reducible repeat (first | apply Kd.R_alloc | apply Kd.R_drewN | apply Kd.R_drew)); exact (Kd.R_mono (Kd.R_far (p := ⟨gb110, 1, none⟩) (Kd.R_types HO_4.out BK110.out (by decide)) (fun _ hk => hk.2) (.int .i64 (wrap64 (1 + (Int.tmod x7_17 4))))) (fun _ h_ => h_.1))) hb); have n1_ := Aside0.mk (Kd.R_below (by (with_reducible repeat (first | apply Kd.R_alloc | apply Kd.R_drewN | apply Kd.R_drew)); exact (Kd.R_mono (Kd.R_far (p := ⟨gb110, 1, none⟩) (Kd.R_mono HO_106000.out (fun k_ hk => (⟨hk, hk⟩ : _ ∧ k_ ≠ gb110))) (fun _ hk => hk.2) (.int .i64 (wrap64 (1 + (Int.tmod x7_17 4))))) (fun _ h_ => h_.1))) hb); have n2_ := Aside0.mk (blk_below (g := gb103) (o := .cells #[.slice (some ad109) l0_0.length c0_0, .int .i64 a0_1] 24 (0, 0)) (by (with_reducible repeat (first | refine blk_drewN ?_ _ | refine blk_drew ?_ | refine blk_alloc ?_ _)); refine blk_far ?_ NB103_110.out _; (with_reducible repeat (first | refine blk_drewN ?_ _ | refine blk_drew ?_ | refine blk_alloc ?_ _)); exact BK103.out) hb); have n3_ := Aside0.mk (blk_below (g := gb104) (o := .cells #[.slice none 0 0, .int .i64 0] 24 (0, 0)) (by (with_reducible repeat (first | refine blk_drewN ?_ _ | refine blk_drew ?_ | refine blk_alloc ?_ _)); refine blk_far ?_ NB104_110.out _; (with_reducible repeat (first | refine blk_drewN ?_ _ | refine blk_drew ?_ | refine blk_alloc ?_ _)); exact BK104.out) hb); have n4_ := Aside0.mk (blk_below (g := gb105) (o := .cells #[.slice Ao43 x106000_1.length co43, .int .i64 0] 24 (0, 0)) (by (with_reducible repeat (first | refine blk_drewN ?_ _ | refine blk_drew ?_ | refine blk_alloc ?_ _)); refine blk_far ?_ NB105_110.out _; (with_reducible repeat (first | refine blk_drewN ?_ _ | refine blk_drew ?_ | refine blk_alloc ?_ _)); exact BK105.out) hb); have n5_ := Aside0.mk (blk_below (g := gb110) (o := .cells #[.string ((rd_T69 l0_0 x5_1).f0), .int .i64 (wrap64 (1 + (Int.tmod x7_17 4))), .bool ((rd_T69 l0_0 x5_1).f2)] 69 (0, 0)) (by (with_reducible repeat (first | refine blk_drewN ?_ _ | refine blk_drew ?_ | refine blk_alloc ?_ _)); refine blk_put (cs := #[.string ((rd_T69 l0_0 x5_1).f0), .int .i64 ((rd_T69 l0_0 x5_1).f1), .bool ((rd_T69 l0_0 x5_1).f2)]) ?_ 1 _ rfl; (with_reducible repeat (first | refine blk_drewN ?_ _ | refine blk_drew ?_ | refine blk_alloc ?_ _)); exact BK110.out) hb); have n6_ := Aside0.mk (below_step (by repeat (first | (with_reducible first | exact HB.out | apply below_alloc | apply pw_below_drewN | apply below_drew1 | refine below_set ?_ GE103.out | refine below_set ?_ GE104.out | refine below_set ?_ GE105.out | refine below_set ?_ GE110.out) | exact HB.out)) hb); clear HO_4; clear HO_106000; clear BK103; clear BK104; clear BK105; clear BK110; clear HB; have HO_4 := n0_; have HO_106000 := n1_; have BK103 := n2_; have BK104 := n3_; have BK105 := n4_; have BK110 := n5_; have HB := n6_; clear n0_ n1_ n2_ n3_ n4_ n5_ n6_; (try clear hb); (try clear hb2); (try clear hk); (try clear hi)))
            go_meet
            case rel => exact ⟨_, (decide (t112 ≥ 0)), (by first | rfl | (simp; done) | (simp [*]; done)), H', ⟨by have := HK1.out; have := HJ6.out; have := HJ17.out; first | omega | exact Nat.le_refl _⟩, ⟨by (with_reducible repeat (first | apply Kd.R_alloc | apply Kd.R_drewN | apply Kd.R_drew)); exact HO_4.out⟩, ⟨by (with_reducible repeat (first | apply Kd.R_alloc | apply Kd.R_drewN | apply Kd.R_drew)); exact HO_106000.out⟩, ⟨by (with_reducible repeat (first | refine blk_drewN ?_ _ | refine blk_drew ?_ | refine blk_alloc ?_ _)); exact BK103.out⟩, ⟨by (with_reducible repeat (first | refine blk_drewN ?_ _ | refine blk_drew ?_ | refine blk_alloc ?_ _)); exact BK104.out⟩, ⟨by (with_reducible repeat (first | refine blk_drewN ?_ _ | refine blk_drew ?_ | refine blk_alloc ?_ _)); exact BK105.out⟩, ⟨by (with_reducible repeat (first | refine blk_drewN ?_ _ | refine blk_drew ?_ | refine blk_alloc ?_ _)); exact BK110.out⟩, ⟨by repeat (first | (with_reducible first | exact HB.out | apply below_alloc | apply pw_below_drewN | apply below_drew1 | refine below_set ?_ GE103.out | refine below_set ?_ GE104.out | refine below_set ?_ GE105.out | refine below_set ?_ GE110.out) | exact HB.out)⟩⟩
           ·replace c34 := Bool.eq_false_iff.mpr c34
            subst c34
            have H1 : (pantographref04_Good.j3 kj17 y106 x5_1 true l0_0 a0_1 x106000_1 0 ((rd_T69 l0_0 x5_1).f0) (wrap64 (1 + (Int.tmod x7_17 4))) ((rd_T69 l0_0 x5_1).f2)) = some (r1, r2) := by rw [if_neg (show ¬ (false = true) by decide)] at H; exact H
            clear H
            have H := H1
            clear H1
            have H' := Aside0.mk H
            clear H
            go_wp2
            go_meet
            case rel => exact ⟨_, (true), (by first | rfl | (simp; done) | (simp [*]; done)), H', ⟨by have := HK1.out; have := HJ6.out; have := HJ17.out; first | omega | exact Nat.le_refl _⟩, ⟨by (with_reducible repeat (first | apply Kd.R_alloc | apply Kd.R_drewN | apply Kd.R_drew)); exact Kd.R_mono (Kd.R_far (p := ⟨gb110, 1, none⟩) (Kd.R_types HO_4.out BK110.out (by decide)) (fun _ hk => hk.2) (.int .i64 (wrap64 (1 + (Int.tmod x7_17 4))))) (fun _ hk => trivial)⟩, ⟨by (with_reducible repeat (first | apply Kd.R_alloc | apply Kd.R_drewN | apply Kd.R_drew)); exact Kd.R_mono (Kd.R_far (p := ⟨gb110, 1, none⟩) (Kd.R_mono HO_106000.out (fun k_ hk => (⟨hk, hk⟩ : _ ∧ k_ ≠ gb110))) (fun _ hk => hk.2) (.int .i64 (wrap64 (1 + (Int.tmod x7_17 4))))) (fun _ hk => hk.1)⟩, ⟨by (with_reducible repeat (first | refine blk_drewN ?_ _ | refine blk_drew ?_ | refine blk_alloc ?_ _)); refine blk_far ?_ NB103_110.out _; (with_reducible repeat (first | refine blk_drewN ?_ _ | refine blk_drew ?_ | refine blk_alloc ?_ _)); exact BK103.out⟩, ⟨by (with_reducible repeat (first | refine blk_drewN ?_ _ | refine blk_drew ?_ | refine blk_alloc ?_ _)); refine blk_far ?_ NB104_110.out _; (with_reducible repeat (first | refine blk_drewN ?_ _ | refine blk_drew ?_ | refine blk_alloc ?_ _)); exact BK104.out⟩, ⟨by (with_reducible repeat (first | refine blk_drewN ?_ _ | refine blk_drew ?_ | refine blk_alloc ?_ _)); refine blk_far ?_ NB105_110.out _; (with_reducible repeat (first | refine blk_drewN ?_ _ | refine blk_drew ?_ | refine blk_alloc ?_ _)); exact BK105.out⟩, ⟨by (with_reducible repeat (first | refine blk_drewN ?_ _ | refine blk_drew ?_ | refine blk_alloc ?_ _)); refine blk_put (cs := #[.string ((rd_T69 l0_0 x5_1).f0), .int .i64 ((rd_T69 l0_0 x5_1).f1), .bool ((rd_T69 l0_0 x5_1).f2)]) ?_ 1 _ rfl; (with_reducible repeat (first | refine blk_drewN ?_ _ | refine blk_drew ?_ | refine blk_alloc ?_ _)); exact BK110.out⟩, ⟨by repeat (first | (with_reducible first | exact HB.out | apply below_alloc | apply pw_below_drewN | apply below_drew1 | refine below_set ?_ GE103.out | refine below_set ?_ GE104.out | refine below_set ?_ GE105.out | refine below_set ?_ GE110.out) | exact HB.out)⟩⟩
          case rest =>
           clear HC29
           try clear c1
           try clear p1
           try clear q1
           try clear hx1
           try clear c2
           try clear p2
           try clear c3
           try clear c4
           try clear p6
           try clear c8
           try clear c8b0
           try clear c9
           try clear c10
           try clear p10
           try clear q10
           try clear hx10
           try clear c12
           try clear c13
           try clear c15
           try clear c16
           try clear c16b0
           try clear c17
           try clear c17b0
           try clear c19
           try clear c20
           try clear c23
           try clear c24
           try clear c25
           try clear c27
           try clear c27b0
           try clear c30
           try clear c31
           try clear c32
           try clear c34
           try clear c36
           try clear c37
           try clear c38
           try clear c40
           try clear c41
           try clear hcz11_0
           try clear hcz11_1
           try clear hcz14_0
           try clear hcz14_1
           try clear hcz21_0
           try clear hcz21_1
           try clear hcz26_0
           try clear hcz26_1
           try clear hcz26_2
           try clear hcz33_0
           try clear hcz33_1
           try clear hcz33_2
           try clear hcz39_0
           try clear hcz39_1
           try clear hcz42_0
           try clear hcz42_1
           try clear hcz42_2
           try clear hfz11_0
           try clear hfz11_1
           try clear hfz14_0
           try clear hfz14_1
           try clear hfz21_0
           try clear hfz21_1
           try clear hfz26_0
           try clear hfz26_1
           try clear hfz26_2
           try clear hfz33_0
           try clear hfz33_1
           try clear hfz33_2
           try clear hfz39_0
           try clear hfz39_1
           try clear hfz42_0
           try clear hfz42_1
           try clear hfz42_2
           try clear hx109_0
           try clear hx109_1
           try clear hx109_2
           try clear p1
           try clear p10
           try clear p109
           try clear p2
           try clear p6
           try clear q1
           try clear q10
           try clear q109
           obtain ⟨kq, x50_28, rfl, HA, HJ28, HO_4, HO_106000, BK103, BK104, BK105, BK110, HB⟩ := hcut
           cases kq with
           | zero => exact absurd HA.out (by simp [pantographref04_Good.j3])
           | succ kj28 =>
            have H := HA.out
            clear HA
            simp only [pantographref04_Good.j3] at H
            by_cases c45 : x50_28 = true
            ·subst c45
             have H1 : (if 0 ≤ x5_1 then (if x5_1 < (y106.length : Int) then ((pantographref04_Find.f kj28 x106000_1 0 (rdOf ByteArray.empty y106 x5_1)).bind fun t114 => (if t114 < 0 then (if x106000_1.length < 4398046511104 then (pantographref04_Good.l0 kj28 y106 (wrap64 (x5_1 + 1)) l0_0 a0_1 (x106000_1 ++ [(⟨rdOf ByteArray.empty y106 x5_1, (wrap64 (1 + (Int.tmod x7_17 4))), ((rd_T69 l0_0 x5_1).f2)⟩ : S69)]) 0) else (none)) else (pantographref04_Good.l0 kj28 y106 (wrap64 (x5_1 + 1)) l0_0 a0_1 x106000_1 0))) else (none)) else (none)) = some (r1, r2) := by rw [if_pos rfl] at H; exact H
             clear H
             have H := H1
             clear H1
             by_cases c46 : 0 ≤ x5_1
             ·rw [if_pos c46] at H
              have c46b0 : decide (0 ≤ x5_1) = true := decide_eq_true c46
              clear c46
              by_cases c47 : x5_1 < (y106.length : Int)
              ·rw [if_pos c47] at H
               have c47b0 : decide (x5_1 < (y106.length : Int)) = true := decide_eq_true c47
               clear c47
               replace H := Option.bind_eq_some_iff.mp H
               obtain ⟨t114, A480, H⟩ := H
               replace H : (if t114 < 0 then (if x106000_1.length < 4398046511104 then (pantographref04_Good.l0 kj28 y106 (wrap64 (x5_1 + 1)) l0_0 a0_1 (x106000_1 ++ [(⟨rdOf ByteArray.empty y106 x5_1, (wrap64 (1 + (Int.tmod x7_17 4))), ((rd_T69 l0_0 x5_1).f2)⟩ : S69)]) 0) else (none)) else (pantographref04_Good.l0 kj28 y106 (wrap64 (x5_1 + 1)) l0_0 a0_1 x106000_1 0)) = some (r1, r2) := H
               have A48 := Aside0.mk A480
               clear A480
               by_cases c49 : t114 < 0
               ·rw [if_pos c49] at H
                have c49b0 : decide (t114 < 0) = true := decide_eq_true c49
                clear c49
                by_cases c50 : x106000_1.length < 4398046511104
                ·rw [if_pos c50] at H
                 have LMc50 := Aside0.mk c50
                 clear c50
                 obtain ⟨y115, hy115⟩ : ∃ y_ : List (S69), y_ = (x106000_1 ++ [(⟨rdOf ByteArray.empty y106 x5_1, (wrap64 (1 + (Int.tmod x7_17 4))), ((rd_T69 l0_0 x5_1).f2)⟩ : S69)]) := ⟨_, rfl⟩
                 replace H : (pantographref04_Good.l0 kj28 y106 (wrap64 (x5_1 + 1)) l0_0 a0_1 y115 0) = some (r1, r2) := by first | (rw [hy115]; with_reducible exact H) | (have H2_ := (Option.bind_some _ _).symm.trans H; rw [hy115]; with_reducible exact H2_) | (have H2_ := (Option.bind_some _ _).symm.trans H; with_reducible exact H2_) | with_reducible exact H | (rw [hy115]; exact H) | exact H
                 have Ny115 := Aside0.mk hy115
                 clear hy115
                 have H' := Aside0.mk H
                 clear H
                 obtain ⟨Ao51, co51, eo51⟩ := Kd.R_slice HO_4.out
                 subst eo51
                 have p113 : 0 ≤ (x5_1 : Int) := of_decide_eq_true (by first | (with_reducible assumption) | assumption)
                 have q113 : x5_1 < (y106.length : Int) := of_decide_eq_true (by first | (with_reducible assumption) | assumption)
                 obtain ⟨ad113, e113, hx113_0⟩ := Kd.at_string (Kd.R_reads' HO_4.out).2.2 x5_1 p113 q113
                 cases e113
                 replace p113 := eq_true p113
                 replace q113 := eq_true q113
                 have hnb52 := NB110_103.out
                 have hnc52 := NB103_110.out
                 have hnb53 := NB110_104.out
                 have hnc53 := NB104_110.out
                 have hnb54 := NB110_105.out
                 have hnc54 := NB105_110.out
                 have hcz55_0 : wc.cell? ⟨gb110, 0, none⟩ = some (.string ((rd_T69 l0_0 x5_1).f0)) := (blk_cell BK110.out 0).trans rfl
                 have hcz55_1 : wc.cell? ⟨gb110, 1, none⟩ = some (.int .i64 (wrap64 (1 + (Int.tmod x7_17 4)))) := (blk_cell BK110.out 1).trans rfl
                 have hcz55_2 : wc.cell? ⟨gb110, 2, none⟩ = some (.bool ((rd_T69 l0_0 x5_1).f2)) := (blk_cell BK110.out 2).trans rfl
                 have hfz55_0 := blk_frozen BK110.out 0
                 have hfz55_1 := blk_frozen BK110.out 1
                 have hfz55_2 := blk_frozen BK110.out 2
                 have hnb56 := NB105_103.out
                 have hnc56 := NB103_105.out
                 have hnb57 := NB105_104.out
                 have hnc57 := NB104_105.out
                 have hcz58_0 : wc.cell? ⟨gb105, 0, none⟩ = some (u106000) := (blk_cell BK105.out 0).trans rfl
                 have hcz58_1 : wc.cell? ⟨gb105, 1, none⟩ = some (.int .i64 0) := (blk_cell BK105.out 1).trans rfl
                 have hfz58_0 := blk_frozen BK105.out 0
                 have hfz58_1 := blk_frozen BK105.out 1
                 obtain ⟨Ao59, co59, eo59⟩ := Kd.R_slice HO_106000.out
                 subst eo59
                 go_wp2_with (first | ((with_reducible refine gate_callee (f := 41) rfl ?_); refine goesL_ (some 59) rfl rfl Tryd.func41 (by kernel_rfl) rfl #[.agg #[.slice Ao59 x106000_1.length co59, .int .i64 0], .string (rdOf ByteArray.empty y106 x5_1)] rfl (by (try simp only [List.map_toArray, List.map_cons, List.map_nil]); first | done | rfl | (simp only [List.length_drop, List.length_take]; rfl)) ?_; (with_reducible refine (pantographref04_Find.calls kj28 _ _ x106000_1 0 (rdOf ByteArray.empty y106 x5_1) t114 _ ?side1 ?side2 A48.out).mono ?_); (case side1 => refine (Kd.R_reads' (e := 69) (base := w.heap.size) (ok := fun k_ => k_ ≠ gb110) (n := x106000_1.length) (c := co59) ?_).2.2; exact (by (with_reducible repeat (first | apply Kd.R_alloc | apply Kd.R_drewN | apply Kd.R_drew)); exact (Kd.R_mono (Kd.R_far (p := ⟨gb110, 0, none⟩) (Kd.R_mono HO_106000.out (fun k_ hk => (⟨hk, hk⟩ : _ ∧ k_ ≠ gb110))) (fun _ hk => hk.2) (.string (rdOf ByteArray.empty y106 x5_1))) (fun _ h_ => h_.1)))); (case side2 => exact (Kd.R_reads' HO_106000.out).2.1); rintro e w60 ⟨rfl, hb⟩; refine ⟨_, rfl, ?_⟩; have n0_ := Aside0.mk (Kd.R_below (by (with_reducible repeat (first | apply Kd.R_alloc | apply Kd.R_drewN | apply Kd.R_drew)); exact (Kd.R_mono (Kd.R_far (p := ⟨gb110, 0, none⟩) (Kd.R_types HO_4.out BK110.out (by decide)) (fun _ hk => hk.2) (.string (rdOf ByteArray.empty y106 x5_1))) (fun _ h_ => h_.1))) hb); have n1_ := Aside0.mk (Kd.R_below (by (with_reducible repeat (first | apply Kd.R_alloc | apply Kd.R_drewN | apply Kd.R_drew)); exact (Kd.R_mono (Kd.R_far (p := ⟨gb110, 0, none⟩) (Kd.R_mono HO_106000.out (fun k_ hk => (⟨hk, hk⟩ : _ ∧ k_ ≠ gb110))) (fun _ hk => hk.2) (.string (rdOf ByteArray.empty y106 x5_1))) (fun _ h_ => h_.1))) hb); have n2_ := Aside0.mk (blk_below (g := gb103) (o := .cells #[.slice (some ad109) l0_0.length c0_0, .int .i64 a0_1] 24 (0, 0)) (by (with_reducible repeat (first | refine blk_drewN ?_ _ | refine blk_drew ?_ | refine blk_alloc ?_ _)); refine blk_far ?_ NB103_110.out _; (with_reducible repeat (first | refine blk_drewN ?_ _ | refine blk_drew ?_ | refine blk_alloc ?_ _)); exact BK103.out) hb); have n3_ := Aside0.mk (blk_below (g := gb104) (o := .cells #[.slice none 0 0, .int .i64 0] 24 (0, 0)) (by (with_reducible repeat (first | refine blk_drewN ?_ _ | refine blk_drew ?_ | refine blk_alloc ?_ _)); refine blk_far ?_ NB104_110.out _; (with_reducible repeat (first | refine blk_drewN ?_ _ | refine blk_drew ?_ | refine blk_alloc ?_ _)); exact BK104.out) hb); have n4_ := Aside0.mk (blk_below (g := gb105) (o := .cells #[.slice Ao59 x106000_1.length co59, .int .i64 0] 24 (0, 0)) (by (with_reducible repeat (first | refine blk_drewN ?_ _ | refine blk_drew ?_ | refine blk_alloc ?_ _)); refine blk_far ?_ NB105_110.out _; (with_reducible repeat (first | refine blk_drewN ?_ _ | refine blk_drew ?_ | refine blk_alloc ?_ _)); exact BK105.out) hb); have n5_ := Aside0.mk (blk_below (g := gb110) (o := .cells #[.string (rdOf ByteArray.empty y106 x5_1), .int .i64 (wrap64 (1 + (Int.tmod x7_17 4))), .bool ((rd_T69 l0_0 x5_1).f2)] 69 (0, 0)) (by (with_reducible repeat (first | refine blk_drewN ?_ _ | refine blk_drew ?_ | refine blk_alloc ?_ _)); refine blk_put (cs := #[.string ((rd_T69 l0_0 x5_1).f0), .int .i64 (wrap64 (1 + (Int.tmod x7_17 4))), .bool ((rd_T69 l0_0 x5_1).f2)]) ?_ 0 _ rfl; (with_reducible repeat (first | refine blk_drewN ?_ _ | refine blk_drew ?_ | refine blk_alloc ?_ _)); exact BK110.out) hb); have n6_ := Aside0.mk (below_step (by repeat (first | (with_reducible first | exact HB.out | apply below_alloc | apply pw_below_drewN | apply below_drew1 | refine below_set ?_ GE103.out | refine below_set ?_ GE104.out | refine below_set ?_ GE105.out | refine below_set ?_ GE110.out) | exact HB.out)) hb); clear HO_4; clear HO_106000; clear BK103; clear BK104; clear BK105; clear BK110; clear HB; have HO_4 := n0_; have HO_106000 := n1_; have BK103 := n2_; have BK104 := n3_; have BK105 := n4_; have BK110 := n5_; have HB := n6_; clear n0_ n1_ n2_ n3_ n4_ n5_ n6_; (try clear hb); (try clear hb2); (try clear hk); (try clear hi); have hcz61_0 : w60.cell? ⟨gb105, 0, none⟩ = some (.slice Ao59 x106000_1.length co59) := (blk_cell BK105.out 0).trans rfl; have hcz61_1 : w60.cell? ⟨gb105, 1, none⟩ = some (.int .i64 0) := (blk_cell BK105.out 1).trans rfl; have hfz61_0 := blk_frozen BK105.out 0; have hfz61_1 := blk_frozen BK105.out 1; have hcz62_0 : w60.cell? ⟨gb110, 0, none⟩ = some (.string (rdOf ByteArray.empty y106 x5_1)) := (blk_cell BK110.out 0).trans rfl; have hcz62_1 : w60.cell? ⟨gb110, 1, none⟩ = some (.int .i64 (wrap64 (1 + (Int.tmod x7_17 4)))) := (blk_cell BK110.out 1).trans rfl; have hcz62_2 : w60.cell? ⟨gb110, 2, none⟩ = some (.bool ((rd_T69 l0_0 x5_1).f2)) := (blk_cell BK110.out 2).trans rfl; have hfz62_0 := blk_frozen BK110.out 0; have hfz62_1 := blk_frozen BK110.out 1; have hfz62_2 := blk_frozen BK110.out 2) | ((with_reducible refine gate_builtin (b := .append) (xs := #[.tmp 62, .tmp 64]) rfl ?_); at_builtin; refine Kd.R_append k69 (w0 := w) w.heap.size rfl (.tmp 62) (.tmp 64) 22 69 (.agg #[(.string ⟨#[]⟩), (.int .i64 0), (.bool false)]) 32 rfl Tryd.underlying22 info69 rfl (by decide) (by omega) (.slice Ao59 x106000_1.length co59) x106000_1 (⟨rdOf ByteArray.empty y106 x5_1, (wrap64 (1 + (Int.tmod x7_17 4))), ((rd_T69 l0_0 x5_1).f2)⟩ : S69) [.string (rdOf ByteArray.empty y106 x5_1), .int .i64 (wrap64 (1 + (Int.tmod x7_17 4))), .bool ((rd_T69 l0_0 x5_1).f2)] (fun k_ => k_ ≠ gb110) (fun _ => False) rfl rfl ?aP (fun _ hk => hk.elim) ?aF ?aO ?aB ?aS ?aL ?_; (case aP => exact k69_mkM _ _ _ (⟨rdOf ByteArray.empty y106 x5_1, (wrap64 (1 + (Int.tmod x7_17 4))), ((rd_T69 l0_0 x5_1).f2)⟩ : S69)); (case aB => exact (by repeat (first | (with_reducible first | exact HB.out | apply below_alloc | apply pw_below_drewN | apply below_drew1 | refine below_set ?_ GE103.out | refine below_set ?_ GE104.out | refine below_set ?_ GE105.out | refine below_set ?_ GE110.out) | exact HB.out))); (case aF => exact (fun k_ hk => Kd.freshB (g := gb110) (o := .cells #[.string (rdOf ByteArray.empty y106 x5_1), .int .i64 (wrap64 (1 + (Int.tmod x7_17 4))), .bool ((rd_T69 l0_0 x5_1).f2)] 69 (0, 0)) (by (with_reducible repeat (first | refine blk_drewN ?_ _ | refine blk_drew ?_ | refine blk_alloc ?_ _)); exact BK110.out) k_ hk)); (case aO => exact (by (with_reducible repeat (first | apply Kd.R_alloc | apply Kd.R_drewN | apply Kd.R_drew)); exact HO_106000.out)); (case aS => exact (below_size (by repeat (first | (with_reducible first | exact HB.out | apply below_alloc | apply pw_below_drewN | apply below_drew1 | refine below_set ?_ GE103.out | refine below_set ?_ GE104.out | refine below_set ?_ GE105.out | refine below_set ?_ GE110.out) | exact HB.out)))); (case aL => have := LMc50.out; omega); intro v116 w63 ho hb hg hat; rw [← Ny115.out] at ho; have n0_ := Aside0.mk (Kd.R_over' (by (with_reducible repeat (first | apply Kd.R_alloc | apply Kd.R_drewN | apply Kd.R_drew)); exact HO_4.out) (Kd.R_typed (by (with_reducible repeat (first | apply Kd.R_alloc | apply Kd.R_drewN | apply Kd.R_drew)); exact HO_106000.out)) (by decide) hg); have n1_ := Aside0.mk (blk_grown (g := gb103) (o := .cells #[.slice (some ad109) l0_0.length c0_0, .int .i64 a0_1] 24 (0, 0)) (by (with_reducible repeat (first | refine blk_drewN ?_ _ | refine blk_drew ?_ | refine blk_alloc ?_ _)); exact BK103.out) hg (Kd.R_ne HO_106000.out BK103.out (by decide))); have n2_ := Aside0.mk (blk_grown (g := gb104) (o := .cells #[.slice none 0 0, .int .i64 0] 24 (0, 0)) (by (with_reducible repeat (first | refine blk_drewN ?_ _ | refine blk_drew ?_ | refine blk_alloc ?_ _)); exact BK104.out) hg (Kd.R_ne HO_106000.out BK104.out (by decide))); have n3_ := Aside0.mk (blk_grown (g := gb105) (o := .cells #[.slice Ao59 x106000_1.length co59, .int .i64 0] 24 (0, 0)) (by (with_reducible repeat (first | refine blk_drewN ?_ _ | refine blk_drew ?_ | refine blk_alloc ?_ _)); exact BK105.out) hg (Kd.R_ne HO_106000.out BK105.out (by decide))); have n4_ := Aside0.mk (blk_grown (g := gb110) (o := .cells #[.string (rdOf ByteArray.empty y106 x5_1), .int .i64 (wrap64 (1 + (Int.tmod x7_17 4))), .bool ((rd_T69 l0_0 x5_1).f2)] 69 (0, 0)) (by (with_reducible repeat (first | refine blk_drewN ?_ _ | refine blk_drew ?_ | refine blk_alloc ?_ _)); exact BK110.out) hg (Kd.R_away HO_106000.out (fun _ hk => hk))); have n5_ := Aside0.mk (hb); have n6_ := Aside0.mk (ho); clear HO_4; clear BK103; clear BK104; clear BK105; clear BK110; clear HB; clear HO_106000; have HO_4 := n0_; have BK103 := n1_; have BK104 := n2_; have BK105 := n3_; have BK110 := n4_; have HB := n5_; have HO117 := n6_; clear n0_ n1_ n2_ n3_ n4_ n5_ n6_; clear ho hb hg hat; obtain ⟨Ao64, co64, eo64⟩ := Kd.R_slice HO117.out; subst eo64; have hcz65_0 : w63.cell? ⟨gb105, 0, none⟩ = some (.slice Ao59 x106000_1.length co59) := (blk_cell BK105.out 0).trans rfl; have hcz65_1 : w63.cell? ⟨gb105, 1, none⟩ = some (.int .i64 0) := (blk_cell BK105.out 1).trans rfl; have hfz65_0 := blk_frozen BK105.out 0; have hfz65_1 := blk_frozen BK105.out 1))
                 go_roundg kj28
                 case measure => have := HK1.out; have := HJ6.out; have := HJ17.out; have := HJ28.out; omega
                 case rel => exact ⟨(wrap64 (x5_1 + 1)), (y115), (.slice Ao64 y115.length co64), (by first | rfl | (simp; done) | (simp [*]; done)), H', ⟨by have := HK1.out; have := HJ6.out; have := HJ17.out; have := HJ28.out; omega⟩, ⟨by (with_reducible repeat (first | apply Kd.R_alloc | apply Kd.R_drewN | apply Kd.R_drew)); exact Kd.R_mono (Kd.R_far (p := ⟨gb105, 0, none⟩) (Kd.R_types HO_4.out BK105.out (by decide)) (fun _ hk => hk.2) (.slice Ao64 y115.length co64)) (fun _ hk => trivial)⟩, ⟨by (with_reducible repeat (first | apply Kd.R_alloc | apply Kd.R_drewN | apply Kd.R_drew)); exact Kd.R_mono (Kd.R_far (p := ⟨gb105, 0, none⟩) (Kd.R_types HO117.out BK105.out (by decide)) (fun _ hk => hk.2) (.slice Ao64 y115.length co64)) (fun _ hk => trivial)⟩, ⟨by (with_reducible repeat (first | refine blk_drewN ?_ _ | refine blk_drew ?_ | refine blk_alloc ?_ _)); refine blk_far ?_ NB103_105.out _; (with_reducible repeat (first | refine blk_drewN ?_ _ | refine blk_drew ?_ | refine blk_alloc ?_ _)); exact BK103.out⟩, ⟨by (with_reducible repeat (first | refine blk_drewN ?_ _ | refine blk_drew ?_ | refine blk_alloc ?_ _)); refine blk_far ?_ NB104_105.out _; (with_reducible repeat (first | refine blk_drewN ?_ _ | refine blk_drew ?_ | refine blk_alloc ?_ _)); exact BK104.out⟩, ⟨by (with_reducible repeat (first | refine blk_drewN ?_ _ | refine blk_drew ?_ | refine blk_alloc ?_ _)); refine blk_put (cs := #[.slice Ao59 x106000_1.length co59, .int .i64 0]) ?_ 0 _ rfl; (with_reducible repeat (first | refine blk_drewN ?_ _ | refine blk_drew ?_ | refine blk_alloc ?_ _)); exact BK105.out⟩, ⟨by repeat (first | (with_reducible first | exact HB.out | apply below_alloc | apply pw_below_drewN | apply below_drew1 | refine below_set ?_ GE103.out | refine below_set ?_ GE104.out | refine below_set ?_ GE105.out | refine below_set ?_ GE110.out) | exact HB.out)⟩⟩
                ·rw [if_neg c50] at H
                 exact absurd H (by simp)
               ·rw [if_neg c49] at H
                have c49b0 : decide (t114 < 0) = false := decide_eq_false c49
                clear c49
                have H' := Aside0.mk H
                clear H
                obtain ⟨Ao66, co66, eo66⟩ := Kd.R_slice HO_4.out
                subst eo66
                have p113 : 0 ≤ (x5_1 : Int) := of_decide_eq_true (by first | (with_reducible assumption) | assumption)
                have q113 : x5_1 < (y106.length : Int) := of_decide_eq_true (by first | (with_reducible assumption) | assumption)
                obtain ⟨ad113, e113, hx113_0⟩ := Kd.at_string (Kd.R_reads' HO_4.out).2.2 x5_1 p113 q113
                cases e113
                replace p113 := eq_true p113
                replace q113 := eq_true q113
                have hnb67 := NB110_103.out
                have hnc67 := NB103_110.out
                have hnb68 := NB110_104.out
                have hnc68 := NB104_110.out
                have hnb69 := NB110_105.out
                have hnc69 := NB105_110.out
                have hcz70_0 : wc.cell? ⟨gb110, 0, none⟩ = some (.string ((rd_T69 l0_0 x5_1).f0)) := (blk_cell BK110.out 0).trans rfl
                have hcz70_1 : wc.cell? ⟨gb110, 1, none⟩ = some (.int .i64 (wrap64 (1 + (Int.tmod x7_17 4)))) := (blk_cell BK110.out 1).trans rfl
                have hcz70_2 : wc.cell? ⟨gb110, 2, none⟩ = some (.bool ((rd_T69 l0_0 x5_1).f2)) := (blk_cell BK110.out 2).trans rfl
                have hfz70_0 := blk_frozen BK110.out 0
                have hfz70_1 := blk_frozen BK110.out 1
                have hfz70_2 := blk_frozen BK110.out 2
                have hnb71 := NB105_103.out
                have hnc71 := NB103_105.out
                have hnb72 := NB105_104.out
                have hnc72 := NB104_105.out
                have hcz73_0 : wc.cell? ⟨gb105, 0, none⟩ = some (u106000) := (blk_cell BK105.out 0).trans rfl
                have hcz73_1 : wc.cell? ⟨gb105, 1, none⟩ = some (.int .i64 0) := (blk_cell BK105.out 1).trans rfl
                have hfz73_0 := blk_frozen BK105.out 0
                have hfz73_1 := blk_frozen BK105.out 1
                obtain ⟨Ao74, co74, eo74⟩ := Kd.R_slice HO_106000.out
                subst eo74
                go_wp2_with (first | ((with_reducible refine gate_callee (f := 41) rfl ?_); refine goesL_ (some 59) rfl rfl Tryd.func41 (by kernel_rfl) rfl #[.agg #[.slice Ao74 x106000_1.length co74, .int .i64 0], .string (rdOf ByteArray.empty y106 x5_1)] rfl (by (try simp only [List.map_toArray, List.map_cons, List.map_nil]); first | done | rfl | (simp only [List.length_drop, List.length_take]; rfl)) ?_; (with_reducible refine (pantographref04_Find.calls kj28 _ _ x106000_1 0 (rdOf ByteArray.empty y106 x5_1) t114 _ ?side1 ?side2 A48.out).mono ?_); (case side1 => refine (Kd.R_reads' (e := 69) (base := w.heap.size) (ok := fun k_ => k_ ≠ gb110) (n := x106000_1.length) (c := co74) ?_).2.2; exact (by (with_reducible repeat (first | apply Kd.R_alloc | apply Kd.R_drewN | apply Kd.R_drew)); exact (Kd.R_mono (Kd.R_far (p := ⟨gb110, 0, none⟩) (Kd.R_mono HO_106000.out (fun k_ hk => (⟨hk, hk⟩ : _ ∧ k_ ≠ gb110))) (fun _ hk => hk.2) (.string (rdOf ByteArray.empty y106 x5_1))) (fun _ h_ => h_.1)))); (case side2 => exact (Kd.R_reads' HO_106000.out).2.1); rintro e w75 ⟨rfl, hb⟩; refine ⟨_, rfl, ?_⟩; have n0_ := Aside0.mk (Kd.R_below (by (with_reducible repeat (first | apply Kd.R_alloc | apply Kd.R_drewN | apply Kd.R_drew)); exact (Kd.R_mono (Kd.R_far (p := ⟨gb110, 0, none⟩) (Kd.R_types HO_4.out BK110.out (by decide)) (fun _ hk => hk.2) (.string (rdOf ByteArray.empty y106 x5_1))) (fun _ h_ => h_.1))) hb); have n1_ := Aside0.mk (Kd.R_below (by (with_reducible repeat (first | apply Kd.R_alloc | apply Kd.R_drewN | apply Kd.R_drew)); exact (Kd.R_mono (Kd.R_far (p := ⟨gb110, 0, none⟩) (Kd.R_mono HO_106000.out (fun k_ hk => (⟨hk, hk⟩ : _ ∧ k_ ≠ gb110))) (fun _ hk => hk.2) (.string (rdOf ByteArray.empty y106 x5_1))) (fun _ h_ => h_.1))) hb); have n2_ := Aside0.mk (blk_below (g := gb103) (o := .cells #[.slice (some ad109) l0_0.length c0_0, .int .i64 a0_1] 24 (0, 0)) (by (with_reducible repeat (first | refine blk_drewN ?_ _ | refine blk_drew ?_ | refine blk_alloc ?_ _)); refine blk_far ?_ NB103_110.out _; (with_reducible repeat (first | refine blk_drewN ?_ _ | refine blk_drew ?_ | refine blk_alloc ?_ _)); exact BK103.out) hb); have n3_ := Aside0.mk (blk_below (g := gb104) (o := .cells #[.slice none 0 0, .int .i64 0] 24 (0, 0)) (by (with_reducible repeat (first | refine blk_drewN ?_ _ | refine blk_drew ?_ | refine blk_alloc ?_ _)); refine blk_far ?_ NB104_110.out _; (with_reducible repeat (first | refine blk_drewN ?_ _ | refine blk_drew ?_ | refine blk_alloc ?_ _)); exact BK104.out) hb); have n4_ := Aside0.mk (blk_below (g := gb105) (o := .cells #[.slice Ao74 x106000_1.length co74, .int .i64 0] 24 (0, 0)) (by (with_reducible repeat (first | refine blk_drewN ?_ _ | refine blk_drew ?_ | refine blk_alloc ?_ _)); refine blk_far ?_ NB105_110.out _; (with_reducible repeat (first | refine blk_drewN ?_ _ | refine blk_drew ?_ | refine blk_alloc ?_ _)); exact BK105.out) hb); have n5_ := Aside0.mk (blk_below (g := gb110) (o := .cells #[.string (rdOf ByteArray.empty y106 x5_1), .int .i64 (wrap64 (1 + (Int.tmod x7_17 4))), .bool ((rd_T69 l0_0 x5_1).f2)] 69 (0, 0)) (by (with_reducible repeat (first | refine blk_drewN ?_ _ | refine blk_drew ?_ | refine blk_alloc ?_ _)); refine blk_put (cs := #[.string ((rd_T69 l0_0 x5_1).f0), .int .i64 (wrap64 (1 + (Int.tmod x7_17 4))), .bool ((rd_T69 l0_0 x5_1).f2)]) ?_ 0 _ rfl; (with_reducible repeat (first | refine blk_drewN ?_ _ | refine blk_drew ?_ | refine blk_alloc ?_ _)); exact BK110.out) hb); have n6_ := Aside0.mk (below_step (by repeat (first | (with_reducible first | exact HB.out | apply below_alloc | apply pw_below_drewN | apply below_drew1 | refine below_set ?_ GE103.out | refine below_set ?_ GE104.out | refine below_set ?_ GE105.out | refine below_set ?_ GE110.out) | exact HB.out)) hb); clear HO_4; clear HO_106000; clear BK103; clear BK104; clear BK105; clear BK110; clear HB; have HO_4 := n0_; have HO_106000 := n1_; have BK103 := n2_; have BK104 := n3_; have BK105 := n4_; have BK110 := n5_; have HB := n6_; clear n0_ n1_ n2_ n3_ n4_ n5_ n6_; (try clear hb); (try clear hb2); (try clear hk); (try clear hi)))
                go_roundg kj28
                case measure => have := HK1.out; have := HJ6.out; have := HJ17.out; have := HJ28.out; omega
                case rel => exact ⟨(wrap64 (x5_1 + 1)), (x106000_1), (.slice Ao74 x106000_1.length co74), (by first | rfl | (simp; done) | (simp [*]; done)), H', ⟨by have := HK1.out; have := HJ6.out; have := HJ17.out; have := HJ28.out; omega⟩, ⟨by (with_reducible repeat (first | apply Kd.R_alloc | apply Kd.R_drewN | apply Kd.R_drew)); exact HO_4.out⟩, ⟨by (with_reducible repeat (first | apply Kd.R_alloc | apply Kd.R_drewN | apply Kd.R_drew)); exact Kd.R_mono HO_106000.out (fun _ hk => trivial)⟩, ⟨by (with_reducible repeat (first | refine blk_drewN ?_ _ | refine blk_drew ?_ | refine blk_alloc ?_ _)); exact BK103.out⟩, ⟨by (with_reducible repeat (first | refine blk_drewN ?_ _ | refine blk_drew ?_ | refine blk_alloc ?_ _)); exact BK104.out⟩, ⟨by (with_reducible repeat (first | refine blk_drewN ?_ _ | refine blk_drew ?_ | refine blk_alloc ?_ _)); exact BK105.out⟩, ⟨by repeat (first | (with_reducible first | exact HB.out | apply below_alloc | apply pw_below_drewN | apply below_drew1 | refine below_set ?_ GE103.out | refine below_set ?_ GE104.out | refine below_set ?_ GE105.out | refine below_set ?_ GE110.out) | exact HB.out)⟩⟩
              ·rw [if_neg c47] at H
               exact absurd H (by simp)
             ·rw [if_neg c46] at H
              exact absurd H (by simp)
            ·replace c45 := Bool.eq_false_iff.mpr c45
             subst c45
             have H1 : ((pantographref04_Find.f kj28 x106000_1 0 ((rd_T69 l0_0 x5_1).f0)).bind fun t118 => (if t118 < 0 then (if x106000_1.length < 4398046511104 then (pantographref04_Good.l0 kj28 y106 (wrap64 (x5_1 + 1)) l0_0 a0_1 (x106000_1 ++ [(⟨((rd_T69 l0_0 x5_1).f0), (wrap64 (1 + (Int.tmod x7_17 4))), ((rd_T69 l0_0 x5_1).f2)⟩ : S69)]) 0) else (none)) else (pantographref04_Good.l0 kj28 y106 (wrap64 (x5_1 + 1)) l0_0 a0_1 x106000_1 0))) = some (r1, r2) := by rw [if_neg (show ¬ (false = true) by decide)] at H; exact H
             clear H
             have H := H1
             clear H1
             replace H := Option.bind_eq_some_iff.mp H
             obtain ⟨t118, A760, H⟩ := H
             replace H : (if t118 < 0 then (if x106000_1.length < 4398046511104 then (pantographref04_Good.l0 kj28 y106 (wrap64 (x5_1 + 1)) l0_0 a0_1 (x106000_1 ++ [(⟨((rd_T69 l0_0 x5_1).f0), (wrap64 (1 + (Int.tmod x7_17 4))), ((rd_T69 l0_0 x5_1).f2)⟩ : S69)]) 0) else (none)) else (pantographref04_Good.l0 kj28 y106 (wrap64 (x5_1 + 1)) l0_0 a0_1 x106000_1 0)) = some (r1, r2) := H
             have A76 := Aside0.mk A760
             clear A760
             by_cases c77 : t118 < 0
             ·rw [if_pos c77] at H
              have c77b0 : decide (t118 < 0) = true := decide_eq_true c77
              clear c77
              by_cases c78 : x106000_1.length < 4398046511104
              ·rw [if_pos c78] at H
               have LMc78 := Aside0.mk c78
               clear c78
               obtain ⟨y119, hy119⟩ : ∃ y_ : List (S69), y_ = (x106000_1 ++ [(⟨((rd_T69 l0_0 x5_1).f0), (wrap64 (1 + (Int.tmod x7_17 4))), ((rd_T69 l0_0 x5_1).f2)⟩ : S69)]) := ⟨_, rfl⟩
               replace H : (pantographref04_Good.l0 kj28 y106 (wrap64 (x5_1 + 1)) l0_0 a0_1 y119 0) = some (r1, r2) := by first | (rw [hy119]; with_reducible exact H) | (have H2_ := (Option.bind_some _ _).symm.trans H; rw [hy119]; with_reducible exact H2_) | (have H2_ := (Option.bind_some _ _).symm.trans H; with_reducible exact H2_) | with_reducible exact H | (rw [hy119]; exact H) | exact H
               have Ny119 := Aside0.mk hy119
               clear hy119
               have H' := Aside0.mk H
               clear H
               have hnb79 := NB105_103.out
               have hnc79 := NB103_105.out
               have hnb80 := NB105_104.out
               have hnc80 := NB104_105.out
               have hnb81 := NB105_110.out
               have hnc81 := NB110_105.out
               have hcz82_0 : wc.cell? ⟨gb105, 0, none⟩ = some (u106000) := (blk_cell BK105.out 0).trans rfl
               have hcz82_1 : wc.cell? ⟨gb105, 1, none⟩ = some (.int .i64 0) := (blk_cell BK105.out 1).trans rfl
               have hfz82_0 := blk_frozen BK105.out 0
               have hfz82_1 := blk_frozen BK105.out 1
               have hnb83 := NB110_103.out
               have hnc83 := NB103_110.out
               have hnb84 := NB110_104.out
               have hnc84 := NB104_110.out
               have hcz85_0 : wc.cell? ⟨gb110, 0, none⟩ = some (.string ((rd_T69 l0_0 x5_1).f0)) := (blk_cell BK110.out 0).trans rfl
               have hcz85_1 : wc.cell? ⟨gb110, 1, none⟩ = some (.int .i64 (wrap64 (1 + (Int.tmod x7_17 4)))) := (blk_cell BK110.out 1).trans rfl
               have hcz85_2 : wc.cell? ⟨gb110, 2, none⟩ = some (.bool ((rd_T69 l0_0 x5_1).f2)) := (blk_cell BK110.out 2).trans rfl
               have hfz85_0 := blk_frozen BK110.out 0
               have hfz85_1 := blk_frozen BK110.out 1
               have hfz85_2 := blk_frozen BK110.out 2
               obtain ⟨Ao86, co86, eo86⟩ := Kd.R_slice HO_106000.out
               subst eo86
               go_wp2_with (first | ((with_reducible refine gate_callee (f := 41) rfl ?_); refine goesL_ (some 59) rfl rfl Tryd.func41 (by kernel_rfl) rfl #[.agg #[.slice Ao86 x106000_1.length co86, .int .i64 0], .string ((rd_T69 l0_0 x5_1).f0)] rfl (by (try simp only [List.map_toArray, List.map_cons, List.map_nil]); first | done | rfl | (simp only [List.length_drop, List.length_take]; rfl)) ?_; (with_reducible refine (pantographref04_Find.calls kj28 _ _ x106000_1 0 ((rd_T69 l0_0 x5_1).f0) t118 _ ?side1 ?side2 A76.out).mono ?_); (case side1 => repeat (first | exact (Kd.R_reads' HO_106000.out).2.2 | (with_reducible refine Kd.C_alloc ?_ _) | (with_reducible refine Kd.C_drewN ?_ _) | (with_reducible refine Kd.C_drew ?_))); (case side2 => exact (Kd.R_reads' HO_106000.out).2.1); rintro e w87 ⟨rfl, hb⟩; refine ⟨_, rfl, ?_⟩; have n0_ := Aside0.mk (Kd.R_below (by (with_reducible repeat (first | apply Kd.R_alloc | apply Kd.R_drewN | apply Kd.R_drew)); exact HO_4.out) hb); have n1_ := Aside0.mk (Kd.R_below (by (with_reducible repeat (first | apply Kd.R_alloc | apply Kd.R_drewN | apply Kd.R_drew)); exact HO_106000.out) hb); have n2_ := Aside0.mk (blk_below (g := gb103) (o := .cells #[.slice (some ad109) l0_0.length c0_0, .int .i64 a0_1] 24 (0, 0)) (by (with_reducible repeat (first | refine blk_drewN ?_ _ | refine blk_drew ?_ | refine blk_alloc ?_ _)); exact BK103.out) hb); have n3_ := Aside0.mk (blk_below (g := gb104) (o := .cells #[.slice none 0 0, .int .i64 0] 24 (0, 0)) (by (with_reducible repeat (first | refine blk_drewN ?_ _ | refine blk_drew ?_ | refine blk_alloc ?_ _)); exact BK104.out) hb); have n4_ := Aside0.mk (blk_below (g := gb105) (o := .cells #[.slice Ao86 x106000_1.length co86, .int .i64 0] 24 (0, 0)) (by (with_reducible repeat (first | refine blk_drewN ?_ _ | refine blk_drew ?_ | refine blk_alloc ?_ _)); exact BK105.out) hb); have n5_ := Aside0.mk (blk_below (g := gb110) (o := .cells #[.string ((rd_T69 l0_0 x5_1).f0), .int .i64 (wrap64 (1 + (Int.tmod x7_17 4))), .bool ((rd_T69 l0_0 x5_1).f2)] 69 (0, 0)) (by (with_reducible repeat (first | refine blk_drewN ?_ _ | refine blk_drew ?_ | refine blk_alloc ?_ _)); exact BK110.out) hb); have n6_ := Aside0.mk (below_step (by repeat (first | (with_reducible first | exact HB.out | apply below_alloc | apply pw_below_drewN | apply below_drew1 | refine below_set ?_ GE103.out | refine below_set ?_ GE104.out | refine below_set ?_ GE105.out | refine below_set ?_ GE110.out) | exact HB.out)) hb); clear HO_4; clear HO_106000; clear BK103; clear BK104; clear BK105; clear BK110; clear HB; have HO_4 := n0_; have HO_106000 := n1_; have BK103 := n2_; have BK104 := n3_; have BK105 := n4_; have BK110 := n5_; have HB := n6_; clear n0_ n1_ n2_ n3_ n4_ n5_ n6_; (try clear hb); (try clear hb2); (try clear hk); (try clear hi); have hcz88_0 : w87.cell? ⟨gb105, 0, none⟩ = some (.slice Ao86 x106000_1.length co86) := (blk_cell BK105.out 0).trans rfl; have hcz88_1 : w87.cell? ⟨gb105, 1, none⟩ = some (.int .i64 0) := (blk_cell BK105.out 1).trans rfl; have hfz88_0 := blk_frozen BK105.out 0; have hfz88_1 := blk_frozen BK105.out 1; have hcz89_0 : w87.cell? ⟨gb110, 0, none⟩ = some (.string ((rd_T69 l0_0 x5_1).f0)) := (blk_cell BK110.out 0).trans rfl; have hcz89_1 : w87.cell? ⟨gb110, 1, none⟩ = some (.int .i64 (wrap64 (1 + (Int.tmod x7_17 4)))) := (blk_cell BK110.out 1).trans rfl; have hcz89_2 : w87.cell? ⟨gb110, 2, none⟩ = some (.bool ((rd_T69 l0_0 x5_1).f2)) := (blk_cell BK110.out 2).trans rfl; have hfz89_0 := blk_frozen BK110.out 0; have hfz89_1 := blk_frozen BK110.out 1; have hfz89_2 := blk_frozen BK110.out 2) | ((with_reducible refine gate_builtin (b := .append) (xs := #[.tmp 62, .tmp 64]) rfl ?_); at_builtin; refine Kd.R_append k69 (w0 := w) w.heap.size rfl (.tmp 62) (.tmp 64) 22 69 (.agg #[(.string ⟨#[]⟩), (.int .i64 0), (.bool false)]) 32 rfl Tryd.underlying22 info69 rfl (by decide) (by omega) (.slice Ao86 x106000_1.length co86) x106000_1 (⟨((rd_T69 l0_0 x5_1).f0), (wrap64 (1 + (Int.tmod x7_17 4))), ((rd_T69 l0_0 x5_1).f2)⟩ : S69) [.string ((rd_T69 l0_0 x5_1).f0), .int .i64 (wrap64 (1 + (Int.tmod x7_17 4))), .bool ((rd_T69 l0_0 x5_1).f2)] (fun k_ => k_ ≠ gb110) (fun _ => False) rfl rfl ?aP (fun _ hk => hk.elim) ?aF ?aO ?aB ?aS ?aL ?_; (case aP => exact k69_mkM _ _ _ (⟨((rd_T69 l0_0 x5_1).f0), (wrap64 (1 + (Int.tmod x7_17 4))), ((rd_T69 l0_0 x5_1).f2)⟩ : S69)); (case aB => exact (by repeat (first | (with_reducible first | exact HB.out | apply below_alloc | apply pw_below_drewN | apply below_drew1 | refine below_set ?_ GE103.out | refine below_set ?_ GE104.out | refine below_set ?_ GE105.out | refine below_set ?_ GE110.out) | exact HB.out))); (case aF => exact (fun k_ hk => Kd.freshB (g := gb110) (o := .cells #[.string ((rd_T69 l0_0 x5_1).f0), .int .i64 (wrap64 (1 + (Int.tmod x7_17 4))), .bool ((rd_T69 l0_0 x5_1).f2)] 69 (0, 0)) (by (with_reducible repeat (first | refine blk_drewN ?_ _ | refine blk_drew ?_ | refine blk_alloc ?_ _)); exact BK110.out) k_ hk)); (case aO => exact (by (with_reducible repeat (first | apply Kd.R_alloc | apply Kd.R_drewN | apply Kd.R_drew)); exact HO_106000.out)); (case aS => exact (below_size (by repeat (first | (with_reducible first | exact HB.out | apply below_alloc | apply pw_below_drewN | apply below_drew1 | refine below_set ?_ GE103.out | refine below_set ?_ GE104.out | refine below_set ?_ GE105.out | refine below_set ?_ GE110.out) | exact HB.out)))); (case aL => have := LMc78.out; omega); intro v120 w90 ho hb hg hat; rw [← Ny119.out] at ho; have n0_ := Aside0.mk (Kd.R_over' (by (with_reducible repeat (first | apply Kd.R_alloc | apply Kd.R_drewN | apply Kd.R_drew)); exact HO_4.out) (Kd.R_typed (by (with_reducible repeat (first | apply Kd.R_alloc | apply Kd.R_drewN | apply Kd.R_drew)); exact HO_106000.out)) (by decide) hg); have n1_ := Aside0.mk (blk_grown (g := gb103) (o := .cells #[.slice (some ad109) l0_0.length c0_0, .int .i64 a0_1] 24 (0, 0)) (by (with_reducible repeat (first | refine blk_drewN ?_ _ | refine blk_drew ?_ | refine blk_alloc ?_ _)); exact BK103.out) hg (Kd.R_ne HO_106000.out BK103.out (by decide))); have n2_ := Aside0.mk (blk_grown (g := gb104) (o := .cells #[.slice none 0 0, .int .i64 0] 24 (0, 0)) (by (with_reducible repeat (first | refine blk_drewN ?_ _ | refine blk_drew ?_ | refine blk_alloc ?_ _)); exact BK104.out) hg (Kd.R_ne HO_106000.out BK104.out (by decide))); have n3_ := Aside0.mk (blk_grown (g := gb105) (o := .cells #[.slice Ao86 x106000_1.length co86, .int .i64 0] 24 (0, 0)) (by (with_reducible repeat (first | refine blk_drewN ?_ _ | refine blk_drew ?_ | refine blk_alloc ?_ _)); exact BK105.out) hg (Kd.R_ne HO_106000.out BK105.out (by decide))); have n4_ := Aside0.mk (blk_grown (g := gb110) (o := .cells #[.string ((rd_T69 l0_0 x5_1).f0), .int .i64 (wrap64 (1 + (Int.tmod x7_17 4))), .bool ((rd_T69 l0_0 x5_1).f2)] 69 (0, 0)) (by (with_reducible repeat (first | refine blk_drewN ?_ _ | refine blk_drew ?_ | refine blk_alloc ?_ _)); exact BK110.out) hg (Kd.R_away HO_106000.out (fun _ hk => hk))); have n5_ := Aside0.mk (hb); have n6_ := Aside0.mk (ho); clear HO_4; clear BK103; clear BK104; clear BK105; clear BK110; clear HB; clear HO_106000; have HO_4 := n0_; have BK103 := n1_; have BK104 := n2_; have BK105 := n3_; have BK110 := n4_; have HB := n5_; have HO121 := n6_; clear n0_ n1_ n2_ n3_ n4_ n5_ n6_; clear ho hb hg hat; obtain ⟨Ao91, co91, eo91⟩ := Kd.R_slice HO121.out; subst eo91; have hcz92_0 : w90.cell? ⟨gb105, 0, none⟩ = some (.slice Ao86 x106000_1.length co86) := (blk_cell BK105.out 0).trans rfl; have hcz92_1 : w90.cell? ⟨gb105, 1, none⟩ = some (.int .i64 0) := (blk_cell BK105.out 1).trans rfl; have hfz92_0 := blk_frozen BK105.out 0; have hfz92_1 := blk_frozen BK105.out 1))
               go_roundg kj28
               case measure => have := HK1.out; have := HJ6.out; have := HJ17.out; have := HJ28.out; omega
               case rel => exact ⟨(wrap64 (x5_1 + 1)), (y119), (.slice Ao91 y119.length co91), (by first | rfl | (simp; done) | (simp [*]; done)), H', ⟨by have := HK1.out; have := HJ6.out; have := HJ17.out; have := HJ28.out; omega⟩, ⟨by (with_reducible repeat (first | apply Kd.R_alloc | apply Kd.R_drewN | apply Kd.R_drew)); exact Kd.R_mono (Kd.R_far (p := ⟨gb105, 0, none⟩) (Kd.R_types HO_4.out BK105.out (by decide)) (fun _ hk => hk.2) (.slice Ao91 y119.length co91)) (fun _ hk => trivial)⟩, ⟨by (with_reducible repeat (first | apply Kd.R_alloc | apply Kd.R_drewN | apply Kd.R_drew)); exact Kd.R_mono (Kd.R_far (p := ⟨gb105, 0, none⟩) (Kd.R_types HO121.out BK105.out (by decide)) (fun _ hk => hk.2) (.slice Ao91 y119.length co91)) (fun _ hk => trivial)⟩, ⟨by (with_reducible repeat (first | refine blk_drewN ?_ _ | refine blk_drew ?_ | refine blk_alloc ?_ _)); refine blk_far ?_ NB103_105.out _; (with_reducible repeat (first | refine blk_drewN ?_ _ | refine blk_drew ?_ | refine blk_alloc ?_ _)); exact BK103.out⟩, ⟨by (with_reducible repeat (first | refine blk_drewN ?_ _ | refine blk_drew ?_ | refine blk_alloc ?_ _)); refine blk_far ?_ NB104_105.out _; (with_reducible repeat (first | refine blk_drewN ?_ _ | refine blk_drew ?_ | refine blk_alloc ?_ _)); exact BK104.out⟩, ⟨by (with_reducible repeat (first | refine blk_drewN ?_ _ | refine blk_drew ?_ | refine blk_alloc ?_ _)); refine blk_put (cs := #[.slice Ao86 x106000_1.length co86, .int .i64 0]) ?_ 0 _ rfl; (with_reducible repeat (first | refine blk_drewN ?_ _ | refine blk_drew ?_ | refine blk_alloc ?_ _)); exact BK105.out⟩, ⟨by repeat (first | (with_reducible first | exact HB.out | apply below_alloc | apply pw_below_drewN | apply below_drew1 | refine below_set ?_ GE103.out | refine below_set ?_ GE104.out | refine below_set ?_ GE105.out | refine below_set ?_ GE110.out) | exact HB.out)⟩⟩
              ·rw [if_neg c78] at H
               exact absurd H (by simp)
             ·rw [if_neg c77] at H
              have c77b0 : decide (t118 < 0) = false := decide_eq_false c77
              clear c77
              have H' := Aside0.mk H
              clear H
              have hnb93 := NB105_103.out
              have hnc93 := NB103_105.out
              have hnb94 := NB105_104.out
              have hnc94 := NB104_105.out
              have hnb95 := NB105_110.out
              have hnc95 := NB110_105.out
              have hcz96_0 : wc.cell? ⟨gb105, 0, none⟩ = some (u106000) := (blk_cell BK105.out 0).trans rfl
              have hcz96_1 : wc.cell? ⟨gb105, 1, none⟩ = some (.int .i64 0) := (blk_cell BK105.out 1).trans rfl
              have hfz96_0 := blk_frozen BK105.out 0
              have hfz96_1 := blk_frozen BK105.out 1
              have hnb97 := NB110_103.out
              have hnc97 := NB103_110.out
              have hnb98 := NB110_104.out
              have hnc98 := NB104_110.out
              have hcz99_0 : wc.cell? ⟨gb110, 0, none⟩ = some (.string ((rd_T69 l0_0 x5_1).f0)) := (blk_cell BK110.out 0).trans rfl
              have hcz99_1 : wc.cell? ⟨gb110, 1, none⟩ = some (.int .i64 (wrap64 (1 + (Int.tmod x7_17 4)))) := (blk_cell BK110.out 1).trans rfl
              have hcz99_2 : wc.cell? ⟨gb110, 2, none⟩ = some (.bool ((rd_T69 l0_0 x5_1).f2)) := (blk_cell BK110.out 2).trans rfl
              have hfz99_0 := blk_frozen BK110.out 0
              have hfz99_1 := blk_frozen BK110.out 1
              have hfz99_2 := blk_frozen BK110.out 2
              obtain ⟨Ao100, co100, eo100⟩ := Kd.R_slice HO_106000.out
              subst eo100
              go_wp2_with (first | ((with_reducible refine gate_callee (f := 41) rfl ?_); refine goesL_ (some 59) rfl rfl Tryd.func41 (by kernel_rfl) rfl #[.agg #[.slice Ao100 x106000_1.length co100, .int .i64 0], .string ((rd_T69 l0_0 x5_1).f0)] rfl (by (try simp only [List.map_toArray, List.map_cons, List.map_nil]); first | done | rfl | (simp only [List.length_drop, List.length_take]; rfl)) ?_; (with_reducible refine (pantographref04_Find.calls kj28 _ _ x106000_1 0 ((rd_T69 l0_0 x5_1).f0) t118 _ ?side1 ?side2 A76.out).mono ?_); (case side1 => repeat (first | exact (Kd.R_reads' HO_106000.out).2.2 | (with_reducible refine Kd.C_alloc ?_ _) | (with_reducible refine Kd.C_drewN ?_ _) | (with_reducible refine Kd.C_drew ?_))); (case side2 => exact (Kd.R_reads' HO_106000.out).2.1); rintro e w101 ⟨rfl, hb⟩; refine ⟨_, rfl, ?_⟩; have n0_ := Aside0.mk (Kd.R_below (by (with_reducible repeat (first | apply Kd.R_alloc | apply Kd.R_drewN | apply Kd.R_drew)); exact HO_4.out) hb); have n1_ := Aside0.mk (Kd.R_below (by (with_reducible repeat (first | apply Kd.R_alloc | apply Kd.R_drewN | apply Kd.R_drew)); exact HO_106000.out) hb); have n2_ := Aside0.mk (blk_below (g := gb103) (o := .cells #[.slice (some ad109) l0_0.length c0_0, .int .i64 a0_1] 24 (0, 0)) (by (with_reducible repeat (first | refine blk_drewN ?_ _ | refine blk_drew ?_ | refine blk_alloc ?_ _)); exact BK103.out) hb); have n3_ := Aside0.mk (blk_below (g := gb104) (o := .cells #[.slice none 0 0, .int .i64 0] 24 (0, 0)) (by (with_reducible repeat (first | refine blk_drewN ?_ _ | refine blk_drew ?_ | refine blk_alloc ?_ _)); exact BK104.out) hb); have n4_ := Aside0.mk (blk_below (g := gb105) (o := .cells #[.slice Ao100 x106000_1.length co100, .int .i64 0] 24 (0, 0)) (by (with_reducible repeat (first | refine blk_drewN ?_ _ | refine blk_drew ?_ | refine blk_alloc ?_ _)); exact BK105.out) hb); have n5_ := Aside0.mk (blk_below (g := gb110) (o := .cells #[.string ((rd_T69 l0_0 x5_1).f0), .int .i64 (wrap64 (1 + (Int.tmod x7_17 4))), .bool ((rd_T69 l0_0 x5_1).f2)] 69 (0, 0)) (by (with_reducible repeat (first | refine blk_drewN ?_ _ | refine blk_drew ?_ | refine blk_alloc ?_ _)); exact BK110.out) hb); have n6_ := Aside0.mk (below_step (by repeat (first | (with_reducible first | exact HB.out | apply below_alloc | apply pw_below_drewN | apply below_drew1 | refine below_set ?_ GE103.out | refine below_set ?_ GE104.out | refine below_set ?_ GE105.out | refine below_set ?_ GE110.out) | exact HB.out)) hb); clear HO_4; clear HO_106000; clear BK103; clear BK104; clear BK105; clear BK110; clear HB; have HO_4 := n0_; have HO_106000 := n1_; have BK103 := n2_; have BK104 := n3_; have BK105 := n4_; have BK110 := n5_; have HB := n6_; clear n0_ n1_ n2_ n3_ n4_ n5_ n6_; (try clear hb); (try clear hb2); (try clear hk); (try clear hi)))
              go_roundg kj28
              case measure => have := HK1.out; have := HJ6.out; have := HJ17.out; have := HJ28.out; omega
              case rel => exact ⟨(wrap64 (x5_1 + 1)), (x106000_1), (.slice Ao100 x106000_1.length co100), (by first | rfl | (simp; done) | (simp [*]; done)), H', ⟨by have := HK1.out; have := HJ6.out; have := HJ17.out; have := HJ28.out; omega⟩, ⟨by (with_reducible repeat (first | apply Kd.R_alloc | apply Kd.R_drewN | apply Kd.R_drew)); exact HO_4.out⟩, ⟨by (with_reducible repeat (first | apply Kd.R_alloc | apply Kd.R_drewN | apply Kd.R_drew)); exact Kd.R_mono HO_106000.out (fun _ hk => trivial)⟩, ⟨by (with_reducible repeat (first | refine blk_drewN ?_ _ | refine blk_drew ?_ | refine blk_alloc ?_ _)); exact BK103.out⟩, ⟨by (with_reducible repeat (first | refine blk_drewN ?_ _ | refine blk_drew ?_ | refine blk_alloc ?_ _)); exact BK104.out⟩, ⟨by (with_reducible repeat (first | refine blk_drewN ?_ _ | refine blk_drew ?_ | refine blk_alloc ?_ _)); exact BK105.out⟩, ⟨by repeat (first | (with_reducible first | exact HB.out | apply below_alloc | apply pw_below_drewN | apply below_drew1 | refine below_set ?_ GE103.out | refine below_set ?_ GE104.out | refine below_set ?_ GE105.out | refine below_set ?_ GE110.out) | exact HB.out)⟩⟩
       ·rw [if_neg c17] at H
        exact absurd H (by simp)
      ·rw [if_neg c16] at H
       exact absurd H (by simp)
     ·replace c15 := Bool.eq_false_iff.mpr c15
      subst c15
      have H1 : (if (x106000_1.length : Int) = 0 then (if x106000_1.length < 4398046511104 then (pantographref04_Good.j4 kj6 l0_0 a0_1 (x106000_1 ++ [(⟨(⟨#[105, 100]⟩ : ByteArray), 2, false⟩ : S69)]) 0) else (none)) else (pantographref04_Good.j4 kj6 l0_0 a0_1 x106000_1 0)) = some (r1, r2) := by rw [if_neg (show ¬ (false = true) by decide)] at H; exact H
      clear H
      have H := H1
      clear H1
      have HC102 := Aside0.mk H
      clear H
      have hnb103 := NB105_103.out
      have hnc103 := NB103_105.out
      have hnb104 := NB105_104.out
      have hnc104 := NB104_105.out
      have hcz105_0 : wc.cell? ⟨gb105, 0, none⟩ = some (u106000) := (blk_cell BK105.out 0).trans rfl
      have hcz105_1 : wc.cell? ⟨gb105, 1, none⟩ = some (.int .i64 0) := (blk_cell BK105.out 1).trans rfl
      have hfz105_0 := blk_frozen BK105.out 0
      have hfz105_1 := blk_frozen BK105.out 1
      obtain ⟨Ao106, co106, eo106⟩ := Kd.R_slice HO_106000.out
      subst eo106
      go_upto_if 70 with (fail)
      go_cut [] (fun wc => ∃ (kq : Nat) (x106000_101 : List (S69)) (u106000 : Value), Aside0 (pantographref04_Good.j4 kq l0_0 a0_1 x106000_101 0 = some (r1, r2)) ∧ Aside0 (kq ≤ kj6) ∧ Aside0 (Kd.R k69 69 wc w.heap.size (fun _ => True) u106000 x106000_101) ∧ Aside0 (wc.heap[gb103]? = some (.cells #[(.slice A0_0 l0_0.length c0_0), .int .i64 a0_1] 24 (0, 0))) ∧ Aside0 (wc.heap[gb104]? = some (.cells #[(.slice none 0 0), .int .i64 0] 24 (0, 0))) ∧ Aside0 (wc.heap[gb105]? = some (.cells #[u106000, .int .i64 0] 24 (0, 0))) ∧ Aside0 (Below w.heap.size w wc))
      case first =>
       have H := HC102.out
       clear HC102
       by_cases c107 : (x106000_1.length : Int) = 0
       ·rw [if_pos c107] at H
        have c107b0 : ((x106000_1.length : Int) == 0) = true := beq_iff_eq.mpr c107
        have c107b1 : ((x106000_1.length : Int) != 0) = false := bne_eq_false_iff_eq.mpr c107
        clear c107
        (first | rw [c107b0] | (simp only [i64_w, i32_w]; rw [c107b0]) | skip)
        by_cases c108 : x106000_1.length < 4398046511104
        ·rw [if_pos c108] at H
         have LMc108 := Aside0.mk c108
         clear c108
         obtain ⟨y122, hy122⟩ : ∃ y_ : List (S69), y_ = (x106000_1 ++ [(⟨(⟨#[105, 100]⟩ : ByteArray), 2, false⟩ : S69)]) := ⟨_, rfl⟩
         replace H : (pantographref04_Good.j4 kj6 l0_0 a0_1 y122 0) = some (r1, r2) := by first | (rw [hy122]; with_reducible exact H) | (have H2_ := (Option.bind_some _ _).symm.trans H; rw [hy122]; with_reducible exact H2_) | (have H2_ := (Option.bind_some _ _).symm.trans H; with_reducible exact H2_) | with_reducible exact H | (rw [hy122]; exact H) | exact H
         have Ny122 := Aside0.mk hy122
         clear hy122
         have H' := Aside0.mk H
         clear H
         have hnb109 := NB105_103.out
         have hnc109 := NB103_105.out
         have hnb110 := NB105_104.out
         have hnc110 := NB104_105.out
         have hcz111_0 : wc.cell? ⟨gb105, 0, none⟩ = some (.slice Ao106 x106000_1.length co106) := (blk_cell BK105.out 0).trans rfl
         have hcz111_1 : wc.cell? ⟨gb105, 1, none⟩ = some (.int .i64 0) := (blk_cell BK105.out 1).trans rfl
         have hfz111_0 := blk_frozen BK105.out 0
         have hfz111_1 := blk_frozen BK105.out 1
         go_wp2_with (first | ((with_reducible refine gate_builtin (b := .append) (xs := #[.tmp 72, .tmp 74]) rfl ?_); at_builtin; refine Kd.R_append k69 (w0 := w) w.heap.size rfl (.tmp 72) (.tmp 74) 22 69 (.agg #[(.string ⟨#[]⟩), (.int .i64 0), (.bool false)]) 32 rfl Tryd.underlying22 info69 rfl (by decide) (by omega) (.slice Ao106 x106000_1.length co106) x106000_1 (⟨(⟨#[105, 100]⟩ : ByteArray), 2, false⟩ : S69) [.string (⟨#[105, 100]⟩ : ByteArray), .int .i64 2, .bool false] (fun _ => True) (fun _ => False) rfl rfl ?aP (fun _ hk => hk.elim) ?aF ?aO ?aB ?aS ?aL ?_; (case aP => exact k69_mkM _ _ _ (⟨(⟨#[105, 100]⟩ : ByteArray), 2, false⟩ : S69)); (case aB => exact (by repeat (first | (with_reducible first | exact HB.out | apply below_alloc | apply pw_below_drewN | apply below_drew1 | refine below_set ?_ GE103.out | refine below_set ?_ GE104.out | refine below_set ?_ GE105.out) | exact HB.out))); (case aF => exact (fun _ _ => trivial)); (case aO => exact (by (with_reducible repeat (first | apply Kd.R_alloc | apply Kd.R_drewN | apply Kd.R_drew)); exact HO_106000.out)); (case aS => exact (below_size (by repeat (first | (with_reducible first | exact HB.out | apply below_alloc | apply pw_below_drewN | apply below_drew1 | refine below_set ?_ GE103.out | refine below_set ?_ GE104.out | refine below_set ?_ GE105.out) | exact HB.out)))); (case aL => have := LMc108.out; omega); intro v123 w112 ho hb hg hat; rw [← Ny122.out] at ho; have n0_ := Aside0.mk (Kd.R_over' (by (with_reducible repeat (first | apply Kd.R_alloc | apply Kd.R_drewN | apply Kd.R_drew)); exact HO_4.out) (Kd.R_typed (by (with_reducible repeat (first | apply Kd.R_alloc | apply Kd.R_drewN | apply Kd.R_drew)); exact HO_106000.out)) (by decide) hg); have n1_ := Aside0.mk (blk_grown (g := gb103) (o := .cells #[.slice A0_0 l0_0.length c0_0, .int .i64 a0_1] 24 (0, 0)) (by (with_reducible repeat (first | refine blk_drewN ?_ _ | refine blk_drew ?_ | refine blk_alloc ?_ _)); exact BK103.out) hg (Kd.R_ne HO_106000.out BK103.out (by decide))); have n2_ := Aside0.mk (blk_grown (g := gb104) (o := .cells #[.slice none 0 0, .int .i64 0] 24 (0, 0)) (by (with_reducible repeat (first | refine blk_drewN ?_ _ | refine blk_drew ?_ | refine blk_alloc ?_ _)); exact BK104.out) hg (Kd.R_ne HO_106000.out BK104.out (by decide))); have n3_ := Aside0.mk (blk_grown (g := gb105) (o := .cells #[.slice Ao106 x106000_1.length co106, .int .i64 0] 24 (0, 0)) (by (with_reducible repeat (first | refine blk_drewN ?_ _ | refine blk_drew ?_ | refine blk_alloc ?_ _)); exact BK105.out) hg (Kd.R_ne HO_106000.out BK105.out (by decide))); have n4_ := Aside0.mk (hb); have n5_ := Aside0.mk (ho); clear HO_4; clear BK103; clear BK104; clear BK105; clear HB; clear HO_106000; have HO_4 := n0_; have BK103 := n1_; have BK104 := n2_; have BK105 := n3_; have HB := n4_; have HO124 := n5_; clear n0_ n1_ n2_ n3_ n4_ n5_; clear ho hb hg hat; obtain ⟨Ao113, co113, eo113⟩ := Kd.R_slice HO124.out; subst eo113; have hcz114_0 : w112.cell? ⟨gb105, 0, none⟩ = some (.slice Ao106 x106000_1.length co106) := (blk_cell BK105.out 0).trans rfl; have hcz114_1 : w112.cell? ⟨gb105, 1, none⟩ = some (.int .i64 0) := (blk_cell BK105.out 1).trans rfl; have hfz114_0 := blk_frozen BK105.out 0; have hfz114_1 := blk_frozen BK105.out 1))
         go_meet
         case rel => exact ⟨_, (y122), (.slice Ao113 y122.length co113), H', ⟨by have := HK1.out; have := HJ6.out; first | omega | exact Nat.le_refl _⟩, ⟨by (with_reducible repeat (first | apply Kd.R_alloc | apply Kd.R_drewN | apply Kd.R_drew)); exact Kd.R_mono (Kd.R_far (p := ⟨gb105, 0, none⟩) (Kd.R_types HO124.out BK105.out (by decide)) (fun _ hk => hk.2) (.slice Ao113 y122.length co113)) (fun _ hk => trivial)⟩, ⟨by (with_reducible repeat (first | refine blk_drewN ?_ _ | refine blk_drew ?_ | refine blk_alloc ?_ _)); refine blk_far ?_ NB103_105.out _; (with_reducible repeat (first | refine blk_drewN ?_ _ | refine blk_drew ?_ | refine blk_alloc ?_ _)); exact BK103.out⟩, ⟨by (with_reducible repeat (first | refine blk_drewN ?_ _ | refine blk_drew ?_ | refine blk_alloc ?_ _)); refine blk_far ?_ NB104_105.out _; (with_reducible repeat (first | refine blk_drewN ?_ _ | refine blk_drew ?_ | refine blk_alloc ?_ _)); exact BK104.out⟩, ⟨by (with_reducible repeat (first | refine blk_drewN ?_ _ | refine blk_drew ?_ | refine blk_alloc ?_ _)); refine blk_put (cs := #[.slice Ao106 x106000_1.length co106, .int .i64 0]) ?_ 0 _ rfl; (with_reducible repeat (first | refine blk_drewN ?_ _ | refine blk_drew ?_ | refine blk_alloc ?_ _)); exact BK105.out⟩, ⟨by repeat (first | (with_reducible first | exact HB.out | apply below_alloc | apply pw_below_drewN | apply below_drew1 | refine below_set ?_ GE103.out | refine below_set ?_ GE104.out | refine below_set ?_ GE105.out) | exact HB.out)⟩⟩
        ·rw [if_neg c108] at H
         exact absurd H (by simp)
       ·rw [if_neg c107] at H
        have c107b0 : ((x106000_1.length : Int) == 0) = false := beq_eq_false_iff_ne.mpr c107
        have c107b1 : ((x106000_1.length : Int) != 0) = true := bne_iff_ne.mpr c107
        have c107b2 : ¬ (x106000_1 = []) := fun h_ => c107 (by rw [h_]; rfl)
        (first | rw [c107b0] | (simp only [i64_w, i32_w]; rw [c107b0]) | skip)
        have H' := Aside0.mk H
        clear H
        go_wp2
        go_meet
        case rel => exact ⟨_, (x106000_1), (.slice Ao106 x106000_1.length co106), H', ⟨by have := HK1.out; have := HJ6.out; first | omega | exact Nat.le_refl _⟩, ⟨by (with_reducible repeat (first | apply Kd.R_alloc | apply Kd.R_drewN | apply Kd.R_drew)); exact HO_106000.out⟩, ⟨by (with_reducible repeat (first | refine blk_drewN ?_ _ | refine blk_drew ?_ | refine blk_alloc ?_ _)); exact BK103.out⟩, ⟨by (with_reducible repeat (first | refine blk_drewN ?_ _ | refine blk_drew ?_ | refine blk_alloc ?_ _)); exact BK104.out⟩, ⟨by (with_reducible repeat (first | refine blk_drewN ?_ _ | refine blk_drew ?_ | refine blk_alloc ?_ _)); exact BK105.out⟩, ⟨by repeat (first | (with_reducible first | exact HB.out | apply below_alloc | apply pw_below_drewN | apply below_drew1 | refine below_set ?_ GE103.out | refine below_set ?_ GE104.out | refine below_set ?_ GE105.out) | exact HB.out)⟩⟩
      case rest =>
       clear HC102
       try clear c1
       try clear p1
       try clear q1
       try clear hx1
       try clear c2
       try clear p2
       try clear c3
       try clear c4
       try clear c5
       try clear c6
       try clear p6
       try clear c7
       try clear c8
       try clear c8b0
       try clear c9
       try clear c10
       try clear p10
       try clear q10
       try clear hx10
       try clear c11
       try clear p11
       try clear q11
       try clear hx11
       try clear c12
       try clear c13
       try clear c15
       try clear c16
       try clear c16b0
       try clear c17
       try clear c17b0
       try clear c19
       try clear c20
       try clear c23
       try clear c24
       try clear c25
       try clear c27
       try clear c27b0
       try clear c30
       try clear c31
       try clear c32
       try clear c34
       try clear c36
       try clear c37
       try clear c38
       try clear c40
       try clear c41
       try clear c45
       try clear c46
       try clear c46b0
       try clear c47
       try clear c47b0
       try clear c49
       try clear c49b0
       try clear c50
       try clear c52
       try clear c53
       try clear c54
       try clear c56
       try clear c57
       try clear p64
       try clear c67
       try clear c68
       try clear c69
       try clear c71
       try clear c72
       try clear c77
       try clear c77b0
       try clear c78
       try clear c79
       try clear c80
       try clear c81
       try clear c83
       try clear c84
       try clear c93
       try clear c94
       try clear c95
       try clear c97
       try clear c98
       try clear c103
       try clear c104
       try clear c107
       try clear c107b0
       try clear c107b1
       try clear c107b2
       try clear c108
       try clear c109
       try clear p109
       try clear q109
       try clear hx109
       try clear c110
       try clear p113
       try clear q113
       try clear hx113
       try clear hcz105_0
       try clear hcz105_1
       try clear hcz111_0
       try clear hcz111_1
       try clear hcz114_0
       try clear hcz114_1
       try clear hcz11_0
       try clear hcz11_1
       try clear hcz14_0
       try clear hcz14_1
       try clear hcz21_0
       try clear hcz21_1
       try clear hcz26_0
       try clear hcz26_1
       try clear hcz26_2
       try clear hcz33_0
       try clear hcz33_1
       try clear hcz33_2
       try clear hcz39_0
       try clear hcz39_1
       try clear hcz42_0
       try clear hcz42_1
       try clear hcz42_2
       try clear hcz55_0
       try clear hcz55_1
       try clear hcz55_2
       try clear hcz58_0
       try clear hcz58_1
       try clear hcz61_0
       try clear hcz61_1
       try clear hcz62_0
       try clear hcz62_1
       try clear hcz62_2
       try clear hcz65_0
       try clear hcz65_1
       try clear hcz70_0
       try clear hcz70_1
       try clear hcz70_2
       try clear hcz73_0
       try clear hcz73_1
       try clear hcz82_0
       try clear hcz82_1
       try clear hcz85_0
       try clear hcz85_1
       try clear hcz85_2
       try clear hcz88_0
       try clear hcz88_1
       try clear hcz89_0
       try clear hcz89_1
       try clear hcz89_2
       try clear hcz92_0
       try clear hcz92_1
       try clear hcz96_0
       try clear hcz96_1
       try clear hcz99_0
       try clear hcz99_1
       try clear hcz99_2
       try clear hfz105_0
       try clear hfz105_1
       try clear hfz111_0
       try clear hfz111_1
       try clear hfz114_0
       try clear hfz114_1
       try clear hfz11_0
       try clear hfz11_1
       try clear hfz14_0
       try clear hfz14_1
       try clear hfz21_0
       try clear hfz21_1
       try clear hfz26_0
       try clear hfz26_1
       try clear hfz26_2
       try clear hfz33_0
       try clear hfz33_1
       try clear hfz33_2
       try clear hfz39_0
       try clear hfz39_1
       try clear hfz42_0
       try clear hfz42_1
       try clear hfz42_2
       try clear hfz55_0
       try clear hfz55_1
       try clear hfz55_2
       try clear hfz58_0
       try clear hfz58_1
       try clear hfz61_0
       try clear hfz61_1
       try clear hfz62_0
       try clear hfz62_1
       try clear hfz62_2
       try clear hfz65_0
       try clear hfz65_1
       try clear hfz70_0
       try clear hfz70_1
       try clear hfz70_2
       try clear hfz73_0
       try clear hfz73_1
       try clear hfz82_0
       try clear hfz82_1
       try clear hfz85_0
       try clear hfz85_1
       try clear hfz85_2
       try clear hfz88_0
       try clear hfz88_1
       try clear hfz89_0
       try clear hfz89_1
       try clear hfz89_2
       try clear hfz92_0
       try clear hfz92_1
       try clear hfz96_0
       try clear hfz96_1
       try clear hfz99_0
       try clear hfz99_1
       try clear hfz99_2
       try clear hx109_0
       try clear hx109_1
       try clear hx109_2
       try clear hx113_0
       try clear p1
       try clear p10
       try clear p109
       try clear p113
       try clear p2
       try clear p6
       try clear q1
       try clear q10
       try clear q109
       try clear q113
       obtain ⟨kq, x106000_101, u106000, HA, HJ101, HO_106000, BK103, BK104, BK105, HB⟩ := hcut
       cases kq with
       | zero => exact absurd HA.out (by simp [pantographref04_Good.j4])
       | succ kj101 =>
        have H := HA.out
        clear HA
        simp only [pantographref04_Good.j4] at H
        have HC115 := Aside0.mk H
        clear H
        have hnb116 := NB103_104.out
        have hnc116 := NB104_103.out
        have hnb117 := NB103_105.out
        have hnc117 := NB105_103.out
        have hcz118_0 : wc.cell? ⟨gb103, 0, none⟩ = some (.slice A0_0 l0_0.length c0_0) := (blk_cell BK103.out 0).trans rfl
        have hcz118_1 : wc.cell? ⟨gb103, 1, none⟩ = some (.int .i64 a0_1) := (blk_cell BK103.out 1).trans rfl
        have hfz118_0 := blk_frozen BK103.out 0
        have hfz118_1 := blk_frozen BK103.out 1
        go_upto_if 80 with (fail)
        go_cut [9] (fun v9 wc => ∃ (kq : Nat) (x9_114 : Int), v9 = .int .i64 x9_114 ∧ Aside0 (pantographref04_Good.j5 kq x9_114 x106000_101 0 = some (r1, r2)) ∧ Aside0 (kq ≤ kj101) ∧ Aside0 (Kd.R k69 69 wc w.heap.size (fun _ => True) u106000 x106000_101) ∧ Aside0 (wc.heap[gb103]? = some (.cells #[(.slice A0_0 l0_0.length c0_0), .int .i64 a0_1] 24 (0, 0))) ∧ Aside0 (wc.heap[gb104]? = some (.cells #[(.slice none 0 0), .int .i64 0] 24 (0, 0))) ∧ Aside0 (wc.heap[gb105]? = some (.cells #[u106000, .int .i64 0] 24 (0, 0))) ∧ Aside0 (Below w.heap.size w wc))
        case first =>
         have H := HC115.out
         clear HC115
         by_cases c119 : a0_1 < 0
         ·rw [if_pos c119] at H
          have c119b0 : decide (a0_1 < 0) = true := decide_eq_true c119
          clear c119
          (first | rw [c119b0] | (simp only [i64_w, i32_w]; rw [c119b0]) | skip)
          have H' := Aside0.mk H
          clear H
          go_wp2
          go_meet
          case rel => exact ⟨_, (wrap64 (-(wrap64 (a0_1 + 1)))), (by first | rfl | (simp; done) | (simp [*]; done)), H', ⟨by have := HK1.out; have := HJ6.out; have := HJ101.out; first | omega | exact Nat.le_refl _⟩, ⟨by (with_reducible repeat (first | apply Kd.R_alloc | apply Kd.R_drewN | apply Kd.R_drew)); exact HO_106000.out⟩, ⟨by (with_reducible repeat (first | refine blk_drewN ?_ _ | refine blk_drew ?_ | refine blk_alloc ?_ _)); exact BK103.out⟩, ⟨by (with_reducible repeat (first | refine blk_drewN ?_ _ | refine blk_drew ?_ | refine blk_alloc ?_ _)); exact BK104.out⟩, ⟨by (with_reducible repeat (first | refine blk_drewN ?_ _ | refine blk_drew ?_ | refine blk_alloc ?_ _)); exact BK105.out⟩, ⟨by repeat (first | (with_reducible first | exact HB.out | apply below_alloc | apply pw_below_drewN | apply below_drew1 | refine below_set ?_ GE103.out | refine below_set ?_ GE104.out | refine below_set ?_ GE105.out) | exact HB.out)⟩⟩
         ·rw [if_neg c119] at H
          have c119b0 : decide (a0_1 < 0) = false := decide_eq_false c119
          clear c119
          (first | rw [c119b0] | (simp only [i64_w, i32_w]; rw [c119b0]) | skip)
          have H' := Aside0.mk H
          clear H
          go_wp2
          go_meet
          case rel => exact ⟨_, (a0_1), (by first | rfl | (simp; done) | (simp [*]; done)), H', ⟨by have := HK1.out; have := HJ6.out; have := HJ101.out; first | omega | exact Nat.le_refl _⟩, ⟨by (with_reducible repeat (first | apply Kd.R_alloc | apply Kd.R_drewN | apply Kd.R_drew)); exact HO_106000.out⟩, ⟨by (with_reducible repeat (first | refine blk_drewN ?_ _ | refine blk_drew ?_ | refine blk_alloc ?_ _)); exact BK103.out⟩, ⟨by (with_reducible repeat (first | refine blk_drewN ?_ _ | refine blk_drew ?_ | refine blk_alloc ?_ _)); exact BK104.out⟩, ⟨by (with_reducible repeat (first | refine blk_drewN ?_ _ | refine blk_drew ?_ | refine blk_alloc ?_ _)); exact BK105.out⟩, ⟨by repeat (first | (with_reducible first | exact HB.out | apply below_alloc | apply pw_below_drewN | apply below_drew1 | refine below_set ?_ GE103.out | refine below_set ?_ GE104.out | refine below_set ?_ GE105.out) | exact HB.out)⟩⟩
        case rest =>
         clear HC115
         try clear c1
         try clear p1
         try clear q1
         try clear hx1
         try clear c2
         try clear p2
         try clear c3
         try clear c4
         try clear c5
         try clear c6
         try clear p6
         try clear c7
         try clear c8
         try clear c8b0
         try clear c9
         try clear c10
         try clear p10
         try clear q10
         try clear hx10
         try clear c11
         try clear p11
         try clear q11
         try clear hx11
         try clear c12
         try clear c13
         try clear c15
         try clear c16
         try clear c16b0
         try clear c17
         try clear c17b0
         try clear c19
         try clear c20
         try clear c23
         try clear c24
         try clear c25
         try clear c27
         try clear c27b0
         try clear c30
         try clear c31
         try clear c32
         try clear c34
         try clear c36
         try clear c37
         try clear c38
         try clear c40
         try clear c41
         try clear c45
         try clear c46
         try clear c46b0
         try clear c47
         try clear c47b0
         try clear c49
         try clear c49b0
         try clear c50
         try clear c52
         try clear c53
         try clear c54
         try clear c56
         try clear c57
         try clear p64
         try clear c67
         try clear c68
         try clear c69
         try clear c71
         try clear c72
         try clear c77
         try clear c77b0
         try clear c78
         try clear c79
         try clear c80
         try clear c81
         try clear c83
         try clear c84
         try clear c93
         try clear c94
         try clear c95
         try clear c97
         try clear c98
         try clear c103
         try clear c104
         try clear c107
         try clear c107b0
         try clear c107b1
         try clear c107b2
         try clear c108
         try clear c109
         try clear p109
         try clear q109
         try clear hx109
         try clear c110
         try clear p113
         try clear q113
         try clear hx113
         try clear c116
         try clear c117
         try clear c119
         try clear c119b0
         try clear hcz105_0
         try clear hcz105_1
         try clear hcz111_0
         try clear hcz111_1
         try clear hcz114_0
         try clear hcz114_1
         try clear hcz118_0
         try clear hcz118_1
         try clear hcz11_0
         try clear hcz11_1
         try clear hcz14_0
         try clear hcz14_1
         try clear hcz21_0
         try clear hcz21_1
         try clear hcz26_0
         try clear hcz26_1
         try clear hcz26_2
         try clear hcz33_0
         try clear hcz33_1
         try clear hcz33_2
         try clear hcz39_0
         try clear hcz39_1
         try clear hcz42_0
         try clear hcz42_1
         try clear hcz42_2
         try clear hcz55_0
         try clear hcz55_1
         try clear hcz55_2
         try clear hcz58_0
         try clear hcz58_1
         try clear hcz61_0
         try clear hcz61_1
         try clear hcz62_0
         try clear hcz62_1
         try clear hcz62_2
         try clear hcz65_0
         try clear hcz65_1
         try clear hcz70_0
         try clear hcz70_1
         try clear hcz70_2
         try clear hcz73_0
         try clear hcz73_1
         try clear hcz82_0
         try clear hcz82_1
         try clear hcz85_0
         try clear hcz85_1
         try clear hcz85_2
         try clear hcz88_0
         try clear hcz88_1
         try clear hcz89_0
         try clear hcz89_1
         try clear hcz89_2
         try clear hcz92_0
         try clear hcz92_1
         try clear hcz96_0
         try clear hcz96_1
         try clear hcz99_0
         try clear hcz99_1
         try clear hcz99_2
         try clear hfz105_0
         try clear hfz105_1
         try clear hfz111_0
         try clear hfz111_1
         try clear hfz114_0
         try clear hfz114_1
         try clear hfz118_0
         try clear hfz118_1
         try clear hfz11_0
         try clear hfz11_1
         try clear hfz14_0
         try clear hfz14_1
         try clear hfz21_0
         try clear hfz21_1
         try clear hfz26_0
         try clear hfz26_1
         try clear hfz26_2
         try clear hfz33_0
         try clear hfz33_1
         try clear hfz33_2
         try clear hfz39_0
         try clear hfz39_1
         try clear hfz42_0
         try clear hfz42_1
         try clear hfz42_2
         try clear hfz55_0
         try clear hfz55_1
         try clear hfz55_2
         try clear hfz58_0
         try clear hfz58_1
         try clear hfz61_0
         try clear hfz61_1
         try clear hfz62_0
         try clear hfz62_1
         try clear hfz62_2
         try clear hfz65_0
         try clear hfz65_1
         try clear hfz70_0
         try clear hfz70_1
         try clear hfz70_2
         try clear hfz73_0
         try clear hfz73_1
         try clear hfz82_0
         try clear hfz82_1
         try clear hfz85_0
         try clear hfz85_1
         try clear hfz85_2
         try clear hfz88_0
         try clear hfz88_1
         try clear hfz89_0
         try clear hfz89_1
         try clear hfz89_2
         try clear hfz92_0
         try clear hfz92_1
         try clear hfz96_0
         try clear hfz96_1
         try clear hfz99_0
         try clear hfz99_1
         try clear hfz99_2
         try clear hx109_0
         try clear hx109_1
         try clear hx109_2
         try clear hx113_0
         try clear p1
         try clear p10
         try clear p109
         try clear p11
         try clear p113
         try clear p2
         try clear p6
         try clear p64
         try clear q1
         try clear q10
         try clear q109
         try clear q11
         try clear q113
         obtain ⟨kq, x9_114, rfl, HA, HJ114, HO_106000, BK103, BK104, BK105, HB⟩ := hcut
         cases kq with
         | zero => exact absurd HA.out (by simp [pantographref04_Good.j5])
         | succ kj114 =>
          have H := HA.out
          clear HA
          simp only [pantographref04_Good.j5] at H
          obtain ⟨ji120, hji120⟩ : ∃ j_ : Int, (mn (x106000_101.length : Int) 3) = j_ := ⟨_, rfl⟩
          replace H : (if (ji120) = 0 then (none) else (pantographref04_Good.l1 kj114 0 x106000_101 (wrap64 (1 + (Int.tmod x9_114 (ji120)))))) = some (r1, r2) := by first | (rw [hji120] at H; exact H) | (simp only [hji120] at H ⊢; exact H)
          have hji120_ : (if 3 < (x106000_101.length : Int) then 3 else (x106000_101.length : Int)) = ji120 := hji120
          by_cases c121 : (ji120) = 0
          ·rw [if_pos c121] at H
           exact absurd H (by simp)
          ·rw [if_neg c121] at H
           have c121b0 : ((ji120) == 0) = false := beq_eq_false_iff_ne.mpr c121
           have c121b1 : ((ji120) != 0) = true := bne_iff_ne.mpr c121
           have H' := Aside0.mk H
           clear H
           have hnb122 := NB105_103.out
           have hnc122 := NB103_105.out
           have hnb123 := NB105_104.out
           have hnc123 := NB104_105.out
           have hcz124_0 : wc.cell? ⟨gb105, 0, none⟩ = some (u106000) := (blk_cell BK105.out 0).trans rfl
           have hcz124_1 : wc.cell? ⟨gb105, 1, none⟩ = some (.int .i64 0) := (blk_cell BK105.out 1).trans rfl
           have hfz124_0 := blk_frozen BK105.out 0
           have hfz124_1 := blk_frozen BK105.out 1
           obtain ⟨Ao125, co125, eo125⟩ := Kd.R_slice HO_106000.out
           subst eo125
           go_wp2
           go_loopg [10] kj114 (fun kq v10 w' => ∃ (x10_5 : Int) (x106000_5 : List (S69)) (u106000 : Value), v10 = .int .i64 x10_5 ∧ Aside0 (pantographref04_Good.l1 kq x10_5 x106000_5 (wrap64 (1 + (Int.tmod x9_114 (ji120)))) = some (r1, r2)) ∧ Aside0 (kq ≤ kj114) ∧ Aside0 (Kd.R k69 69 w' w.heap.size (fun _ => True) u106000 x106000_5) ∧ Aside0 (w'.heap[gb103]? = some (.cells #[(.slice A0_0 l0_0.length c0_0), .int .i64 a0_1] 24 (0, 0))) ∧ Aside0 (w'.heap[gb104]? = some (.cells #[(.slice none 0 0), .int .i64 0] 24 (0, 0))) ∧ Aside0 (w'.heap[gb105]? = some (.cells #[u106000, .int .i64 (wrap64 (1 + (Int.tmod x9_114 (ji120))))] 24 (0, 0))) ∧ Aside0 (Below w.heap.size w w'))
           case atStart => exact ⟨(0), (x106000_101), (.slice Ao125 x106000_101.length co125), (by first | rfl | (simp; done) | (simp [*]; done)), H', ⟨Nat.le_refl _⟩, ⟨by (with_reducible repeat (first | apply Kd.R_alloc | apply Kd.R_drewN | apply Kd.R_drew)); exact Kd.R_mono (Kd.R_far (p := ⟨gb105, 1, none⟩) (Kd.R_types HO_106000.out BK105.out (by decide)) (fun _ hk => hk.2) (.int .i64 (wrap64 (1 + (Int.tmod x9_114 (ji120)))))) (fun _ hk => trivial)⟩, ⟨by (with_reducible repeat (first | refine blk_drewN ?_ _ | refine blk_drew ?_ | refine blk_alloc ?_ _)); refine blk_far ?_ NB103_105.out _; (with_reducible repeat (first | refine blk_drewN ?_ _ | refine blk_drew ?_ | refine blk_alloc ?_ _)); exact BK103.out⟩, ⟨by (with_reducible repeat (first | refine blk_drewN ?_ _ | refine blk_drew ?_ | refine blk_alloc ?_ _)); refine blk_far ?_ NB104_105.out _; (with_reducible repeat (first | refine blk_drewN ?_ _ | refine blk_drew ?_ | refine blk_alloc ?_ _)); exact BK104.out⟩, ⟨by (with_reducible repeat (first | refine blk_drewN ?_ _ | refine blk_drew ?_ | refine blk_alloc ?_ _)); refine blk_put (cs := #[.slice Ao125 x106000_101.length co125, .int .i64 0]) ?_ 1 _ rfl; (with_reducible repeat (first | refine blk_drewN ?_ _ | refine blk_drew ?_ | refine blk_alloc ?_ _)); exact BK105.out⟩, ⟨by repeat (first | (with_reducible first | exact HB.out | apply below_alloc | apply pw_below_drewN | apply below_drew1 | refine below_set ?_ GE103.out | refine below_set ?_ GE104.out | refine below_set ?_ GE105.out) | exact HB.out)⟩⟩
           case round =>
            clear H'
            try clear c1
            try clear p1
            try clear q1
            try clear hx1
            try clear c2
            try clear p2
            try clear c3
            try clear c4
            try clear c5
            try clear c6
            try clear p6
            try clear c7
            try clear c8
            try clear c8b0
            try clear c9
            try clear c10
            try clear p10
            try clear q10
            try clear hx10
            try clear c11
            try clear p11
            try clear q11
            try clear hx11
            try clear c12
            try clear c13
            try clear c15
            try clear c16
            try clear c16b0
            try clear c17
            try clear c17b0
            try clear c19
            try clear c20
            try clear c23
            try clear c24
            try clear c25
            try clear c27
            try clear c27b0
            try clear c30
            try clear c31
            try clear c32
            try clear c34
            try clear c36
            try clear c37
            try clear c38
            try clear c40
            try clear c41
            try clear c45
            try clear c46
            try clear c46b0
            try clear c47
            try clear c47b0
            try clear c49
            try clear c49b0
            try clear c50
            try clear c52
            try clear c53
            try clear c54
            try clear c56
            try clear c57
            try clear p64
            try clear c67
            try clear c68
            try clear c69
            try clear c71
            try clear c72
            try clear c77
            try clear c77b0
            try clear c78
            try clear c79
            try clear c80
            try clear c81
            try clear c83
            try clear c84
            try clear c93
            try clear c94
            try clear c95
            try clear c97
            try clear c98
            try clear c103
            try clear c104
            try clear c107
            try clear c107b0
            try clear c107b1
            try clear c107b2
            try clear c108
            try clear c109
            try clear p109
            try clear q109
            try clear hx109
            try clear c110
            try clear p113
            try clear q113
            try clear hx113
            try clear c116
            try clear c117
            try clear c119
            try clear c119b0
            try clear c121
            try clear c121b0
            try clear c121b1
            try clear c122
            try clear c123
            try clear hcz105_0
            try clear hcz105_1
            try clear hcz111_0
            try clear hcz111_1
            try clear hcz114_0
            try clear hcz114_1
            try clear hcz118_0
            try clear hcz118_1
            try clear hcz11_0
            try clear hcz11_1
            try clear hcz124_0
            try clear hcz124_1
            try clear hcz14_0
            try clear hcz14_1
            try clear hcz21_0
            try clear hcz21_1
            try clear hcz26_0
            try clear hcz26_1
            try clear hcz26_2
            try clear hcz33_0
            try clear hcz33_1
            try clear hcz33_2
            try clear hcz39_0
            try clear hcz39_1
            try clear hcz42_0
            try clear hcz42_1
            try clear hcz42_2
            try clear hcz55_0
            try clear hcz55_1
            try clear hcz55_2
            try clear hcz58_0
            try clear hcz58_1
            try clear hcz61_0
            try clear hcz61_1
            try clear hcz62_0
            try clear hcz62_1
            try clear hcz62_2
            try clear hcz65_0
            try clear hcz65_1
            try clear hcz70_0
            try clear hcz70_1
            try clear hcz70_2
            try clear hcz73_0
            try clear hcz73_1
            try clear hcz82_0
            try clear hcz82_1
            try clear hcz85_0
            try clear hcz85_1
            try clear hcz85_2
            try clear hcz88_0
            try clear hcz88_1
            try clear hcz89_0
            try clear hcz89_1
            try clear hcz89_2
            try clear hcz92_0
            try clear hcz92_1
            try clear hcz96_0
            try clear hcz96_1
            try clear hcz99_0
            try clear hcz99_1
            try clear hcz99_2
            try clear hfz105_0
            try clear hfz105_1
            try clear hfz111_0
            try clear hfz111_1
            try clear hfz114_0
            try clear hfz114_1
            try clear hfz118_0
            try clear hfz118_1
            try clear hfz11_0
            try clear hfz11_1
            try clear hfz124_0
            try clear hfz124_1
            try clear hfz14_0
            try clear hfz14_1
            try clear hfz21_0
            try clear hfz21_1
            try clear hfz26_0
            try clear hfz26_1
            try clear hfz26_2
            try clear hfz33_0
            try clear hfz33_1
            try clear hfz33_2
            try clear hfz39_0
            try clear hfz39_1
            try clear hfz42_0
            try clear hfz42_1
            try clear hfz42_2
            try clear hfz55_0
            try clear hfz55_1
            try clear hfz55_2
            try clear hfz58_0
            try clear hfz58_1
            try clear hfz61_0
            try clear hfz61_1
            try clear hfz62_0
            try clear hfz62_1
            try clear hfz62_2
            try clear hfz65_0
            try clear hfz65_1
            try clear hfz70_0
            try clear hfz70_1
            try clear hfz70_2
            try clear hfz73_0
            try clear hfz73_1
            try clear hfz82_0
            try clear hfz82_1
            try clear hfz85_0
            try clear hfz85_1
            try clear hfz85_2
            try clear hfz88_0
            try clear hfz88_1
            try clear hfz89_0
            try clear hfz89_1
            try clear hfz89_2
            try clear hfz92_0
            try clear hfz92_1
            try clear hfz96_0
            try clear hfz96_1
            try clear hfz99_0
            try clear hfz99_1
            try clear hfz99_2
            try clear hx109_0
            try clear hx109_1
            try clear hx109_2
            try clear hx113_0
            try clear p1
            try clear p10
            try clear p109
            try clear p11
            try clear p113
            try clear p2
            try clear p6
            try clear p64
            try clear q1
            try clear q10
            try clear q109
            try clear q11
            try clear q113
            obtain ⟨x10_5, x106000_5, u106000, rfl, HA, HK5, HO_106000, BK103, BK104, BK105, HB⟩ := hrel
            cases gk with
            | zero => exact absurd HA.out (by simp [pantographref04_Good.l1])
            | succ k5 =>
             have H := HA.out
             clear HA
             simp only [pantographref04_Good.l1] at H
             by_cases c126 : x10_5 < (wrap64 (1 + (Int.tmod x9_114 (ji120))))
             ·rw [if_pos c126] at H
              have c126b0 : decide (x10_5 < (wrap64 (1 + (Int.tmod x9_114 (ji120))))) = true := decide_eq_true c126
              clear c126
              by_cases c127 : 0 ≤ x10_5
              ·rw [if_pos c127] at H
               have c127b0 : decide (0 ≤ x10_5) = true := decide_eq_true c127
               clear c127
               by_cases c128 : x10_5 < (x106000_5.length : Int)
               ·rw [if_pos c128] at H
                have c128b0 : decide (x10_5 < (x106000_5.length : Int)) = true := decide_eq_true c128
                clear c128
                obtain ⟨y125, hy125⟩ : ∃ y_ : List (S69), y_ = (x106000_5.set (x10_5 : Int).toNat (⟨(rd_T69 x106000_5 x10_5).f0, (rd_T69 x106000_5 x10_5).f1, false⟩ : S69)) := ⟨_, rfl⟩
                replace H : (pantographref04_Good.l1 k5 (wrap64 (x10_5 + 1)) y125 (wrap64 (1 + (Int.tmod x9_114 (ji120))))) = some (r1, r2) := by first | (rw [hy125]; with_reducible exact H) | (have H2_ := (Option.bind_some _ _).symm.trans H; rw [hy125]; with_reducible exact H2_) | (have H2_ := (Option.bind_some _ _).symm.trans H; with_reducible exact H2_) | with_reducible exact H | (rw [hy125]; exact H) | exact H
                have Ny125 := Aside0.mk hy125
                clear hy125
                have H' := Aside0.mk H
                clear H
                have hnb130 := NB105_103.out
                have hnc130 := NB103_105.out
                have hnb131 := NB105_104.out
                have hnc131 := NB104_105.out
                have hcz132_0 : wr.cell? ⟨gb105, 0, none⟩ = some (u106000) := (blk_cell BK105.out 0).trans rfl
                have hcz132_1 : wr.cell? ⟨gb105, 1, none⟩ = some (.int .i64 (wrap64 (1 + (Int.tmod x9_114 (ji120))))) := (blk_cell BK105.out 1).trans rfl
                have hfz132_0 := blk_frozen BK105.out 0
                have hfz132_1 := blk_frozen BK105.out 1
                have p129 : 0 ≤ (x10_5 : Int) := of_decide_eq_true (by first | (with_reducible assumption) | assumption)
                have q129 : (x10_5 : Int) < ((x106000_5.length : Int) : Int) := of_decide_eq_true (by first | (with_reducible assumption) | assumption)
                obtain ⟨go129, co129, eo129, gb129, gl129, cl129, HG129⟩ := Kd.R_form HO_106000.out (by omega)
                (first | cases eo129 | (injection eo129 with ea_ en_ ec_; (first | subst ea_ | (injection ea_ with ea_; subst ea_)); subst ec_; clear en_))
                have GB129 := Aside0.mk gb129
                have GG129 := Aside0.mk HG129
                clear gb129 gl129 HG129
                obtain ⟨ce129, hcl129, hM129, hcc129, hfr129⟩ := Kd.R_elem HO_106000.out z69 (x10_5 : Int) p129 q129
                obtain rfl := k69_openM hM129
                have hx129_0 : wr.cell? ⟨go129, (x10_5 : Int).toNat * 3, none⟩ = some (.string ((rd_T69 x106000_5 x10_5).f0)) := hcc129 0 _ rfl
                have hx129_1 : wr.cell? ⟨go129, (x10_5 : Int).toNat * 3 + 1, none⟩ = some (.int .i64 ((rd_T69 x106000_5 x10_5).f1)) := hcc129 1 _ rfl
                have hx129_2 : wr.cell? ⟨go129, (x10_5 : Int).toNat * 3 + 2, none⟩ = some (.bool ((rd_T69 x106000_5 x10_5).f2)) := hcc129 2 _ rfl
                have hf129_0 : wr.frozen? ⟨go129, (x10_5 : Int).toNat * 3, none⟩ = false := hfr129 0
                have hf129_1 : wr.frozen? ⟨go129, (x10_5 : Int).toNat * 3 + 1, none⟩ = false := hfr129 1
                have hf129_2 : wr.frozen? ⟨go129, (x10_5 : Int).toNat * 3 + 2, none⟩ = false := hfr129 2
                clear hcl129 hcc129 hfr129 hM129
                replace p129 := eq_true p129
                replace q129 := eq_true q129
                have HX133 := Aside0.mk (show Kd.R k69 69 wr w.heap.size (fun _ => True) (.slice (some ⟨go129, 0, none⟩) x106000_5.length co129) x106000_5 from (by (with_reducible repeat (first | apply Kd.R_alloc | apply Kd.R_drewN | apply Kd.R_drew)); exact HO_106000.out))
                obtain ⟨ce133, hcl133, hM133, hcc133, hfr133⟩ := Kd.R_elem HX133.out z69 (x10_5 : Int) (of_decide_eq_true (by first | (with_reducible assumption) | assumption)) (by have h_ : (x10_5 : Int) < ((x106000_5.length : Int) : Int) := of_decide_eq_true (by first | (with_reducible assumption) | assumption); first | exact h_ | (have e_ := (Kd.R_reads' HO_106000.out).1; omega) | simpa using h_)
                obtain rfl := k69_openM hM133
                have HP133 := Kd.R_seg HX133.out (x10_5 : Int) (of_decide_eq_true (by first | (with_reducible assumption) | assumption)) (by have h_ : (x10_5 : Int) < ((x106000_5.length : Int) : Int) := of_decide_eq_true (by first | (with_reducible assumption) | assumption); first | exact h_ | (have e_ := (Kd.R_reads' HO_106000.out).1; omega) | simpa using h_) (seg := [.bool false]) (j := 2) hcl133 hcc133 (show 3 ≤ 3 from by decide) (x' := (⟨(rd_T69 x106000_5 x10_5).f0, (rd_T69 x106000_5 x10_5).f1, false⟩ : S69)) (k69_mkM _ _ _ (⟨(rd_T69 x106000_5 x10_5).f0, (rd_T69 x106000_5 x10_5).f1, false⟩ : S69) ) (fun _ hk => hk)
                have hx133_2 := hcc133 2 _ rfl
                (try simp only [show (k69).sz = 3 from rfl, Nat.mul_one, Nat.add_zero] at hx133_2)
                have hf133_2 := hfr133 2
                (try simp only [show (k69).sz = 3 from rfl, Nat.mul_one, Nat.add_zero] at hf133_2)
                clear hcl133 hcc133 hfr133 hM133
                go_wp2_with (first | ((with_reducible refine gate_store (t := 4) (p := 102) rfl ?_); refine store_event (t := 4) (p := 102) (v := ?vo_w134) (w1 := (wr.setCell ⟨go129, (x10_5 : Int).toNat * 3 + 2, none⟩ (.bool false))) ?hg ?ho ?hn ?hr ?_; (case ho => rfl); (case hg => rfl); (case hn => rfl); (case hr => first | (go_simp; done) | (go_simp; rfl)); intro w134 hw; have hg : wr.grownBy w134 (some go129) := (by rw [hw]; exact HP133.2); have hp_ : Kd.R k69 69 w134 w.heap.size (fun _ => True) (.slice (some ⟨go129, 0, none⟩) x106000_5.length co129) y125 := (by rw [hw, Ny125.out]; exact HP133.1); clear HP133; have n0_ := Aside0.mk (hp_); have n1_ := Aside0.mk (blk_grown (g := gb103) (o := .cells #[.slice A0_0 l0_0.length c0_0, .int .i64 a0_1] 24 (0, 0)) (by (with_reducible repeat (first | refine blk_drewN ?_ _ | refine blk_drew ?_ | refine blk_alloc ?_ _)); exact BK103.out) hg (Kd.R_ne HO_106000.out BK103.out (by decide))); have n2_ := Aside0.mk (blk_grown (g := gb104) (o := .cells #[.slice none 0 0, .int .i64 0] 24 (0, 0)) (by (with_reducible repeat (first | refine blk_drewN ?_ _ | refine blk_drew ?_ | refine blk_alloc ?_ _)); exact BK104.out) hg (Kd.R_ne HO_106000.out BK104.out (by decide))); have n3_ := Aside0.mk (blk_grown (g := gb105) (o := .cells #[.slice (some ⟨go129, 0, none⟩) x106000_5.length co129, .int .i64 (wrap64 (1 + (Int.tmod x9_114 (ji120))))] 24 (0, 0)) (by (with_reducible repeat (first | refine blk_drewN ?_ _ | refine blk_drew ?_ | refine blk_alloc ?_ _)); exact BK105.out) hg (Kd.R_ne HO_106000.out BK105.out (by decide))); have n4_ := Aside0.mk ((by rw [hw]; exact below_set (HB.out) GB129.out : Below w.heap.size w w134)); clear HO_106000; clear BK103; clear BK104; clear BK105; clear HB; have HO_106000 := n0_; have BK103 := n1_; have BK104 := n2_; have BK105 := n3_; have HB := n4_; clear n0_ n1_ n2_ n3_ n4_; clear hg hw hp_))
                go_roundg k5
                case measure => have := HK1.out; have := HJ6.out; have := HJ101.out; have := HJ114.out; have := HK5.out; omega
                case rel => exact ⟨(wrap64 (x10_5 + 1)), (y125), (.slice (some ⟨go129, 0, none⟩) x106000_5.length co129), (by first | rfl | (simp; done) | (simp [*]; done)), H', ⟨by have := HK1.out; have := HJ6.out; have := HJ101.out; have := HJ114.out; have := HK5.out; omega⟩, ⟨by (with_reducible repeat (first | apply Kd.R_alloc | apply Kd.R_drewN | apply Kd.R_drew)); exact HO_106000.out⟩, ⟨by (with_reducible repeat (first | refine blk_drewN ?_ _ | refine blk_drew ?_ | refine blk_alloc ?_ _)); exact BK103.out⟩, ⟨by (with_reducible repeat (first | refine blk_drewN ?_ _ | refine blk_drew ?_ | refine blk_alloc ?_ _)); exact BK104.out⟩, ⟨by (with_reducible repeat (first | refine blk_drewN ?_ _ | refine blk_drew ?_ | refine blk_alloc ?_ _)); exact BK105.out⟩, ⟨by repeat (first | (with_reducible first | exact HB.out | apply below_alloc | apply pw_below_drewN | apply below_drew1 | refine below_set ?_ GE103.out | refine below_set ?_ GE104.out | refine below_set ?_ GE105.out) | exact HB.out)⟩⟩
               ·rw [if_neg c128] at H
                exact absurd H (by simp)
              ·rw [if_neg c127] at H
               exact absurd H (by simp)
             ·rw [if_neg c126] at H
              have c126b0 : decide (x10_5 < (wrap64 (1 + (Int.tmod x9_114 (ji120))))) = false := decide_eq_false c126
              clear c126
              simp only [Option.some.injEq, Prod.mk.injEq] at H
              obtain ⟨rfl, rfl⟩ := H
              have hnb135 := NB105_103.out
              have hnc135 := NB103_105.out
              have hnb136 := NB105_104.out
              have hnc136 := NB104_105.out
              have hcz137_0 : wr.cell? ⟨gb105, 0, none⟩ = some (u106000) := (blk_cell BK105.out 0).trans rfl
              have hcz137_1 : wr.cell? ⟨gb105, 1, none⟩ = some (.int .i64 (wrap64 (1 + (Int.tmod x9_114 (ji120))))) := (blk_cell BK105.out 1).trans rfl
              have hfz137_0 := blk_frozen BK105.out 0
              have hfz137_1 := blk_frozen BK105.out 1
              obtain ⟨Ao138, co138, eo138⟩ := Kd.R_slice HO_106000.out
              subst eo138
              have hnb139 := NB104_103.out
              have hnc139 := NB103_104.out
              have hcz140_0 : wr.cell? ⟨gb104, 0, none⟩ = some (.slice none 0 0) := (blk_cell BK104.out 0).trans rfl
              have hcz140_1 : wr.cell? ⟨gb104, 1, none⟩ = some (.int .i64 0) := (blk_cell BK104.out 1).trans rfl
              have hfz140_0 := blk_frozen BK104.out 0
              have hfz140_1 := blk_frozen BK104.out 1
              go_wp2
              refine bodyPost_ret (results_cell_row rfl _ _ gb104 24 #[.slice Ao138 x106000_5.length co138, .int .i64 (wrap64 (1 + (Int.tmod x9_114 (ji120))))] (0, 0) _ rfl (by (with_reducible repeat (first | refine blk_drewN ?_ _ | refine blk_drew ?_ | refine blk_alloc ?_ _)); refine blk_put (cs := #[.slice Ao138 x106000_5.length co138, .int .i64 0]) ?_ 1 _ rfl; (with_reducible repeat (first | refine blk_drewN ?_ _ | refine blk_drew ?_ | refine blk_alloc ?_ _)); refine blk_put (cs := #[.slice none 0 0, .int .i64 0]) ?_ 0 _ rfl; (with_reducible repeat (first | refine blk_drewN ?_ _ | refine blk_drew ?_ | refine blk_alloc ?_ _)); exact BK104.out) Tryd.underlying24 rfl (by kernel_rfl)) rfl ?_
              exact ⟨_, by first | rfl | (simp [errW_none, errW_some] <;> rfl) | (simp only [← hji120]; first | rfl | (simp [errW_none, errW_some] <;> rfl)) | (simp [*, errW_none, errW_some] <;> rfl), by (with_reducible repeat (first | apply Kd.R_alloc | apply Kd.R_drewN | apply Kd.R_drew)); exact Kd.R_mono (Kd.R_far (p := ⟨gb104, 1, none⟩) (Kd.R_far (p := ⟨gb104, 0, none⟩) (Kd.R_types HO_106000.out BK104.out (by decide)) (fun _ hk => hk.2) (.slice Ao138 x106000_5.length co138)) (fun _ hk => hk.2) (.int .i64 (wrap64 (1 + (Int.tmod x9_114 (ji120)))))) (fun _ hk => trivial), by repeat (first | (with_reducible first | exact HB.out | apply below_alloc | apply pw_below_drewN | apply below_drew1 | refine below_set ?_ GE103.out | refine below_set ?_ GE104.out | refine below_set ?_ GE105.out) | exact HB.out)⟩

end Go.Proofs.YtaddlkokencbkaaDoor.Q
