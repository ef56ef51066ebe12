/- Arguments opened: slices of whole numbers, of values, and schemas, as lists that the printed walks take. -/
import Derived.Test.YtaddlkokencbkaaDoorQ0
import Derived.Deep.Slices
import Derived.Deep.Fields
import Derived.ChangeSame
import Derived.Lib.SmallJoins
import Derived.ProofKit
import Derived.OpenShut
import Derived.ShutString
namespace Go.Proofs.YtaddlkokencbkaaDoor.OpenA
open Go.RowKit Go.Proofs.YtaddlkokencbkaaDoorW.PrintWords Go.Proofs.YtaddlkokencbkaaDoorW.PrintLast Go.Proofs.YtaddlkokencbkaaDoor.Q
open Go.ChangeShapes Go.WideShapes Go.Deep Go.Joins
set_option linter.unusedVariables false
set_option maxRecDepth 100000

section
variable {H : Type} {enc : TypeId × Value → H} {P : Program} {w : World} {base : Nat} {spare : Nat → Bool} {held : Bool}
theorem open_slice_fields {t e : TypeId} {fs : Array Field} {fuel : Nat} {cs : List Value} {x : DataW H × List MemPlace} (ht : P.underlying t = some (.slice e)) (he : P.underlying e = some (.struct fs))
    (hone : oneCellFields P fs = true) (hC : P.cellsOf e = fs.size) (h : DataW.trod enc P w base spare held fuel t cs = some x) :
    (cs = [.slice none 0 0] ∧ x = (.nil, [])) ∨
    ∃ (a : Addr) (len cap m : Nat) (D : Nat → DataW H) (Pl : Nat → List MemPlace), cs = [.slice (some a) len cap] ∧ base ≤ a.block ∧ len ≤ cap ∧ cap ≤ maxLen ∧ m = (if spare a.block then cap else len) ∧
      x = (.slice ((List.range len).map D) ((List.range (m - len)).map fun j => D (len + j)), MemPlace.row a (m * fs.size) ++ (List.range m).flatMap Pl) ∧
      ∀ i, i < m → ∃ (ys : List (DataW H × List MemPlace)) (n : Nat), D i = .agg (ys.map (·.1)) ∧ Pl i = ys.flatMap (·.2) ∧ ys.length = fs.size ∧
        ∀ (j : Nat) (f : Field), fs[j]? = some f → ∃ (v : Value) (y : DataW H × List MemPlace), w.cell? (a.add (i * fs.size + j)) = some v ∧ ys[j]? = some y ∧ DataW.trod enc P w base spare held n f.type [v] = some y := by
  rcases open_slice ht h with h0 | ⟨a, len, cap, m, n, D, Pl, hcs, hb, hl, hm, hmm, hx, hi⟩
  · exact .inl h0
  · refine .inr ⟨a, len, cap, m, D, Pl, hcs, hb, hl, hm, hmm, by rw [hC] at hx; exact hx, fun i him => ?_⟩
    obtain ⟨cs', hc, ht'⟩ := hi i him
    rw [hC] at hc
    obtain ⟨ys, n', hn', hy, hlen, hyl, hf⟩ := DataW.trod_struct he ht'
    obtain ⟨_, hcl, hat⟩ := World.cells?_some hc
    simp only [Prod.mk.injEq] at hy
    refine ⟨ys, n', hy.1, hy.2, hyl, fun j f hj => ?_⟩
    obtain ⟨ho, hk⟩ := hone_of hone j f hj
    have hjl : j < fs.size := (Array.getElem?_eq_some_iff.1 hj).1
    have hcell := hat j hjl
    have hv : cs'[j]? = some (cs'[j]'(by omega)) := List.getElem?_eq_getElem (by omega)
    have h1 := hf j f hj
    rw [ho, hk] at h1
    have hone' : (cs'.drop j).take 1 = [cs'[j]'(by omega)] := by
      rw [List.drop_eq_getElem_cons (by omega)]
      rfl
    rw [hone'] at h1
    have hys : ys[j]? = some (ys[j]'(by omega)) := List.getElem?_eq_getElem (by omega)
    refine ⟨_, _, ?_, hys, h1.trans hys⟩
    rw [← Go.Deep.add_add, hcell, hv]
end

def RangeI (x : Int) : Prop := -9223372036854775808 ≤ x ∧ x ≤ 9223372036854775807
theorem rangeI_of {x : Int} (h : (Lit.int .i64 x).wf = true) : RangeI x := by
  simp [Lit.wf, IntKind.min, IntKind.max, IntKind.bits, IntKind.signed] at h
  unfold RangeI
  omega
def OkV (x : S51) : Prop := RangeI x.f0 ∧ RangeI x.f1
def OkC (x : S69) : Prop := RangeI x.f1

theorem list_of {α : Type} {z : α} : ∀ (n : Nat) (P : Nat → α → Prop), (∀ i, i < n → ∃ x, P i x) → ∃ l : List α, l.length = n ∧ ∀ i x, l[i]? = some x → P i x
  | 0, _, _ => ⟨[], rfl, fun i x h => by simp at h⟩
  | n + 1, P, h => by
    obtain ⟨l, hl, hP⟩ := list_of (z := z) n P (fun i hi => h i (by omega))
    obtain ⟨x, hx⟩ := h n (by omega)
    refine ⟨l ++ [x], by simp [hl], fun i y hy => ?_⟩
    rcases Nat.lt_or_ge i n with hi | hi
    · rw [List.getElem?_append_left (by omega)] at hy
      exact hP i y hy
    · rw [List.getElem?_append_right (by omega)] at hy
      have : i - l.length = 0 := by
        rcases Nat.eq_zero_or_pos (i - l.length) with h0 | h0
        · exact h0
        · rw [List.getElem?_eq_none (by simp; omega)] at hy; cases hy
      rw [this] at hy
      simp at hy
      subst hy
      have : i = n := by omega
      subst this
      exact hx

section
variable {H : Type} {enc : TypeId × Value → H} {w : World} {spare : Nat → Bool} {held : Bool}
theorem at3 {fs : Array Field} {f0 f1 f2 : Field} (hfs : fs = #[f0, f1, f2]) : fs[0]? = some f0 ∧ fs[1]? = some f1 ∧ fs[2]? = some f2 := by subst hfs; exact ⟨rfl, rfl, rfl⟩

theorem open_values {base fuel : Nat} {cs : List Value} {x : DataW H × List MemPlace} (h : DataW.trod enc Tryd.prog w base spare held fuel 34 cs = some x) :
    ∃ (A : Option Addr) (c : Nat) (l : List S51), cs = [.slice A l.length c] ∧ l.length ≤ c ∧ Kd.C k51 w A l.length l ∧ ∀ y ∈ l, OkV y := by
  rcases open_slice_fields (P := Tryd.prog) (e := 51) Tryd.underlying34 Tryd.underlying51 (by kernel_rfl) (by kernel_rfl) h with ⟨rfl, _⟩ | ⟨a, len, cap, m, D, Pl, rfl, _, hl, hm, hmm, _, hi⟩
  · exact ⟨none, 0, [], rfl, Nat.le_refl _, Kd.C_nil _ _, fun y hy => by cases hy⟩
  · have hlm : len ≤ m := by rw [hmm]; split <;> omega
    have key : ∀ i, i < len → ∃ y : S51, OkV y ∧ w.cell? (a.add (i * 3 + 0)) = some (.int .i64 y.f0) ∧ w.cell? (a.add (i * 3 + 1)) = some (.int .i64 y.f1) ∧ w.cell? (a.add (i * 3 + 2)) = some (.string y.f2) := by
      intro i hi'
      obtain ⟨ys, n, _, _, _, hf⟩ := hi i (by omega)
      obtain ⟨v0, y0, c0, _, t0⟩ := hf 0 _ rfl
      obtain ⟨v1, y1, c1, _, t1⟩ := hf 1 _ rfl
      obtain ⟨v2, y2, c2, _, t2⟩ := hf 2 _ rfl
      obtain ⟨b0, e0, _, w0⟩ := DataW.trod_int Tryd.underlying3 t0
      obtain ⟨b1, e1, _, w1⟩ := DataW.trod_int Tryd.underlying3 t1
      obtain ⟨b2, e2, _, _⟩ := DataW.trod_string Tryd.underlying9 t2
      simp only [List.cons.injEq, and_true] at e0 e1 e2
      subst e0 e1 e2
      exact ⟨⟨b0, b1, b2⟩, ⟨rangeI_of w0, rangeI_of w1⟩, c0, c1, c2⟩
    obtain ⟨l, hll, hP⟩ := list_of (z := z51) len _ key
    refine ⟨some a, cap, l, by rw [hll], by omega, ⟨rfl, by simp only [maxLen] at hm; omega, fun _ => ⟨a, rfl, fun j y hj => ⟨[.int .i64 y.f0, .int .i64 y.f1, .string y.f2], rfl, k51_mk w y, fun i u hu => ?_⟩⟩⟩, fun y hy => ?_⟩
    · obtain ⟨_, h0, h1, h2⟩ := hP j y hj
      match i, hu with
      | 0, hu => simp at hu; subst hu; exact h0
      | 1, hu => simp at hu; subst hu; exact h1
      | 2, hu => simp at hu; subst hu; exact h2
    · obtain ⟨i, hi', e⟩ := List.getElem_of_mem hy
      exact (hP i y (by rw [← e]; exact List.getElem?_eq_getElem hi')).1

theorem open_columns {base fuel : Nat} {cs : List Value} {x : DataW H × List MemPlace} (h : DataW.trod enc Tryd.prog w base spare held fuel 22 cs = some x) :
    ∃ (A : Option Addr) (c : Nat) (l : List S69), cs = [.slice A l.length c] ∧ l.length ≤ c ∧ Kd.C k69 w A l.length l ∧ ∀ y ∈ l, OkC y := by
  rcases open_slice_fields (P := Tryd.prog) (e := 69) Tryd.underlying22 Tryd.underlying69 (by kernel_rfl) (by kernel_rfl) h with ⟨rfl, _⟩ | ⟨a, len, cap, m, D, Pl, rfl, _, hl, hm, hmm, _, hi⟩
  · exact ⟨none, 0, [], rfl, Nat.le_refl _, Kd.C_nil _ _, fun y hy => by cases hy⟩
  · have hlm : len ≤ m := by rw [hmm]; split <;> omega
    have key : ∀ i, i < len → ∃ y : S69, OkC y ∧ w.cell? (a.add (i * 3 + 0)) = some (.string y.f0) ∧ w.cell? (a.add (i * 3 + 1)) = some (.int .i64 y.f1) ∧ w.cell? (a.add (i * 3 + 2)) = some (.bool y.f2) := by
      intro i hi'
      obtain ⟨ys, n, _, _, _, hf⟩ := hi i (by omega)
      obtain ⟨v0, y0, c0, _, t0⟩ := hf 0 _ rfl
      obtain ⟨v1, y1, c1, _, t1⟩ := hf 1 _ rfl
      obtain ⟨v2, y2, c2, _, t2⟩ := hf 2 _ rfl
      obtain ⟨b0, e0, _, _⟩ := DataW.trod_string Tryd.underlying9 t0
      obtain ⟨b1, e1, _, w1⟩ := DataW.trod_int Tryd.underlying3 t1
      obtain ⟨b2, e2, _⟩ := DataW.trod_bool Tryd.underlying4 t2
      simp only [List.cons.injEq, and_true] at e0 e1 e2
      subst e0 e1 e2
      exact ⟨⟨b0, b1, b2⟩, rangeI_of w1, c0, c1, c2⟩
    obtain ⟨l, hll, hP⟩ := list_of (z := z69) len _ key
    refine ⟨some a, cap, l, by rw [hll], by omega, ⟨rfl, by simp only [maxLen] at hm; omega, fun _ => ⟨a, rfl, fun j y hj => ⟨[.string y.f0, .int .i64 y.f1, .bool y.f2], rfl, k69_mk w y, fun i u hu => ?_⟩⟩⟩, fun y hy => ?_⟩
    · obtain ⟨_, h0, h1, h2⟩ := hP j y hj
      match i, hu with
      | 0, hu => simp at hu; subst hu; exact h0
      | 1, hu => simp at hu; subst hu; exact h1
      | 2, hu => simp at hu; subst hu; exact h2
    · obtain ⟨i, hi', e⟩ := List.getElem_of_mem hy
      exact (hP i y (by rw [← e]; exact List.getElem?_eq_getElem hi')).1

theorem open_schema {base : Nat} {r : Reach} {b0 : Nat} {v : Value} {d : DataW H} {p : List MemPlace} (hv : Value.okWide Tryd.prog w r b0 24 v) (h : DataW.Trod enc Tryd.prog w base spare held 24 v d p) :
    ∃ (A : Option Addr) (c : Nat) (l : List S69) (k : Int), v = .agg #[.slice A l.length c, .int .i64 k] ∧ l.length ≤ c ∧ Kd.C k69 w A l.length l ∧ (∀ y ∈ l, OkC y) ∧ RangeI k := by
  obtain ⟨v0, v1, y0, y1, n, rfl, _, _, h0, h1⟩ := open_agg2 Tryd.underlying24 (by kernel_rfl) (by kernel_rfl) hv h
  obtain ⟨A, c, l, e, hl, hC, hok⟩ := open_columns h0
  obtain ⟨k, e1, _, w1⟩ := DataW.trod_int Tryd.underlying3 h1
  simp only [List.cons.injEq, and_true] at e e1
  subst e e1
  exact ⟨A, c, l, k, rfl, hl, hC, hok, rangeI_of w1⟩

theorem open_value {base : Nat} {r : Reach} {b0 : Nat} {v : Value} {d : DataW H} {p : List MemPlace} (hv : Value.okWide Tryd.prog w r b0 51 v) (h : DataW.Trod enc Tryd.prog w base spare held 51 v d p) :
    ∃ (y : S51), v = .agg #[.int .i64 y.f0, .int .i64 y.f1, .string y.f2] ∧ OkV y := by
  obtain ⟨v0, v1, v2, y0, y1, y2, n, rfl, _, _, h0, h1, h2⟩ := open_agg3 Tryd.underlying51 (by kernel_rfl) (by kernel_rfl) hv h
  obtain ⟨b0, e0, _, w0⟩ := DataW.trod_int Tryd.underlying3 h0
  obtain ⟨b1, e1, _, w1⟩ := DataW.trod_int Tryd.underlying3 h1
  obtain ⟨b2, e2, _, _⟩ := DataW.trod_string Tryd.underlying9 h2
  simp only [List.cons.injEq, and_true] at e0 e1 e2
  subst e0 e1 e2
  exact ⟨⟨b0, b1, b2⟩, rfl, rangeI_of w0, rangeI_of w1⟩

theorem open_nums {T E : TypeId} {k : IntKind} (hT : Tryd.prog.underlying T = some (.slice E)) (hE : Tryd.prog.underlying E = some (.int k)) (hc : Tryd.prog.cellsOf E = 1) {base fuel : Nat} {cs : List Value} {x : DataW H × List MemPlace}
    (h : DataW.trod enc Tryd.prog w base spare held fuel T cs = some x) :
    ∃ (A : Option Addr) (c : Nat) (l : List Int), cs = [.slice A l.length c] ∧ l.length ≤ c ∧ Kd.C (Kd.int k) w A l.length l ∧ ∀ y ∈ l, (Lit.int k y).wf = true := by
  rcases open_ints hT hE hc h with ⟨rfl, _⟩ | ⟨a, len, cap, zs, rfl, _, hl, hm, hz, _, hcell, hwz⟩
  · exact ⟨none, 0, [], rfl, Nat.le_refl _, Kd.C_nil _ _, fun y hy => by cases hy⟩
  · have hzl : len ≤ zs.length := by rw [hz]; split <;> omega
    have hlt : (zs.take len).length = len := by rw [List.length_take]; omega
    refine ⟨some a, cap, zs.take len, ?_, ?_, Kd.C_of_reads (d := (0 : Int)) (h1 := fun _ => rfl) ⟨rfl, ?_, fun _ => ⟨a, rfl, fun j hj => ?_⟩⟩, fun y hy => hwz y (List.mem_of_mem_take hy)⟩
    · rw [hlt]
    · rw [hlt]; exact hl
    · rw [hlt]; simp only [maxLen] at hm; omega
    · rw [hlt] at hj
      rw [hcell j (by omega)]
      simp [List.getD_eq_getElem?_getD, hj]
end
end Go.Proofs.YtaddlkokencbkaaDoor.OpenA
