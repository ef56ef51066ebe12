/- Plain laws: a row's bytes tell the row, and where they end. -/
import Derived.Test.YtaddlkokencbkaaPut
namespace Go.Proofs.Ytaddlkokencbkaa.Inj
open Go.RowKit Go.Proofs.YtaddlkokencbkaaW.PrintWords Go.Proofs.YtaddlkokencbkaaW.PrintLast Go.Proofs.YtaddlkokencbkaaW.PrintMore Go.Proofs.Ytaddlkokencbkaa.Q Go.Proofs.Ytaddlkokencbkaa.Plain Go.Proofs.Ytaddlkokencbkaa.Exact Go.Proofs.Ytaddlkokencbkaa.OpenA Go.Proofs.Ytaddlkokencbkaa.Img Go.Proofs.Ytaddlkokencbkaa.Put
set_option linter.unusedVariables false

theorem val_ext {v u : S48} (h0 : v.f0 = u.f0) (h1 : v.f1 = u.f1) (h2 : v.f2 = u.f2) : v = u := by
  cases v; cases u; simp_all
theorem zig_inj {a b : Int} (h : Lib.zigzag a = Lib.zigzag b) : a = b := by
  unfold Lib.zigzag at h
  split at h <;> split at h <;> omega
theorem bytesOf_inj {a b : ByteArray} (h : bytesOf a = bytesOf b) : a = b := by
  rw [← ofNums_bytesOf a, ← ofNums_bytesOf b, h]
/-- Values of one kind, each fit for one column: their bytes, and what is behind them, tell them. -/
def Compat (v u : S48) : Prop := v.f0 = u.f0 ∧ ∃ c, 1 ≤ c.f1 ∧ c.f1 ≤ 4 ∧ Fit c v ∧ Fit c u
theorem valB_inj {v u : S48} (h : Compat v u) (s t : List Int) (e : valB v ++ s = valB u ++ t) : v = u ∧ s = t := by
  obtain ⟨h0, c, hc1, hc4, hv, hu⟩ := h
  have hr := hv.range ⟨hc1, hc4⟩
  have : v.f0 = 0 ∨ v.f0 = 1 ∨ v.f0 = 2 ∨ v.f0 = 3 ∨ v.f0 = 4 := by omega
  rcases this with k | k | k | k | k
  · have k2 : u.f0 = 0 := by omega
    have e1 : valB v = [] := by unfold valB; simp [k]
    have e2 : valB u = [] := by unfold valB; simp [k2]
    rw [e1, e2] at e
    exact ⟨val_ext h0 ((hv.null k).1.trans (hu.null k2).1.symm) ((hv.null k).2.trans (hu.null k2).2.symm), by simpa using e⟩
  · have k2 : u.f0 = 1 := by omega
    have e1 : valB v = [v.f1 % 256] := by unfold valB; simp [k]
    have e2 : valB u = [u.f1 % 256] := by unfold valB; simp [k2]
    rw [e1, e2] at e
    simp at e
    have a := (hv.bool k).1
    have b := (hu.bool k2).1
    exact ⟨val_ext h0 (by omega) ((hv.bool k).2.trans (hu.bool k2).2.symm), e.2⟩
  · have k2 : u.f0 = 2 := by omega
    have e1 : valB v = digs (Lib.zigzag v.f1) := by unfold valB; simp [k]
    have e2 : valB u = digs (Lib.zigzag u.f1) := by unfold valB; simp [k2]
    rw [e1, e2] at e
    obtain ⟨a, b⟩ := digs_inj _ _ _ _ e
    exact ⟨val_ext h0 (zig_inj a) ((hv.int k).2.trans (hu.int k2).2.symm), b⟩
  · have k2 : u.f0 = 3 := by omega
    have e1 : valB v = digs v.f2.size ++ bytesOf v.f2 := by unfold valB; simp [k]
    have e2 : valB u = digs u.f2.size ++ bytesOf u.f2 := by unfold valB; simp [k2]
    rw [e1, e2, List.append_assoc, List.append_assoc] at e
    obtain ⟨a, b⟩ := digs_inj _ _ _ _ e
    obtain ⟨b1, b2⟩ := List.append_inj b (by rw [bytesOf_length, bytesOf_length, a])
    exact ⟨val_ext h0 ((hv.text k).1.trans (hu.text k2).1.symm) (bytesOf_inj b1), b2⟩
  · have k2 : u.f0 = 4 := by omega
    have e1 : valB v = digs v.f2.size ++ bytesOf v.f2 := by unfold valB; simp [k]
    have e2 : valB u = digs u.f2.size ++ bytesOf u.f2 := by unfold valB; simp [k2]
    rw [e1, e2, List.append_assoc, List.append_assoc] at e
    obtain ⟨a, b⟩ := digs_inj _ _ _ _ e
    obtain ⟨b1, b2⟩ := List.append_inj b (by rw [bytesOf_length, bytesOf_length, a])
    exact ⟨val_ext h0 ((hv.byte k).1.trans (hu.byte k2).1.symm) (bytesOf_inj b1), b2⟩

theorem rdv_cons (v : S48) (p : List S48) (i : Nat) : rd_T48 (v :: p) ((i + 1 : Nat) : Int) = rd_T48 p (i : Int) := by
  unfold rd_T48
  simp [List.getD_eq_getElem?_getD]
theorem valsTo_cons (v : S48) (p : List S48) : ∀ i, valsTo (v :: p) (i + 1) = valB v ++ valsTo p i
  | 0 => by simp [valsTo]; rfl
  | i + 1 => by
    have := valsTo_cons v p i
    rw [valsTo, this, rdv_cons, valsTo, List.append_assoc]
theorem vals_inj : ∀ (p q : List S48), p.length = q.length → (∀ i : Nat, i < p.length → Compat (rd_T48 p (i : Int)) (rd_T48 q (i : Int))) → ∀ s t, valsTo p p.length ++ s = valsTo q q.length ++ t → p = q ∧ s = t
  | [], [], _, _, s, t, h => ⟨rfl, by simpa [valsTo] using h⟩
  | [], _ :: _, h, _, _, _, _ => by simp at h
  | _ :: _, [], h, _, _, _, _ => by simp at h
  | v :: p, u :: q, hl, hc, s, t, h => by
    simp only [List.length_cons] at h
    rw [valsTo_cons, valsTo_cons, List.append_assoc, List.append_assoc] at h
    obtain ⟨e1, e2⟩ := valB_inj (hc 0 (by simp)) _ _ h
    obtain ⟨e3, e4⟩ := vals_inj p q (by simpa using hl) (fun i hi => by
      have := hc (i + 1) (by simp; omega)
      rw [rdv_cons, rdv_cons] at this
      exact this) s t e2
    exact ⟨by rw [show v = u from e1, e3], e4⟩

theorem bits_inj (p q : List S48) : ∀ n, bitsTo p n = bitsTo q n → ∀ i, i < n → ((rd_T48 p (i : Int)).f0 = 0 ↔ (rd_T48 q (i : Int)).f0 = 0)
  | 0, _, i, hi => by omega
  | n + 1, h, i, hi => by
    have a := bitsTo_range p n
    have b := bitsTo_range q n
    simp only [bitsTo] at h
    have hn : ((rd_T48 p (n : Int)).f0 = 0 ↔ (rd_T48 q (n : Int)).f0 = 0) ∧ bitsTo p n = bitsTo q n := by
      by_cases c1 : (rd_T48 p (n : Int)).f0 = 0
      · by_cases c2 : (rd_T48 q (n : Int)).f0 = 0
        · rw [if_pos c1, if_pos c2] at h
          exact ⟨⟨fun _ => c2, fun _ => c1⟩, by omega⟩
        · rw [if_pos c1, if_neg c2] at h
          omega
      · by_cases c2 : (rd_T48 q (n : Int)).f0 = 0
        · rw [if_neg c1, if_pos c2] at h
          omega
        · rw [if_neg c1, if_neg c2] at h
          exact ⟨⟨fun x => absurd x c1, fun x => absurd x c2⟩, by omega⟩
    by_cases hin : i = n
    · subst hin
      exact hn.1
    · exact bits_inj p q n hn.2 i (by omega)

/-- Two rows of the same columns. -/
theorem rowB_inj (cs : List S67) (p q : List S48) (hk : KindsOk cs) (hp : p.length = cs.length) (hq : q.length = cs.length) (fp : ∀ i : Nat, i < cs.length → Fit (rd_T67 cs (i : Int)) (rd_T48 p (i : Int)))
    (fq : ∀ i : Nat, i < cs.length → Fit (rd_T67 cs (i : Int)) (rd_T48 q (i : Int))) (s t : List Int) (h : rowB p ++ s = rowB q ++ t) : p = q ∧ s = t := by
  unfold rowB at h
  simp only [List.cons_append, List.cons.injEq] at h
  refine vals_inj p q (by omega) (fun i hi => ?_) s t h.2
  have hb := bits_inj p q p.length (by rw [h.1, hp, hq]) i hi
  have hc := hk _ (rd_mem cs i (by omega))
  refine ⟨?_, _, hc.1, hc.2, fp i (by omega), fq i (by omega)⟩
  rcases (fp i (by omega)).kind with a | ⟨a, _⟩ <;> rcases (fq i (by omega)).kind with b | ⟨b, _⟩
  · omega
  · have := hb.2 b; omega
  · have := hb.1 a; omega
  · omega

theorem valB_bytes (v : S48) : Bytes (valB v) := by
  unfold valB
  split
  · intro x hx
    simp at hx
    omega
  · split
    · exact digs_bytes _
    · split
      · exact (digs_bytes _).append (bytesOf_bytes _)
      · intro x hx; cases hx
theorem valsTo_bytes (row : List S48) : ∀ i, Bytes (valsTo row i)
  | 0 => fun x hx => by cases hx
  | i + 1 => (valsTo_bytes row i).append (valB_bytes _)
theorem rowB_bytes (row : List S48) (h : row.length ≤ 8) : Bytes (rowB row) := by
  have := bitsTo_range row row.length
  have hp : 2 ^ row.length ≤ 2 ^ 8 := Nat.pow_le_pow_right (by omega) h
  unfold rowB
  intro x hx
  rcases List.mem_cons.1 hx with rfl | hx
  · omega
  · exact valsTo_bytes row _ x hx
end Go.Proofs.Ytaddlkokencbkaa.Inj
