/- Plain law: what was written of a row that fits is read as it was, whatever stands behind it. -/
import Derived.Test.YtaddlkokencbkaaDoorMRow
import Derived.Test.YtaddlkokencbkaaDoorPut
import Derived.Test.YtaddlkokencbkaaDoorU8V
namespace Go.Proofs.YtaddlkokencbkaaDoor.RoundP
open Go.RowKit Go.Proofs.YtaddlkokencbkaaDoorW.PrintWords Go.Proofs.YtaddlkokencbkaaDoorW.PrintLast Go.Proofs.YtaddlkokencbkaaDoorW.PrintMore Go.Proofs.YtaddlkokencbkaaDoor.Q Go.Proofs.YtaddlkokencbkaaDoor.Plain Go.Proofs.YtaddlkokencbkaaDoor.Exact Go.Proofs.YtaddlkokencbkaaDoor.OpenA Go.Proofs.YtaddlkokencbkaaDoor.May Go.Proofs.YtaddlkokencbkaaDoor.Rd Go.Proofs.YtaddlkokencbkaaDoor.RdN Go.Proofs.YtaddlkokencbkaaDoor.Fits Go.Proofs.YtaddlkokencbkaaDoor.Bits Go.Proofs.YtaddlkokencbkaaDoor.Row Go.Proofs.YtaddlkokencbkaaDoor.Img Go.Proofs.YtaddlkokencbkaaDoor.Put
set_option linter.unusedVariables false
def FitAll : List Col → List V → Prop
  | [], [] => True
  | c :: cs, v :: vs => Fit c v ∧ FitAll cs vs
  | _, _ => False
theorem FitAll.len : ∀ {cs : List Col} {vs : List V}, FitAll cs vs → cs.length = vs.length
  | [], [], _ => rfl
  | _ :: _, _ :: _, h => by simp [FitAll.len h.2]
  | [], _ :: _, h => h.elim
  | _ :: _, [], h => h.elim
theorem FitAll.take : ∀ {cs : List Col} {vs : List V} (n : Nat), FitAll cs vs → FitAll (cs.take n) (vs.take n)
  | [], [], n, _ => by simp [FitAll]
  | _ :: _, _ :: _, 0, _ => by simp [FitAll]
  | _ :: _, _ :: _, n + 1, h => ⟨h.1, FitAll.take n h.2⟩
  | [], _ :: _, _, h => h.elim
  | _ :: _, [], _, h => h.elim
/-- A row's bits, from its head. -/
def bitsH : List V → Int
  | [] => 0
  | v :: vs => (if v.f0 = 0 then 1 else 0) + 2 * bitsH vs
theorem bitsH_snoc (l : List V) (v : V) : bitsH (l ++ [v]) = bitsH l + if v.f0 = 0 then ((2 ^ l.length : Nat) : Int) else 0 := by
  induction l with
  | nil => simp [bitsH]
  | cons u l ih =>
    simp only [List.cons_append, bitsH, ih, List.length_cons, Nat.pow_succ]
    split <;> split <;> omega
theorem take_rd (l : List V) (i : Nat) (h : i < l.length) : l.take (i + 1) = l.take i ++ [rd_T51 l (i : Int)] := by
  rw [List.take_succ_eq_append_getElem h]
  congr 2
  unfold rd_T51
  simp [List.getD_eq_getElem?_getD, List.getElem?_eq_getElem h]
theorem bitsTo_H (l : List V) : ∀ i, i ≤ l.length → bitsTo l i = bitsH (l.take i)
  | 0, _ => rfl
  | i + 1, h => by
    rw [take_rd l i (by omega), bitsH_snoc, bitsTo, bitsTo_H l i (by omega), List.length_take, Nat.min_eq_left (by omega)]
theorem valsTo_H (l : List V) : ∀ i, i ≤ l.length → valsTo l i = (l.take i).flatMap valB
  | 0, _ => rfl
  | i + 1, h => by
    rw [take_rd l i (by omega), List.flatMap_append, valsTo, valsTo_H l i (by omega)]
    simp
theorem rowB_H (l : List V) : rowB l = bitsH l :: l.flatMap valB := by
  unfold rowB
  rw [bitsTo_H l _ (Nat.le_refl _), valsTo_H l _ (Nat.le_refl _), List.take_length]
theorem bitsH_range : ∀ (l : List V), 0 ≤ bitsH l ∧ bitsH l < ((2 ^ l.length : Nat) : Int)
  | [] => by simp [bitsH]
  | v :: l => by
    have := bitsH_range l
    simp only [bitsH, List.length_cons, Nat.pow_succ]
    split <;> omega
theorem v_ext {v u : V} (h0 : v.f0 = u.f0) (h1 : v.f1 = u.f1) (h2 : v.f2 = u.f2) : v = u := by
  cases v; cases u; simp_all
theorem val_read {c : Col} {v : V} (hc : 1 ≤ c.f1 ∧ c.f1 ≤ 4) (h : Fit c v) (h0 : v.f0 ≠ 0) (rest : List Int) : valR c.f1 (valB v ++ rest) 0 = (v, rest, 0) := by
  have hk : c.f1 = v.f0 := by
    rcases h.kind with k | k
    · exact k.symm
    · exact absurd k.1 h0
  have hr := h.range hc
  rw [hk]
  have hcase : v.f0 = 1 ∨ v.f0 = 2 ∨ (v.f0 = 3 ∨ v.f0 = 4) := by omega
  rcases hcase with k | k | k
  · have hb := h.bool k
    have e1 : valB v = [v.f1 % 256] := by unfold valB; rw [if_pos k]
    have e2 : v.f1 % 256 = v.f1 := by omega
    unfold valR
    rw [if_pos k, e1, e2]
    have e3 : byteE ([v.f1] ++ rest) 0 = 0 := by unfold byteE; rw [if_pos ⟨rfl, by simp⟩]
    rw [e3]
    exact Prod.ext (v_ext k.symm rfl hb.2.symm) rfl
  · have hi := h.int k
    have e1 : valB v = digs (Lib.zigzag v.f1) := by unfold valB; rw [if_neg (by omega), if_pos k]
    have hz := Lib.zigzag_lt hi.1.1 hi.1.2
    unfold valR
    rw [if_neg (by omega), if_pos k, e1, rdD_digs (by omega), unz_zig]
    exact Prod.ext (v_ext k.symm rfl hi.2.symm) rfl
  · have ht : v.f1 = 0 ∧ v.f2.size ≤ 40 := by
      rcases k with k | k
      · exact ⟨(h.text k).1, (h.text k).2.1⟩
      · exact h.byte k
    have e1 : valB v = digs v.f2.size ++ bytesOf v.f2 := by unfold valB; rw [if_neg (by omega), if_neg (by omega), if_pos k]
    have hs : (bytesOf v.f2).length = v.f2.size := bytesOf_length v.f2
    unfold valR
    rw [if_neg (by omega), if_neg (by omega), e1, List.append_assoc, ← hs, rdT_text (by omega) (by omega), ofNums_bytesOf]
    exact Prod.ext (v_ext rfl ht.1.symm rfl) rfl
theorem row_read (more : List Int) : ∀ (cs : List Col) (r : List V), FitAll cs r → KindsOk cs → rowR cs (bitsH r) (r.flatMap valB ++ more) 0 = (r, more, 0)
  | [], [], _, _ => rfl
  | [], _ :: _, h, _ => h.elim
  | _ :: _, [], h, _ => h.elim
  | c :: cs, v :: r, h, hk => by
    obtain ⟨hv, hr⟩ := h
    have hc := hk c (by simp)
    have ih := row_read more cs r hr (fun x hx => hk x (by simp [hx]))
    by_cases h0 : v.f0 = 0
    · have hn := hv.null h0
      have e1 : valB v = [] := by unfold valB; rw [if_neg (by omega), if_neg (by omega), if_neg (by omega)]
      have e2 : bitsH (v :: r) % 2 = 1 := by simp only [bitsH]; rw [if_pos h0]; omega
      have e3 : bitsH (v :: r) / 2 = bitsH r := by simp only [bitsH]; rw [if_pos h0]; omega
      have e4 : v = nullV := v_ext h0 hn.1 hn.2
      rw [rowR, oneR, if_pos e2, e3, List.flatMap_cons, e1, List.nil_append, ih, ← e4]
    · have e2 : ¬ bitsH (v :: r) % 2 = 1 := by simp only [bitsH]; rw [if_neg h0]; omega
      have e3 : bitsH (v :: r) / 2 = bitsH r := by simp only [bitsH]; rw [if_neg h0]; omega
      rw [rowR, oneR, if_neg e2, e3, List.flatMap_cons, List.append_assoc, val_read hc hv h0, ih]
theorem may_fit {c : Col} {v : V} (hc : 1 ≤ c.f1 ∧ c.f1 ≤ 4) (h : Fit c v) : mayB v.f0 v.f1 v.f2 = true := by
  have hr := h.range hc
  have he : (⟨#[]⟩ : ByteArray).toList.isEmpty = true := by rw [ByteArray.toList_eq]; rfl
  have hcase : v.f0 = 0 ∨ v.f0 = 1 ∨ v.f0 = 2 ∨ v.f0 = 3 ∨ v.f0 = 4 := by omega
  unfold mayB
  rcases hcase with k | k | k | k | k
  · rw [if_pos k, (h.null k).1, (h.null k).2, he]; rfl
  · rw [if_neg (by omega), if_pos k, (h.bool k).2, he]
    rcases (h.bool k).1 with e | e <;> rw [e] <;> rfl
  · rw [if_neg (by omega), if_neg (by omega), if_pos k, (h.int k).2, he]
  · have ht := h.text k
    rw [if_neg (by omega), if_neg (by omega), if_neg (by omega), if_pos k, ht.1, ← U8V.u8ok_valid, ht.2.2, decide_eq_true (show (v.f2.size : Int) ≤ 4096 by omega)]
    rfl
  · have ht := h.byte k
    rw [if_neg (by omega), if_neg (by omega), if_neg (by omega), if_neg (by omega), if_pos k, ht.1, decide_eq_true (show (v.f2.size : Int) ≤ 4096 by omega)]
    rfl
theorem fits_row : ∀ (cs : List Col) (r : List V), FitAll cs r → KindsOk cs → fitsB cs r = true
  | [], [], _, _ => rfl
  | [], _ :: _, h, _ => h.elim
  | _ :: _, [], h, _ => h.elim
  | c :: cs, v :: r, h, hk => by
    obtain ⟨hv, hr⟩ := h
    have hc := hk c (by simp)
    rw [fitsB, fits_row cs r hr (fun x hx => hk x (by simp [hx])), standB, may_fit hc hv]
    rcases hv.kind with k | k
    · simp [k]
    · simp [k.1, k.2]
theorem ok_row (more : List Int) (cs : List Col) (r : List V) (h : FitAll cs r) (hk : KindsOk cs) :
    okB cs (byteV (rowB r ++ more) 0) (byteL (rowB r ++ more) 0) (byteE (rowB r ++ more) 0) = true ∧ (rowR cs (byteV (rowB r ++ more) 0) (byteL (rowB r ++ more) 0) (byteE (rowB r ++ more) 0)) = (r, more, 0) := by
  have hl := h.len
  have e1 : byteV (rowB r ++ more) 0 = bitsH r := by rw [rowB_H]; rfl
  have e2 : byteL (rowB r ++ more) 0 = r.flatMap valB ++ more := by rw [rowB_H]; rfl
  have e3 : byteE (rowB r ++ more) 0 = 0 := by rw [rowB_H]; unfold byteE; rw [if_pos ⟨rfl, by simp⟩]
  have e4 := row_read more cs r h hk
  rw [e1, e2, e3]
  refine ⟨?_, e4⟩
  unfold okB
  rw [e4, fits_row cs r h hk, hl, decide_eq_true (bitsH_range r).2]
  rfl
theorem fit_all : ∀ (cs : List Col) (r : List V), r.length = cs.length → (∀ i : Nat, i < cs.length → Fit (rd_T69 cs (i : Int)) (rd_T51 r (i : Int))) → FitAll cs r
  | [], [], _, _ => trivial
  | c :: cs, v :: r, hl, h => by
    refine ⟨h 0 (by simp), fit_all cs r (by simpa using hl) fun i hi => ?_⟩
    have := h (i + 1) (by simp; omega)
    unfold rd_T69 rd_T51 at this ⊢
    simpa using this
  | [], _ :: _, hl, _ => by simp at hl
  | _ :: _, [], hl, _ => by simp at hl
end Go.Proofs.YtaddlkokencbkaaDoor.RoundP
